/- An object, put together of its blocks: the walk of segment.Join. Conditions: numbers are of their kinds. -/
import Derived.Test.YtnnkfopopanfjaaSegment
set_option linter.unusedVariables false
namespace Go.Proofs.Ytnnkfopopanfjaa
open Go.RowKit
attribute [local go_sem ↓] Go.wp_at_zero Go.wp_at_succ

/-- So many bytes of blocks, one behind the other. -/
def joinN (n : Nat) (ls : List (List UInt8)) : List UInt8 := ls.flatten.take n
theorem joinN_snoc (n : Nat) (ls : List (List UInt8)) (l : List UInt8) : joinN n (ls ++ [l]) = joinN n ls ++ l.take (n - (joinN n ls).length) := by
  unfold joinN
  rw [List.flatten_append, List.take_append, List.length_take]
  simp only [List.flatten_cons, List.flatten_nil, List.append_nil]
  congr 2
  omega
theorem flatten_len {B : Nat} {ls : List (List UInt8)} (h : fitB B ls = true) : ls.flatten.length = ls.length * B := by
  induction ls with
  | nil => simp
  | cons l r ih =>
    simp only [fitB, List.all_cons, Bool.and_eq_true, decide_eq_true_eq] at h
    rw [List.flatten_cons, List.length_append, h.1, ih h.2, List.length_cons, Nat.add_mul]; omega
theorem joinN_length {B n : Nat} {ls : List (List UInt8)} (h : fitB B ls = true) : (joinN n ls).length = min n (ls.length * B) := by
  unfold joinN; rw [List.length_take, flatten_len h]
theorem BytesIn.take {R : Nat → Prop} {w : World} {A : Option Addr} {l : List UInt8} (h : BytesIn R w A l) (k : Nat) : BytesIn R w A (l.take k) := by
  refine ⟨⟨by have := h.len; rw [enc8_length, List.length_take]; omega, fun h0 => ?_⟩, fun b off e h0 => h.2 b off e (by rw [List.length_take] at h0; omega)⟩
  rw [enc8_length, List.length_take] at h0
  obtain ⟨b, off, e, _, hc⟩ := h.get (by omega)
  refine ⟨b, off, e, fun j hj => ?_⟩
  rw [enc8_length, List.length_take] at hj
  rw [gi_enc8 _ j (by rw [List.length_take]; omega), hc j (by omega)]
  congr 4
  unfold gb
  rw [List.getD_eq_getElem?_getD, List.getD_eq_getElem?_getD, List.getElem?_take_of_lt (by omega)]
/-- 'append(v, b...)' of bytes, v the call's own; the lengths by their names. -/
theorem wpList_appB {ops : Array Oper} {rest : List Oper} {o : Oper} {a : Act} {Q : Exit → Act → World → Prop} (w : World) (hgd : o.guard = none) (s x : Operand) (t : TypeId)
    (ho : o.op = .call { callee := .builtin .append, args := #[s, x], argTypes := #[t, t] }) (base : Nat) (ht : Try.prog.underlying t = some (.slice 5)) (v : Value) (to : List UInt8) (hs : a.eval s = v) (hown : OwnB w base v to) (A : Option Addr) (n c : Nat) (b : List UInt8)
    (hx : a.eval x = .slice A n c) (hn : b.length = n) (hA : A = none → c = 0) {R : Nat → Prop} (hat : BytesIn R w A b) (m : Nat) (hm : to.length = m) (hmx : m + n ≤ 140737488355328) (hbase : base ≤ w.heap.size)
    (h : ∀ v' w', OwnB w' base v' (to ++ b) → w.grownBy w' v.ownBlock → wpList Try.prog ops Q rest (a.put o.dst v') w') : wpList Try.prog ops Q (o :: rest) a w := by
  subst hn hm
  refine wpList_appInts w hgd s x t ho base 5 .u8 1 ht info_u8 v (enc8 to) hs hown A c (enc8 b) (by rw [enc8_length]; exact hx) hA hat.1 (by rw [enc8_length, enc8_length]; omega) (by rw [enc8_length, enc8_length]; omega) hbase ?_
  intro v' w' h1 h2
  exact h v' w' (by unfold OwnB; rw [enc8_append]; exact h1) h2
set_option maxHeartbeats 1000000 in
set_option maxRecDepth 20000 in
theorem join_no (p : Par) (n : Int) (A : Option Addr) (m c : Nat) (w : World) (hm : ¬ p.may) :
    Calls Try.prog 34 #[p.val, .int .i64 n, .slice A m c] w fun e w' => e = .returned (.tuple #[.slice none 0 0, .int .i64 1]) ∧ Keeps NoB w w' := by
  have hu := Try.underlying23
  have hc := hid (show checkN p = 1 by unfold checkN; rw [mayB_false hm]; rfl)
  clear hm
  unfold Par.val
  go_enter Try.func34, Try.ntmps34
  go_wp2_with fail
  refine (check_calls p _).mono ?_
  rintro e w1 ⟨rfl, HK1⟩
  rw [hc.out]
  have HK1 := hid (((Keeps.refl NoB w).alloc _).fresh HK1)
  go_wp2_with fail
  go_ret2
  exact ⟨rfl, HK1.out⟩
/-- What Join asks; and what it answers. -/
def JoinOk (p : Par) (n : Int) (ls : List (List UInt8)) : Prop := (ls.length : Int) = p.n ∧ 0 ≤ n ∧ n ≤ p.n * p.b ∧ fitB p.b.toNat ls = true
def JoinPost (p : Par) (n : Int) (ls : List (List UInt8)) (w : World) (e : Ending) (w' : World) : Prop := Keeps NoB w w' ∧
  ((¬ JoinOk p n ls ∧ e = .returned (.tuple #[.slice none 0 0, .int .i64 2])) ∨ (JoinOk p n ls ∧ ∃ v, e = .returned (.tuple #[v, .int .i64 0]) ∧ OwnB w' w.heap.size v (joinN n.toNat ls)))
set_option maxHeartbeats 2000000 in
set_option maxRecDepth 20000 in
theorem join_calls (p : Par) (n : Int) (ls : List (List UInt8)) (A : Option Addr) (c : Nat) (R : Nat → Prop) (w : World) (hm : p.may) (hb : RowsIn R w A ls) (hn : -9223372036854775808 ≤ n) (hn2 : n ≤ 9223372036854775807) :
    Calls Try.prog 34 #[p.val, .int .i64 n, .slice A ls.length c] w (JoinPost p n ls w) := by
  have hu := Try.underlying23
  have hui := Try.underlying25
  have hc := hid (show checkN p = 0 by unfold checkN; rw [mayB_true hm]; rfl)
  have HM := hid hm
  have HB := hid hb
  have hl := hb.len
  obtain ⟨N, B, hpn, hpb, hpn2, hpb2, hN1, hN2, hB1, hB2, hNB, hNB2⟩ := par_sizes hm
  have hok := hid (show JoinOk p n ls ↔ ls.length = N ∧ 0 ≤ n ∧ n ≤ ((N * B : Nat) : Int) ∧ fitB B ls = true by
    unfold JoinOk
    rw [hpb2, hNB, hpn]
    exact ⟨fun ⟨h1, h2, h3, h4⟩ => ⟨by omega, h2, h3, h4⟩, fun ⟨h1, h2, h3, h4⟩ => ⟨by omega, h2, h3, h4⟩⟩)
  have HNB := hid hNB
  have HPN := hid hpn
  have HPB := hid hpb
  obtain ⟨M, hM⟩ : ∃ M, N * B = M := ⟨_, rfl⟩
  rw [hM] at hNB2 HNB hok
  obtain ⟨m, hm2⟩ : ∃ m, ls.length = m := ⟨_, rfl⟩
  rw [hm2] at hl hok ⊢
  have hok := hid hok.out
  have hmm := hid hm2
  have HMM := hid hM
  clear hm hNB hb hpn hpb hpn2 hpb2 hm2 hM
  unfold Par.val
  go_enter Try.func34, Try.ntmps34
  go_wp2_with fail
  refine (check_calls p _).mono ?_
  rintro e w1 ⟨rfl, HK1⟩
  rw [hc.out]
  have hbx := HK1.heap (heap_alloc_new w (.cells #[.int .i64 p.n, .int .i64 p.b, .int .i64 p.q, .int .i64 p.eps, .int .i64 p.f] 23)) (fun h => h)
  rw [HPN.out, HPB.out] at hbx
  have hbox := hid hbx
  have HKa := hid (((Keeps.refl NoB w).alloc _).fresh HK1)
  obtain ⟨pb, hpb⟩ : ∃ pb, pb = w.heap.size := ⟨_, rfl⟩
  rw [← hpb] at hbox ⊢
  have hsw := HKa.out.size
  clear hpb hbx HK1
  obtain ⟨b0, b1, b2, b3, b4⟩ := cells5 hbox.out
  by_cases hmN : m = N
  · subst hmN
    have dne : ((m : Int) != (m : Int)) = false := by simp
    by_cases hn0 : n < 0
    · have d0 : decide (n < 0) = true := decide_eq_true hn0
      go_wp2_with fail
      go_ret2
      exact ⟨HKa.out, .inl ⟨fun h => by have := hok.out.1 h; omega, rfl⟩⟩
    · have d0 : decide (n < 0) = false := decide_eq_false hn0
      have hmost := hid (fun w' => most_calls p w' HM.out)
      unfold Par.val at hmost
      rw [HNB.out, HPN.out, HPB.out] at hmost
      go_wp2_with fail
      refine (hmost.out _).mono ?_
      rintro e w2 ⟨rfl, HK2⟩
      have hbox2 := hid (HK2.heap hbox.out (fun h => h))
      have HK2 := hid (HKa.out.fresh HK2)
      clear b0 b1 b2 b3 b4
      obtain ⟨b0, b1, b2, b3, b4⟩ := cells5 hbox2.out
      have hs2 := HK2.out.size
      by_cases hnM : (M : Int) < n
      · have d1 : decide ((M : Int) < n) = true := decide_eq_true hnM
        go_wp2_with fail
        go_ret2
        exact ⟨HK2.out, .inl ⟨fun h => by have := hok.out.1 h; omega, rfl⟩⟩
      · have d1 : decide ((M : Int) < n) = false := decide_eq_false hnM
        obtain ⟨L, rfl⟩ : ∃ L : Nat, n = (L : Int) := ⟨n.toNat, by omega⟩
        have d1n : decide (M < L) = false := decide_eq_false (by omega)
        have hz := hid (show joinN L (ls.take 0) = [] by simp [joinN])
        have hst := hid (fun k (hk : k < ls.length) => (congrArg (joinN L) (List.take_succ_eq_append_getElem hk)).trans (joinN_snoc L (ls.take k) _))
        have hfull := hid (show joinN L (ls.take ls.length) = joinN L ls by rw [List.take_length])
        have hSall := hid (show ∀ w', Keeps NoB w2 w' → w'.cell? ⟨pb, 1, none⟩ = some (.int .i64 (B : Int)) from fun w' hk => hk.cell b1 (fun h => h))
        clear b0 b1 b2 b3 b4
        have b0 := (cells5 hbox2.out).1
        have b1 := hSall.out _ (Keeps.refl _ _)
        go_wp2_with fail
        go_loopw [9, 35] (fun v9 v35 wr => ∃ k : Nat, k ≤ m ∧ v35 = .int .i64 (k : Int) ∧ Hid (fitB B (ls.take k) = true) ∧ Hid (OwnB wr w2.heap.size v9 (joinN L (ls.take k))) ∧ Hid (Keeps NoB w2 wr)) (fun _ v35 _ => m - (intOf v35).toNat)
        case atStart => exact ⟨0, Nat.zero_le _, rfl, rfl, by rw [hz.out]; exact OwnInts.nil _ _ _ _, Keeps.refl _ _⟩
        case round =>
          obtain ⟨k, hk, rfl, HF, HO, HK⟩ := hrel
          by_cases hlt : k < m
          · clear b1
            have b1 := hSall.out _ HK.out
            obtain ⟨bb, ob, rfl, _, hc1⟩ := (HB.out.kept (HK2.out.fresh HK.out)).2 (by rw [hmm.out]; omega)
            obtain ⟨u, k1, B1, d1', rfl, hcap, _, r1⟩ := hc1 k (by rw [hmm.out]; exact hlt)
            have q0 : (0 : Int) ≤ (k : Int) := by omega
            have q1 : (k : Int) < (m : Int) := by omega
            by_cases hlB : (gr ls k).length = B
            · have hJ := joinN_length (n := L) HF.out
              rw [List.length_take, hmm.out, Nat.min_eq_left hk] at hJ
              have hkB : k * B ≤ M := by rw [← HMM.out]; exact Nat.mul_le_mul_right B hk
              have hs := hst.out k (by rw [hmm.out]; exact hlt)
              rw [← gr_eq ls k (by rw [hmm.out]; exact hlt)] at hs
              have HF2 := hid (show fitB B (ls.take (k + 1)) = true by
                rw [List.take_succ_eq_append_getElem (by rw [hmm.out]; exact hlt), ← gr_eq ls k (by rw [hmm.out]; exact hlt)]
                have := HF.out
                unfold fitB at this ⊢
                rw [List.all_append, this]
                simp [hlB])
              rw [hlB] at k1 hcap
              have dB : ((B : Int) != (B : Int)) = false := by simp
              obtain ⟨Av, cv, hv, hcv, hAv, hbv⟩ := HO.out.reads
              obtain ⟨J, hJe⟩ : ∃ J, (joinN L (ls.take k)).length = J := ⟨_, rfl⟩
              rw [hJe] at hv hcv hJ hs
              subst hv
              have HJE := hid hJe
              have hJL : J ≤ L := by rw [hJ]; exact Nat.min_le_left _ _
              have hoi := hid (show OwnInts wr w2.heap.size .u8 5 (.slice Av J cv) (enc8 (joinN L (ls.take k))) from HO.out)
              have hel := hid (show (enc8 (joinN L (ls.take k))).length = J by rw [enc8_length, hJe])
              have hszk := HK.out.size
              have HS := hid hs
              generalize gr ls k = l at *
              have r1 := hid r1
              have hlB := hid hlB
              clear hJ hkB hs hJe hbv hc1
              by_cases hfit : J < L
              · obtain ⟨t, ht⟩ : ∃ t : Nat, min (L - J) B = t := ⟨_, rfl⟩
                have ht0 : 0 < t := by omega
                have htB : t ≤ B := by omega
                have hmin : min ((L : Int) - (J : Int)) (B : Int) = (t : Int) := by omega
                have htk := hid (show l.take (L - J) = l.take t by
                  rw [← ht, ← hlB.out]
                  rw [List.take_eq_take_iff]
                  omega)
                have htl := hid (show (l.take t).length = t by rw [List.length_take, hlB.out]; omega)
                have d4 : decide ((0 : Int) < (t : Int)) = true := decide_eq_true (by omega)
                have hrt := hid (r1.out.take t)
                have t0 : (0 : Int) ≤ (t : Int) := by omega
                have t1 : (t : Int) ≤ (d1' : Int) := by omega
                have t2 : t ≤ d1' := by omega
                have htel := hid (show (enc8 (l.take t)).length = t by rw [enc8_length, htl.out])
                obtain ⟨bx, ox, rfl, _, _⟩ := r1.out.get (by rw [hlB.out]; omega)
                clear ht
                go_wp2_with (at_builtin; go_must (refine wpList_appB _ rfl _ _ 25 rfl w2.heap.size hui (.slice Av J cv) (joinN L (ls.take k)) rfl (by exact HO.out) (some ⟨bx, ox, none⟩) t _ (l.take t) rfl htl.out (fun e => by cases e) (by exact hrt.out) J HJE.out (by omega) hszk ?_); intro v5 w5 hown5 hgr5)
                all_goals go_roundw
                case rel => exact ⟨k + 1, by omega, by go_num, HF2, hid (by rw [HS.out, htk.out]; exact hown5), hid (HK.out.own hoi.out hgr5 (Nat.le_refl _))⟩
                case measure => simp [intOf]; omega
              · have hmin : min ((L : Int) - (J : Int)) (B : Int) = 0 := by omega
                have htk := hid (show l.take (L - J) = [] by rw [show L - J = 0 by omega]; rfl)
                have d4 : decide ((0 : Int) < (0 : Int)) = false := rfl
                go_wp2_with fail
                go_roundw
                case rel => exact ⟨k + 1, by omega, by go_num, HF2, hid (by rw [HS.out, htk.out, List.append_nil]; exact HO.out), HK⟩
                case measure => simp [intOf]; omega
            · have dB : ((((gr ls k).length : Nat) : Int) != (B : Int)) = true := by simp; omega
              have hnf := hid (show ¬ fitB B ls = true from fun h => hlB (fitB_at h k (by rw [hmm.out]; exact hlt)))
              clear hlB
              generalize (gr ls k).length = z at *
              go_wp2_with fail
              go_ret2
              exact ⟨HK2.out.fresh HK.out, .inl ⟨fun h => hnf.out (hok.out.1 h).2.2.2, rfl⟩⟩
          · obtain rfl : k = m := by omega
            have hf := hid (show fitB B ls = true by have := HF.out; rw [← hmm.out, List.take_length] at this; exact this)
            go_wp2_with fail
            go_ret2
            exact ⟨HK2.out.fresh HK.out, .inr ⟨hok.out.2 ⟨by first | rfl | trivial, by omega, by omega, hf.out⟩, _, rfl, OwnInts.lower (by have := HO.out; rw [← hmm.out, hfull.out] at this; exact this) hs2⟩⟩
  · have dne : ((m : Int) != (N : Int)) = true := by simp; omega
    go_wp2_with fail
    go_ret2
    exact ⟨HKa.out, .inl ⟨fun h => hmN (hok.out.1 h).1, rfl⟩⟩
end Go.Proofs.Ytnnkfopopanfjaa
