/- Blocks of bytes, put upon each other: the walks of package block. Conditions: numbers are of their kinds; what is written lies apart from what is read. -/
import Derived.Test.YtpkkaicpbihjfaaBytes
set_option linter.unusedVariables false
namespace Go.Proofs.Ytpkkaicpbihjfaa
open Go.RowKit

set_option maxHeartbeats 800000 in
theorem xor_calls (to b : List UInt8) (base : Nat) (v : Value) (B : Option Addr) (c : Nat) (R : Nat → Prop) (w : World) (hown : OwnB w base v to) (hb : BytesIn R w B b) (hlen : b.length = to.length) (hR : ∀ k, v.ownBlock = some k → ¬ R k) :
    Calls Try.prog 66 #[v, .slice B b.length c] w fun e w' => e = .returned (.tuple #[]) ∧ OwnB w' base v (xorL to b) ∧ Keeps (fun k => v.ownBlock = some k) w w' := by
  have hl := hb.len
  have HB := hid hb
  have HO := hid hown
  have H0 := hid (xorTo_zero to b)
  have HF := hid (xorTo_full to b hlen)
  have HL := hid (xorTo_length to b hlen)
  have HA := hid (xorTo_at to b hlen)
  have HS := hid (xorTo_set to b hlen)
  have hle := hid hlen
  have HR := hid hR
  obtain ⟨n, hn⟩ : ∃ n, b.length = n := ⟨_, rfl⟩
  rw [hn] at hl ⊢
  have hnt : to.length = n := by omega
  have hn2 := hid hn
  have hnt2 := hid hnt
  clear hb hown hlen hn hnt hR
  go_enter Try.func66, Try.ntmps66
  go_wp2_with fail
  go_loopw [8] (fun v8 wr => ∃ k : Nat, k ≤ n ∧ v8 = .int .i64 (k : Int) ∧ Hid (OwnB wr base v (xorTo to b k)) ∧ Hid (Keeps (fun k => v.ownBlock = some k) w wr)) (fun v8 _ => n - (intOf v8).toNat)
  case atStart => exact ⟨0, Nat.zero_le _, rfl, by rw [H0.out]; exact HO, Keeps.refl _ _⟩
  case round =>
    obtain ⟨k, hk, rfl, HOk, HK⟩ := hrel
    by_cases hlt : k < n
    · obtain ⟨bb, ob, rfl, hbR, hc⟩ := HB.out.get (by rw [hn2.out]; omega)
      have c1 := HK.out.cell (hc k (by rw [hn2.out]; exact hlt)) (fun e => HR.out bb e hbR)
      have hll := HL.out k
      rw [hnt2.out] at hll
      have hat := HA.out k (by rw [hnt2.out]; exact hlt)
      have hset := HS.out k (by rw [hnt2.out]; exact hlt)
      obtain ⟨g, cp, rfl⟩ := OwnInts.form HOk.out (by rw [enc8_length, hll]; omega)
      have c2 := OwnInts.cell (HOk.out : OwnInts _ _ _ _ _ _) (j := k) (by rw [enc8_length, hll]; exact hlt)
      rw [gi_enc8 _ k (by rw [hll]; exact hlt), hat] at c2
      have f2 := OwnInts.free (HOk.out : OwnInts _ _ _ _ _ _) k
      have hst := OwnInts.set (HOk.out : OwnInts _ _ _ _ _ _) (j := k) (by rw [enc8_length, hll]; exact hlt) ((gb to k ^^^ gb b k).toNat : Int)
      rw [enc8_set, hset] at hst
      have HST := hid hst
      have hx := xor_byte (gb to k) (gb b k)
      have hel : (enc8 (xorTo to b k)).length = n := by rw [enc8_length, hll]
      rw [hel] at HST HO HOk HK HR ⊢
      generalize ((gb to k ^^^ gb b k).toNat : Int) = z at *
      generalize ((gb to k).toNat : Int) = x at *
      generalize ((gb b k).toNat : Int) = y at *
      have q0 : (0 : Int) ≤ (k : Int) := by omega
      have q1 : (k : Int) < (n : Int) := by omega
      clear hst hset hat hc hbR hel
      go_wp2_with fail
      go_roundw
      case rel => exact ⟨k + 1, by omega, by go_num, HST, hid (HK.out.setCell (p := ⟨g, k, none⟩) (fun _ => rfl) _)⟩
      case measure => simp [intOf]; omega
    · obtain rfl : k = n := by omega
      go_wp2_with fail
      go_end0
      exact ⟨rfl, by rw [← HF.out, hnt2.out]; exact HOk.out, HK.out⟩
theorem fitB_false {n : Nat} {ls : List (List UInt8)} (h : fitB n ls = false) : ∃ j, j < ls.length ∧ (gr ls j).length ≠ n ∧ ∀ i, i < j → (gr ls i).length = n := by
  induction ls with
  | nil => simp [fitB] at h
  | cons l r ih =>
    by_cases hl : l.length = n
    · have : fitB n r = false := by simpa [fitB, hl] using h
      obtain ⟨j, h1, h2, h3⟩ := ih this
      refine ⟨j + 1, by simp; omega, by simpa [gr] using h2, fun i hi => ?_⟩
      match i, hi with
      | 0, _ => simpa [gr] using hl
      | i + 1, hi => have := h3 i (by omega); simpa [gr] using this
    · exact ⟨0, by simp, by simpa [gr] using hl, fun i hi => absurd hi (Nat.not_lt_zero _)⟩
theorem xorAll_take (a : List UInt8) (ls : List (List UInt8)) (k : Nat) (h : k < ls.length) : xorAll a (ls.take (k + 1)) = xorL (xorAll a (ls.take k)) (gr ls k) := by
  rw [List.take_succ_eq_append_getElem h, xorAll_snoc, gr_eq ls k h]
theorem fitB_take {n : Nat} {ls : List (List UInt8)} (h : fitB n ls = true) (k : Nat) : fitB n (ls.take k) = true :=
  List.all_eq_true.2 (fun l hl => List.all_eq_true.1 h l (List.mem_of_mem_take hl))
set_option maxHeartbeats 800000 in
theorem xors_yes (to : List UInt8) (ls : List (List UInt8)) (base : Nat) (v : Value) (A : Option Addr) (c : Nat) (R : Nat → Prop) (w : World) (hown : OwnB w base v to) (hb : RowsIn R w A ls) (hfit : fitB to.length ls = true) (hR : ∀ k, v.ownBlock = some k → ¬ R k) :
    Calls Try.prog 34 #[v, .slice A ls.length c] w fun e w' => e = .returned (.bool true) ∧ OwnB w' base v (xorAll to ls) ∧ Keeps (fun k => v.ownBlock = some k) w w' := by
  have hl := hb.len
  have HB := hid hb
  have HO := hid hown
  have HF := hid hfit
  have HR := hid hR
  have H0 := hid (show xorAll to (ls.take 0) = to from rfl)
  have HE := hid (show xorAll to (ls.take ls.length) = xorAll to ls by rw [List.take_length])
  have hln := hid (fun k => xorAll_length to (ls.take k) (fitB_take hfit k))
  have hst := hid (xorAll_take to ls)
  obtain ⟨av, cv, hv, hcv, _, _⟩ := hown.reads
  obtain ⟨n, hn⟩ : ∃ n, to.length = n := ⟨_, rfl⟩
  rw [hn] at hv hcv
  have hnn := hid hn
  obtain ⟨m, hm⟩ : ∃ m, ls.length = m := ⟨_, rfl⟩
  rw [hm] at hl ⊢
  have hmm := hid hm
  clear hb hown hfit hR hn hm
  subst hv
  go_enter Try.func34, Try.ntmps34
  go_wp2_with fail
  go_loop [11] (fun v11 => ∃ k : Nat, k ≤ m ∧ v11 = .int .i64 (k : Int)) (fun v11 => m - (intOf v11).toNat)
  case atStart => exact ⟨0, Nat.zero_le _, rfl⟩
  case round =>
    obtain ⟨k, hk, rfl⟩ := hrel
    by_cases hlt : k < m
    · obtain ⟨bb, ob, rfl, hbR, hc⟩ := HB.out.2 (by rw [hmm.out]; omega)
      obtain ⟨u, c1, A1, cc1, rfl, _, _, h1⟩ := hc k (by rw [hmm.out]; exact hlt)
      have hll := fitB_at HF.out k (by rw [hmm.out]; exact hlt)
      rw [hnn.out] at hll
      rw [hll] at c1
      have dne : (((n : Nat) : Int) != ((n : Nat) : Int)) = false := by simp
      have q0 : (0 : Int) ≤ (k : Int) := by omega
      have q1 : (k : Int) < (m : Int) := by omega
      clear hc hbR h1 hll
      go_wp2_with fail
      go_round
      case rel => exact ⟨k + 1, by omega, by go_num⟩
      case measure => simp [intOf]; omega
    · obtain rfl : k = m := by omega
      go_wp2_with fail
      go_loopw [23] (fun v23 wr => ∃ q : Nat, q ≤ k ∧ v23 = .int .i64 (q : Int) ∧ Hid (OwnB wr base (.slice av n cv) (xorAll to (ls.take q))) ∧ Hid (Keeps (fun k => (Value.slice av n cv).ownBlock = some k) w wr)) (fun v23 _ => k - (intOf v23).toNat)
      case atStart => exact ⟨0, Nat.zero_le _, rfl, by rw [H0.out]; exact HO, Keeps.refl _ _⟩
      case round =>
        obtain ⟨q, hq, rfl, HOq, HK⟩ := hrel
        by_cases hlt2 : q < k
        · have hrow := HB.out.keeps HK.out (fun b hb e => HR.out b e hb)
          obtain ⟨bb, ob, rfl, hbR, hc⟩ := hrow.2 (by rw [hmm.out]; omega)
          obtain ⟨u, c1, A1, cc1, rfl, _, _, h1⟩ := hc q (by rw [hmm.out]; exact hlt2)
          have hll := fitB_at HF.out q (by rw [hmm.out]; exact hlt2)
          have hlq := hln.out q
          have hsq := hid (hst.out q (by rw [hmm.out]; exact hlt2))
          have h1 := hid h1
          have hlx := hid (hll.trans hlq.symm)
          have q0 : (0 : Int) ≤ (q : Int) := by omega
          have q1 : (q : Int) < (k : Int) := by omega
          clear hc hbR hrow hll hlq
          generalize gr ls q = l at *
          go_wp2_with fail
          refine (xor_calls _ l base _ A1 cc1 R _ HOq.out h1.out hlx.out HR.out).mono ?_
          rintro e w2 ⟨rfl, hO2, HK2⟩
          have HO2 := hid hO2
          have HK2 := hid (HK.out.trans HK2 (fun _ _ h => h) (fun _ _ h => h))
          clear hO2
          go_wp2_with fail
          go_roundw
          case rel => exact ⟨q + 1, by omega, by go_num, by rw [hsq.out]; exact HO2, HK2⟩
          case measure => simp [intOf]; omega
        · obtain rfl : q = k := by omega
          go_wp2_with fail
          go_ret
          exact ⟨rfl, by rw [← HE.out, hmm.out]; exact HOq.out, HK.out⟩
set_option maxHeartbeats 800000 in
theorem xors_no (to : List UInt8) (ls : List (List UInt8)) (n cv : Nat) (av : Option Addr) (A : Option Addr) (c : Nat) (R : Nat → Prop) (w : World) (hb : RowsIn R w A ls) (hfit : fitB n ls = false) :
    Calls Try.prog 34 #[.slice av n cv, .slice A ls.length c] w fun e w' => e = .returned (.bool false) ∧ w' = w := by
  have hl := hb.len
  have HB := hid hb
  obtain ⟨j, hj, hjn, hji⟩ := fitB_false hfit
  have HJ := hid hji
  have HN := hid hjn
  obtain ⟨m, hm⟩ : ∃ m, ls.length = m := ⟨_, rfl⟩
  rw [hm] at hl hj ⊢
  have hmm := hid hm
  clear hb hfit hji hm hjn
  go_enter Try.func34, Try.ntmps34
  go_wp2_with fail
  go_loop [11] (fun v11 => ∃ k : Nat, k ≤ j ∧ v11 = .int .i64 (k : Int)) (fun v11 => m - (intOf v11).toNat)
  case atStart => exact ⟨0, Nat.zero_le _, rfl⟩
  case round =>
    obtain ⟨k, hk, rfl⟩ := hrel
    obtain ⟨bb, ob, rfl, hbR, hc⟩ := HB.out.2 (by rw [hmm.out]; omega)
    obtain ⟨u, c1, A1, cc1, rfl, _, _, h1⟩ := hc k (by rw [hmm.out]; omega)
    have q0 : (0 : Int) ≤ (k : Int) := by omega
    have q1 : (k : Int) < (m : Int) := by omega
    have hlt : k < m := by omega
    by_cases hkj : k < j
    · have hll := HJ.out k hkj
      rw [hll] at c1
      have dne : (((n : Nat) : Int) != ((n : Nat) : Int)) = false := by simp
      clear hc hbR h1 hll
      go_wp2_with fail
      go_round
      case rel => exact ⟨k + 1, by omega, by go_num⟩
      case measure => simp [intOf]; omega
    · obtain rfl : k = j := by omega
      have dne : ((((gr ls k).length : Nat) : Int) != ((n : Nat) : Int)) = true := by
        have := HN.out
        simp; omega
      clear hc hbR h1
      generalize (gr ls k).length = z at *
      go_wp2_with fail
      go_ret
      exact ⟨rfl, rfl⟩
theorem info_u8 : (Try.prog.info? 5).map (fun i => (i.zero, i.size, i.bytes)) = some (some (.int .u8 0), 1, 1) := by kernel_rfl
theorem enc8_zeros (n : Nat) : List.replicate n (Value.int .u8 0) = (enc8 (List.replicate n 0)).map (Value.int .u8) := by simp [enc8]
theorem OwnB.ofMake {w : World} {base n : Nat} {v : Value} (h : w.ownsRow base 5 1 v n (madeCells (Value.int .u8 0).cells (n * 1)).toList) : OwnB w base v (List.replicate n 0) := by
  have e0 : (madeCells (Value.int .u8 0).cells (n * 1)).toList = List.replicate n (Value.int .u8 0) := by
    apply List.ext_getElem
    · simp [madeCells]
    · intro i h1 h2; simp [madeCells, Value.cells, Nat.mod_one]
  rw [e0] at h
  unfold OwnB OwnInts
  rw [enc8_length, List.length_replicate, ← enc8_zeros]
  exact h
set_option maxHeartbeats 800000 in
set_option maxRecDepth 20000 in
theorem bsum_yes (n : Nat) (ls : List (List UInt8)) (A : Option Addr) (c : Nat) (R : Nat → Prop) (w : World) (hn : n ≤ 1073741824) (hb : RowsIn R w A ls) (hfit : fitB n ls = true) :
    Calls Try.prog 33 #[.int .i64 (n : Int), .slice A ls.length c] w fun e w' => ∃ v, e = .returned (.tuple #[v, .bool true]) ∧ OwnB w' w.heap.size v (sumB n ls) ∧ Keeps NoB w w' := by
  have HB := hid hb.lt
  have HF := hid (show fitB (List.replicate n (0 : UInt8)).length ls = true by rw [List.length_replicate]; exact hfit)
  have hmx : max (n : Int) 0 = (n : Int) := by omega
  have hui := Try.underlying25
  obtain ⟨i0, hi, hz0, hz1, hz2⟩ := info_parts info_u8
  clear hb hfit
  go_enter Try.func33, Try.ntmps33
  go_wp2_with (at_make; go_must (refine wpList_make_full _ rfl _ _ _ rfl w.heap.size 5 i0 (.int .u8 0) 1 hui hi hz0 hz1 .i64 .i64 _ _ n rfl rfl rfl rfl (by rw [hz2]; omega) (by unfold maxLen; omega) (Nat.le_refl _) ?_); intro w3 hown3 hgr3)
  have HO := hid (OwnB.ofMake hown3)
  have HK3 := hid ((Keeps.refl NoB w).grown hgr3 (fun i e => by cases e))
  have HB3 := hid (HB.out.kept ((Keeps.ofGrown hgr3).mono (fun i e _ => by cases e)))
  refine (xors_yes (List.replicate n 0) ls w.heap.size _ A c _ _ HO.out HB3.out HF.out (fun k hk h => by have := (OwnInts.base_le HO.out k hk).1; omega)).mono ?_
  rintro e w4 ⟨rfl, hO4, HK4⟩
  have hO4 := hid hO4
  have HK4 := hid (HK3.out.then HK4 (fun i hi hlt => by have := (OwnInts.base_le HO.out i hi).1; omega))
  go_wp2_with fail
  go_ret2
  exact ⟨_, rfl, hO4.out, HK4.out⟩
theorem orAll_zero (l : List UInt8) : ∀ a : UInt8, l.foldl (· ||| ·) a = 0 ↔ a = 0 ∧ ∀ x ∈ l, x = 0 := by
  induction l with
  | nil => intro a; simp
  | cons x r ih =>
    intro a
    show r.foldl (· ||| ·) (a ||| x) = 0 ↔ _
    rw [ih]
    have e : a ||| x = 0 ↔ a = 0 ∧ x = 0 := by
      rw [← UInt8.toNat_inj, UInt8.toNat_or, ← UInt8.toNat_inj (b := 0), ← UInt8.toNat_inj (a := x)]
      exact Nat.or_eq_zero_iff
    rw [e]; simp [and_assoc]
theorem orAll_zeroB (l : List UInt8) : decide (l.foldl (· ||| ·) 0 = 0) = zeroB l := by
  rw [Bool.eq_iff_iff, decide_eq_true_eq, orAll_zero]
  unfold zeroB
  rw [List.all_eq_true]
  simp
set_option maxHeartbeats 800000 in
theorem zero_calls (l : List UInt8) (A : Option Addr) (c : Nat) (R : Nat → Prop) (w : World) (h : BytesIn R w A l) :
    Calls Try.prog 72 #[.slice A l.length c] w fun e w' => e = .returned (.bool (zeroB l)) ∧ w' = w := by
  have hl := h.len
  have HB := hid h
  have hz := hid (orAll_zeroB l)
  have hst := hid (show ∀ k, k < l.length → (l.take (k + 1)).foldl (· ||| ·) (0 : UInt8) = (l.take k).foldl (· ||| ·) 0 ||| gb l k from fun k hk => by
    rw [List.take_succ_eq_append_getElem hk, List.foldl_append, gb_eq l k hk]; rfl)
  have hfull := hid (show (l.take l.length).foldl (· ||| ·) (0 : UInt8) = l.foldl (· ||| ·) 0 by rw [List.take_length])
  obtain ⟨n, hn⟩ : ∃ n, l.length = n := ⟨_, rfl⟩
  rw [hn] at hl hst hfull ⊢
  have hnn := hid hn
  have hst := hid hst.out
  clear h hn
  go_enter Try.func72, Try.ntmps72
  go_wp2_with fail
  go_loop [3, 8] (fun v3 v8 => ∃ k : Nat, k ≤ n ∧ v8 = .int .i64 (k : Int) ∧ ∃ o : UInt8, v3 = .int .u8 (o.toNat : Int) ∧ Hid ((l.take k).foldl (· ||| ·) 0 = o)) (fun _ v8 => n - (intOf v8).toNat)
  case atStart => exact ⟨0, Nat.zero_le _, rfl, 0, rfl, rfl⟩
  case round =>
    obtain ⟨k, hk, rfl, o, rfl, HO⟩ := hrel
    by_cases hlt : k < n
    · obtain ⟨b, off, rfl, _, hc⟩ := HB.out.get (by rw [hnn.out]; omega)
      have ck := hc k (by rw [hnn.out]; exact hlt)
      have hor := or_byte o (gb l k)
      have hs := hst.out k hlt
      rw [HO.out] at hs
      have HS := hid hs
      generalize hz1 : (o ||| gb l k) = z at *
      have q0 : (0 : Int) ≤ (k : Int) := by omega
      have q1 : (k : Int) < (n : Int) := by omega
      clear hc hz1 hs
      generalize gb l k = x at *
      go_wp2_with fail
      go_round
      case rel => exact ⟨k + 1, by omega, by go_num, z, rfl, HS⟩
      case measure => simp [intOf]; omega
    · obtain rfl : k = n := by omega
      have hd := hid (show zeroB l = decide (o = 0) by rw [← hz.out, ← hfull.out, HO.out])
      have hoz : (((o.toNat : Nat) : Int) == 0) = decide (o = 0) := by
        rw [Bool.eq_iff_iff]; simp
        rw [← UInt8.toNat_inj]; simp
      go_wp2_with fail
      go_ret
      rw [hd.out]
      exact ⟨rfl, rfl⟩
set_option maxHeartbeats 800000 in
set_option maxRecDepth 20000 in
theorem bsum_unfit (n : Nat) (ls : List (List UInt8)) (A : Option Addr) (c : Nat) (R : Nat → Prop) (w : World) (hn : n ≤ 1073741824) (hb : RowsIn R w A ls) (hfit : fitB n ls = false) :
    Calls Try.prog 33 #[.int .i64 (n : Int), .slice A ls.length c] w fun e w' => e = .returned (.tuple #[.slice none 0 0, .bool false]) ∧ Keeps NoB w w' := by
  have HB := hid hb
  have HF := hid hfit
  have hmx : max (n : Int) 0 = (n : Int) := by omega
  have hui := Try.underlying25
  obtain ⟨i0, hi, hz0, hz1, hz2⟩ := info_parts info_u8
  clear hb hfit
  go_enter Try.func33, Try.ntmps33
  go_wp2_with (at_make; go_must (refine wpList_make_full _ rfl _ _ _ rfl w.heap.size 5 i0 (.int .u8 0) 1 hui hi hz0 hz1 .i64 .i64 _ _ n rfl rfl rfl rfl (by rw [hz2]; omega) (by unfold maxLen; omega) (Nat.le_refl _) ?_); intro w3 hown3 hgr3)
  have HK3 := hid ((Keeps.refl NoB w).grown hgr3 (fun i e => by cases e))
  have HB3 := hid (HB.out.kept HK3.out)
  refine (xors_no [] ls n n _ A c _ _ HB3.out HF.out).mono ?_
  rintro e w4 ⟨rfl, rfl⟩
  go_wp2_with fail
  go_ret2
  exact ⟨rfl, HK3.out⟩
set_option maxHeartbeats 800000 in
set_option maxRecDepth 20000 in
theorem bsum_neg (n : Int) (m : Nat) (A : Option Addr) (c : Nat) (w : World) (hn : n < 0) (hn2 : -9223372036854775808 ≤ n) :
    Calls Try.prog 33 #[.int .i64 n, .slice A m c] w fun e w' => e = .returned (.tuple #[.slice none 0 0, .bool false]) ∧ Keeps NoB w w' := by
  have hmx : max n 0 = ((0 : Nat) : Int) := by omega
  have hui := Try.underlying25
  obtain ⟨i0, hi, hz0, hz1, hz2⟩ := info_parts info_u8
  have d0 : decide (n < 0) = true := decide_eq_true hn
  go_enter Try.func33, Try.ntmps33
  go_wp2_with (at_make; go_must (refine wpList_make_full _ rfl _ _ _ rfl w.heap.size 5 i0 (.int .u8 0) 1 hui hi hz0 hz1 .i64 .i64 _ _ 0 rfl rfl rfl rfl (by rw [hz2]; omega) (by unfold maxLen; omega) (Nat.le_refl _) ?_); intro w3 hown3 hgr3)
  have HK3 := hid ((Keeps.refl NoB w).grown hgr3 (fun i e => by cases e))
  go_wp2_with fail
  go_ret2
  exact ⟨rfl, HK3.out⟩
/-! The document's answer. -/
set_option maxHeartbeats 800000 in
theorem rzero_calls (l : List UInt8) (A : Option Addr) (c : Nat) (R : Nat → Prop) (w : World) (h : BytesIn R w A l) :
    Calls Try.prog 30 #[.slice A l.length c] w fun e w' => e = .returned (.bool (zeroB l)) ∧ w' = w := by
  have hl := h.len
  have HB := hid h
  obtain ⟨n, hn⟩ : ∃ n, l.length = n := ⟨_, rfl⟩
  rw [hn] at hl ⊢
  have hnn := hid hn
  clear h hn
  go_enter Try.func30, Try.ntmps30
  go_wp2_with fail
  go_loop [3] (fun v3 => ∃ k : Nat, k ≤ n ∧ v3 = .int .i64 (k : Int) ∧ Hid (∀ j, j < k → gb l j = 0)) (fun v3 => n - (intOf v3).toNat)
  case atStart => exact ⟨0, Nat.zero_le _, rfl, fun j h => absurd h (Nat.not_lt_zero _)⟩
  case round =>
    obtain ⟨k, hk, rfl, HJ⟩ := hrel
    by_cases hlt : k < n
    · obtain ⟨b, off, rfl, _, hc⟩ := HB.out.get (by rw [hnn.out]; omega)
      have ck := hc k (by rw [hnn.out]; exact hlt)
      have q0 : (0 : Int) ≤ (k : Int) := by omega
      have q1 : (k : Int) < (n : Int) := by omega
      clear hc
      by_cases hx : gb l k = 0
      · have HJ2 := hid (show ∀ j, j < k + 1 → gb l j = 0 from fun j hj => by
          by_cases e : j = k
          · rw [e]; exact hx
          · exact HJ.out j (by omega))
        rw [hx] at ck
        have d0 : (((0 : UInt8).toNat : Int) != 0) = false := rfl
        have ck2 : w.cell? ⟨b, off + k, none⟩ = some (.int .u8 0) := ck
        clear ck hx
        go_wp2_with fail
        go_round
        case rel => exact ⟨k + 1, by omega, by go_num, HJ2⟩
        case measure => simp [intOf]; omega
      · have hz := hid (show zeroB l = false by
          unfold zeroB
          rw [List.all_eq_false]
          refine ⟨gb l k, ?_, by simpa using hx⟩
          rw [gb_eq l k (by rw [hnn.out]; exact hlt)]; exact List.getElem_mem _)
        have d0 : (((gb l k).toNat : Int) != 0) = true := by
          simp
          intro e
          exact hx (UInt8.toNat_inj.1 (by simpa using e))
        clear hx
        generalize (gb l k).toNat = x at *
        go_wp2_with fail
        go_ret
        rw [hz.out]
        exact ⟨rfl, rfl⟩
    · obtain rfl : k = n := by omega
      have hz := hid (show zeroB l = true by
        unfold zeroB
        rw [List.all_eq_true]
        intro x hx
        obtain ⟨j, hj, rfl⟩ := List.getElem_of_mem hx
        have := HJ.out j (by rw [← hnn.out]; exact hj)
        rw [gb_eq l j hj] at this
        simpa using this)
      go_wp2_with fail
      go_ret
      rw [hz.out]
      exact ⟨rfl, rfl⟩
def fitN (n : Int) (ls : List (List UInt8)) : Bool := decide (0 ≤ n) && fitB n.toNat ls
set_option maxHeartbeats 800000 in
theorem rfits_calls (n : Int) (ls : List (List UInt8)) (A : Option Addr) (c : Nat) (R : Nat → Prop) (w : World) (hb : RowsIn R w A ls) :
    Calls Try.prog 29 #[.int .i64 n, .slice A ls.length c] w fun e w' => e = .returned (.bool (fitN n ls)) ∧ w' = w := by
  have hl := hb.len
  have HB := hid hb
  obtain ⟨m, hm⟩ : ∃ m, ls.length = m := ⟨_, rfl⟩
  rw [hm] at hl ⊢
  have hmm := hid hm
  clear hb hm
  go_enter Try.func29, Try.ntmps29
  go_wp2_with fail
  go_loop [5] (fun v5 => ∃ k : Nat, k ≤ m ∧ v5 = .int .i64 (k : Int) ∧ Hid (∀ j, j < k → ((gr ls j).length : Int) = n)) (fun v5 => m - (intOf v5).toNat)
  case atStart => exact ⟨0, Nat.zero_le _, rfl, fun j h => absurd h (Nat.not_lt_zero _)⟩
  case round =>
    obtain ⟨k, hk, rfl, HJ⟩ := hrel
    by_cases hlt : k < m
    · obtain ⟨bb, ob, rfl, hbR, hc⟩ := HB.out.2 (by rw [hmm.out]; omega)
      obtain ⟨u, c1, A1, cc1, rfl, _, _, h1⟩ := hc k (by rw [hmm.out]; exact hlt)
      have q0 : (0 : Int) ≤ (k : Int) := by omega
      have q1 : (k : Int) < (m : Int) := by omega
      clear hc hbR h1
      by_cases hx : ((gr ls k).length : Int) = n
      · have HJ2 := hid (show ∀ j, j < k + 1 → ((gr ls j).length : Int) = n from fun j hj => by
          by_cases e : j = k
          · rw [e]; exact hx
          · exact HJ.out j (by omega))
        have d0 : ((((gr ls k).length : Nat) : Int) != n) = false := by simp [hx]
        clear hx
        generalize (gr ls k).length = z at *
        go_wp2_with fail
        go_round
        case rel => exact ⟨k + 1, by omega, by go_num, HJ2⟩
        case measure => simp [intOf]; omega
      · have hz := hid (show fitN n ls = false by
          unfold fitN
          by_cases h0 : 0 ≤ n
          · rw [decide_eq_true h0, Bool.true_and]
            unfold fitB
            rw [List.all_eq_false]
            exact ⟨gr ls k, gr_mem ls k (by rw [hmm.out]; exact hlt), by simp; omega⟩
          · rw [decide_eq_false h0, Bool.false_and])
        have d0 : ((((gr ls k).length : Nat) : Int) != n) = true := by simp [hx]
        clear hx
        generalize (gr ls k).length = z at *
        go_wp2_with fail
        go_ret
        rw [hz.out]
        exact ⟨rfl, rfl⟩
    · obtain rfl : k = m := by omega
      have hz := hid (show fitN n ls = decide (0 ≤ n) by
        unfold fitN
        by_cases h0 : 0 ≤ n
        · have : fitB n.toNat ls = true := List.all_eq_true.2 (fun l hl => by
            obtain ⟨j, hj, rfl⟩ := List.getElem_of_mem hl
            have := HJ.out j (by rw [← hmm.out]; exact hj)
            rw [gr_eq ls j hj] at this
            simp; omega)
          rw [this, Bool.and_true]
        · rw [decide_eq_false h0, Bool.false_and])
      go_wp2_with fail
      go_ret
      rw [hz.out]
      exact ⟨rfl, rfl⟩
end Go.Proofs.Ytpkkaicpbihjfaa
