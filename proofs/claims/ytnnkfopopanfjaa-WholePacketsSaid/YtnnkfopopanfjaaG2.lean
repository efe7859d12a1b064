/- Several texts, one behind the other: what each proves, and its conditions, stands ahead of it. -/
import Derived.Test.YtnnkfopopanfjaaG1
import Derived.Laws.CopyOwn
import Derived.Lib.SlBytesRow
import Derived.Lib.BufferRead
import Derived.Test.YtnnkfopopanfjaaShelf
import Derived.Sort.Grow
import Derived.Maps.OwnSet
/- Blocks of bytes, put upon each other: the walks of package block. Conditions: numbers are of their kinds; what is written lies apart from what is read. -/
set_option linter.unusedVariables false
namespace Go.Proofs.Ytnnkfopopanfjaa
open Go.RowKit

set_option maxHeartbeats 800000 in
theorem xor_calls (to b : List UInt8) (base : Nat) (v : Value) (B : Option Addr) (c : Nat) (R : Nat → Prop) (w : World) (hown : OwnB w base v to) (hb : BytesIn R w B b) (hlen : b.length = to.length) (hR : ∀ k, v.ownBlock = some k → ¬ R k) :
    Calls Try.prog 50 #[v, .slice B b.length c] w fun e w' => e = .returned (.tuple #[]) ∧ OwnB w' base v (xorL to b) ∧ Keeps (fun k => v.ownBlock = some k) w w' := by
  have hl := hb.len
  have HB := hid hb
  have HO := hid hown
  have H0 := hid (xorTo_zero to b)
  have HF := hid (xorTo_full to b hlen)
  have HL := hid (xorTo_length to b hlen)
  have HA := hid (xorTo_at to b hlen)
  have HS := hid (xorTo_set to b hlen)
  have hle := hid hlen
  have HR := hid hR
  obtain ⟨n, hn⟩ : ∃ n, b.length = n := ⟨_, rfl⟩
  rw [hn] at hl ⊢
  have hnt : to.length = n := by omega
  have hn2 := hid hn
  have hnt2 := hid hnt
  clear hb hown hlen hn hnt hR
  go_enter Try.func50, Try.ntmps50
  go_wp2_with fail
  go_loopw [8] (fun v8 wr => ∃ k : Nat, k ≤ n ∧ v8 = .int .i64 (k : Int) ∧ Hid (OwnB wr base v (xorTo to b k)) ∧ Hid (Keeps (fun k => v.ownBlock = some k) w wr)) (fun v8 _ => n - (intOf v8).toNat)
  case atStart => exact ⟨0, Nat.zero_le _, rfl, by rw [H0.out]; exact HO, Keeps.refl _ _⟩
  case round =>
    obtain ⟨k, hk, rfl, HOk, HK⟩ := hrel
    by_cases hlt : k < n
    · obtain ⟨bb, ob, rfl, hbR, hc⟩ := HB.out.get (by rw [hn2.out]; omega)
      have c1 := HK.out.cell (hc k (by rw [hn2.out]; exact hlt)) (fun e => HR.out bb e hbR)
      have hll := HL.out k
      rw [hnt2.out] at hll
      have hat := HA.out k (by rw [hnt2.out]; exact hlt)
      have hset := HS.out k (by rw [hnt2.out]; exact hlt)
      obtain ⟨g, cp, rfl⟩ := OwnInts.form HOk.out (by rw [enc8_length, hll]; omega)
      have c2 := OwnInts.cell (HOk.out : OwnInts _ _ _ _ _ _) (j := k) (by rw [enc8_length, hll]; exact hlt)
      rw [gi_enc8 _ k (by rw [hll]; exact hlt), hat] at c2
      have f2 := OwnInts.free (HOk.out : OwnInts _ _ _ _ _ _) k
      have hst := OwnInts.set (HOk.out : OwnInts _ _ _ _ _ _) (j := k) (by rw [enc8_length, hll]; exact hlt) ((gb to k ^^^ gb b k).toNat : Int)
      rw [enc8_set, hset] at hst
      have HST := hid hst
      have hx := xor_byte (gb to k) (gb b k)
      have hel : (enc8 (xorTo to b k)).length = n := by rw [enc8_length, hll]
      rw [hel] at HST HO HOk HK HR ⊢
      generalize ((gb to k ^^^ gb b k).toNat : Int) = z at *
      generalize ((gb to k).toNat : Int) = x at *
      generalize ((gb b k).toNat : Int) = y at *
      have q0 : (0 : Int) ≤ (k : Int) := by omega
      have q1 : (k : Int) < (n : Int) := by omega
      clear hst hset hat hc hbR hel
      go_wp2_with fail
      go_roundw
      case rel => exact ⟨k + 1, by omega, by go_num, HST, hid (HK.out.setCell (p := ⟨g, k, none⟩) (fun _ => rfl) _)⟩
      case measure => simp [intOf]; omega
    · obtain rfl : k = n := by omega
      go_wp2_with fail
      go_end0
      exact ⟨rfl, by rw [← HF.out, hnt2.out]; exact HOk.out, HK.out⟩
theorem fitB_false {n : Nat} {ls : List (List UInt8)} (h : fitB n ls = false) : ∃ j, j < ls.length ∧ (gr ls j).length ≠ n ∧ ∀ i, i < j → (gr ls i).length = n := by
  induction ls with
  | nil => simp [fitB] at h
  | cons l r ih =>
    by_cases hl : l.length = n
    · have : fitB n r = false := by simpa [fitB, hl] using h
      obtain ⟨j, h1, h2, h3⟩ := ih this
      refine ⟨j + 1, by simp; omega, by simpa [gr] using h2, fun i hi => ?_⟩
      match i, hi with
      | 0, _ => simpa [gr] using hl
      | i + 1, hi => have := h3 i (by omega); simpa [gr] using this
    · exact ⟨0, by simp, by simpa [gr] using hl, fun i hi => absurd hi (Nat.not_lt_zero _)⟩
theorem xorAll_take (a : List UInt8) (ls : List (List UInt8)) (k : Nat) (h : k < ls.length) : xorAll a (ls.take (k + 1)) = xorL (xorAll a (ls.take k)) (gr ls k) := by
  rw [List.take_succ_eq_append_getElem h, xorAll_snoc, gr_eq ls k h]
theorem fitB_take {n : Nat} {ls : List (List UInt8)} (h : fitB n ls = true) (k : Nat) : fitB n (ls.take k) = true :=
  List.all_eq_true.2 (fun l hl => List.all_eq_true.1 h l (List.mem_of_mem_take hl))
set_option maxHeartbeats 800000 in
theorem xors_yes (to : List UInt8) (ls : List (List UInt8)) (base : Nat) (v : Value) (A : Option Addr) (c : Nat) (R : Nat → Prop) (w : World) (hown : OwnB w base v to) (hb : RowsIn R w A ls) (hfit : fitB to.length ls = true) (hR : ∀ k, v.ownBlock = some k → ¬ R k) :
    Calls Try.prog 21 #[v, .slice A ls.length c] w fun e w' => e = .returned (.bool true) ∧ OwnB w' base v (xorAll to ls) ∧ Keeps (fun k => v.ownBlock = some k) w w' := by
  have hl := hb.len
  have HB := hid hb
  have HO := hid hown
  have HF := hid hfit
  have HR := hid hR
  have H0 := hid (show xorAll to (ls.take 0) = to from rfl)
  have HE := hid (show xorAll to (ls.take ls.length) = xorAll to ls by rw [List.take_length])
  have hln := hid (fun k => xorAll_length to (ls.take k) (fitB_take hfit k))
  have hst := hid (xorAll_take to ls)
  obtain ⟨av, cv, hv, hcv, _, _⟩ := hown.reads
  obtain ⟨n, hn⟩ : ∃ n, to.length = n := ⟨_, rfl⟩
  rw [hn] at hv hcv
  have hnn := hid hn
  obtain ⟨m, hm⟩ : ∃ m, ls.length = m := ⟨_, rfl⟩
  rw [hm] at hl ⊢
  have hmm := hid hm
  clear hb hown hfit hR hn hm
  subst hv
  go_enter Try.func21, Try.ntmps21
  go_wp2_with fail
  go_loop [11] (fun v11 => ∃ k : Nat, k ≤ m ∧ v11 = .int .i64 (k : Int)) (fun v11 => m - (intOf v11).toNat)
  case atStart => exact ⟨0, Nat.zero_le _, rfl⟩
  case round =>
    obtain ⟨k, hk, rfl⟩ := hrel
    by_cases hlt : k < m
    · obtain ⟨bb, ob, rfl, hbR, hc⟩ := HB.out.2 (by rw [hmm.out]; omega)
      obtain ⟨u, c1, A1, cc1, rfl, _, _, h1⟩ := hc k (by rw [hmm.out]; exact hlt)
      have hll := fitB_at HF.out k (by rw [hmm.out]; exact hlt)
      rw [hnn.out] at hll
      rw [hll] at c1
      have dne : (((n : Nat) : Int) != ((n : Nat) : Int)) = false := by simp
      have q0 : (0 : Int) ≤ (k : Int) := by omega
      have q1 : (k : Int) < (m : Int) := by omega
      clear hc hbR h1 hll
      go_wp2_with fail
      go_round
      case rel => exact ⟨k + 1, by omega, by go_num⟩
      case measure => simp [intOf]; omega
    · obtain rfl : k = m := by omega
      go_wp2_with fail
      go_loopw [23] (fun v23 wr => ∃ q : Nat, q ≤ k ∧ v23 = .int .i64 (q : Int) ∧ Hid (OwnB wr base (.slice av n cv) (xorAll to (ls.take q))) ∧ Hid (Keeps (fun k => (Value.slice av n cv).ownBlock = some k) w wr)) (fun v23 _ => k - (intOf v23).toNat)
      case atStart => exact ⟨0, Nat.zero_le _, rfl, by rw [H0.out]; exact HO, Keeps.refl _ _⟩
      case round =>
        obtain ⟨q, hq, rfl, HOq, HK⟩ := hrel
        by_cases hlt2 : q < k
        · have hrow := HB.out.keeps HK.out (fun b hb e => HR.out b e hb)
          obtain ⟨bb, ob, rfl, hbR, hc⟩ := hrow.2 (by rw [hmm.out]; omega)
          obtain ⟨u, c1, A1, cc1, rfl, _, _, h1⟩ := hc q (by rw [hmm.out]; exact hlt2)
          have hll := fitB_at HF.out q (by rw [hmm.out]; exact hlt2)
          have hlq := hln.out q
          have hsq := hid (hst.out q (by rw [hmm.out]; exact hlt2))
          have h1 := hid h1
          have hlx := hid (hll.trans hlq.symm)
          have q0 : (0 : Int) ≤ (q : Int) := by omega
          have q1 : (q : Int) < (k : Int) := by omega
          clear hc hbR hrow hll hlq
          generalize gr ls q = l at *
          go_wp2_with fail
          refine (xor_calls _ l base _ A1 cc1 R _ HOq.out h1.out hlx.out HR.out).mono ?_
          rintro e w2 ⟨rfl, hO2, HK2⟩
          have HO2 := hid hO2
          have HK2 := hid (HK.out.trans HK2 (fun _ _ h => h) (fun _ _ h => h))
          clear hO2
          go_wp2_with fail
          go_roundw
          case rel => exact ⟨q + 1, by omega, by go_num, by rw [hsq.out]; exact HO2, HK2⟩
          case measure => simp [intOf]; omega
        · obtain rfl : q = k := by omega
          go_wp2_with fail
          go_ret
          exact ⟨rfl, by rw [← HE.out, hmm.out]; exact HOq.out, HK.out⟩
set_option maxHeartbeats 800000 in
theorem xors_no (to : List UInt8) (ls : List (List UInt8)) (n cv : Nat) (av : Option Addr) (A : Option Addr) (c : Nat) (R : Nat → Prop) (w : World) (hb : RowsIn R w A ls) (hfit : fitB n ls = false) :
    Calls Try.prog 21 #[.slice av n cv, .slice A ls.length c] w fun e w' => e = .returned (.bool false) ∧ w' = w := by
  have hl := hb.len
  have HB := hid hb
  obtain ⟨j, hj, hjn, hji⟩ := fitB_false hfit
  have HJ := hid hji
  have HN := hid hjn
  obtain ⟨m, hm⟩ : ∃ m, ls.length = m := ⟨_, rfl⟩
  rw [hm] at hl hj ⊢
  have hmm := hid hm
  clear hb hfit hji hm hjn
  go_enter Try.func21, Try.ntmps21
  go_wp2_with fail
  go_loop [11] (fun v11 => ∃ k : Nat, k ≤ j ∧ v11 = .int .i64 (k : Int)) (fun v11 => m - (intOf v11).toNat)
  case atStart => exact ⟨0, Nat.zero_le _, rfl⟩
  case round =>
    obtain ⟨k, hk, rfl⟩ := hrel
    obtain ⟨bb, ob, rfl, hbR, hc⟩ := HB.out.2 (by rw [hmm.out]; omega)
    obtain ⟨u, c1, A1, cc1, rfl, _, _, h1⟩ := hc k (by rw [hmm.out]; omega)
    have q0 : (0 : Int) ≤ (k : Int) := by omega
    have q1 : (k : Int) < (m : Int) := by omega
    have hlt : k < m := by omega
    by_cases hkj : k < j
    · have hll := HJ.out k hkj
      rw [hll] at c1
      have dne : (((n : Nat) : Int) != ((n : Nat) : Int)) = false := by simp
      clear hc hbR h1 hll
      go_wp2_with fail
      go_round
      case rel => exact ⟨k + 1, by omega, by go_num⟩
      case measure => simp [intOf]; omega
    · obtain rfl : k = j := by omega
      have dne : ((((gr ls k).length : Nat) : Int) != ((n : Nat) : Int)) = true := by
        have := HN.out
        simp; omega
      clear hc hbR h1
      generalize (gr ls k).length = z at *
      go_wp2_with fail
      go_ret
      exact ⟨rfl, rfl⟩
theorem info_u8 : (Try.prog.info? 5).map (fun i => (i.zero, i.size, i.bytes)) = some (some (.int .u8 0), 1, 1) := by kernel_rfl
theorem enc8_zeros (n : Nat) : List.replicate n (Value.int .u8 0) = (enc8 (List.replicate n 0)).map (Value.int .u8) := by simp [enc8]
theorem OwnB.ofMake {w : World} {base n : Nat} {v : Value} (h : w.ownsRow base 5 1 v n (madeCells (Value.int .u8 0).cells (n * 1)).toList) : OwnB w base v (List.replicate n 0) := by
  have e0 : (madeCells (Value.int .u8 0).cells (n * 1)).toList = List.replicate n (Value.int .u8 0) := by
    apply List.ext_getElem
    · simp [madeCells]
    · intro i h1 h2; simp [madeCells, Value.cells, Nat.mod_one]
  rw [e0] at h
  unfold OwnB OwnInts
  rw [enc8_length, List.length_replicate, ← enc8_zeros]
  exact h
set_option maxHeartbeats 800000 in
set_option maxRecDepth 20000 in
theorem bsum_yes (n : Nat) (ls : List (List UInt8)) (A : Option Addr) (c : Nat) (R : Nat → Prop) (w : World) (hn : n ≤ 1073741824) (hb : RowsIn R w A ls) (hfit : fitB n ls = true) :
    Calls Try.prog 19 #[.int .i64 (n : Int), .slice A ls.length c] w fun e w' => ∃ v, e = .returned (.tuple #[v, .bool true]) ∧ OwnB w' w.heap.size v (sumB n ls) ∧ Keeps NoB w w' := by
  have HB := hid hb.lt
  have HF := hid (show fitB (List.replicate n (0 : UInt8)).length ls = true by rw [List.length_replicate]; exact hfit)
  have hmx : max (n : Int) 0 = (n : Int) := by omega
  have hui := Try.underlying25
  obtain ⟨i0, hi, hz0, hz1, hz2⟩ := info_parts info_u8
  clear hb hfit
  go_enter Try.func19, Try.ntmps19
  go_wp2_with (at_make; go_must (refine wpList_make_full _ rfl _ _ _ rfl w.heap.size 5 i0 (.int .u8 0) 1 hui hi hz0 hz1 .i64 .i64 _ _ n rfl rfl rfl rfl (by rw [hz2]; omega) (by unfold maxLen; omega) (Nat.le_refl _) ?_); intro w3 hown3 hgr3)
  have HO := hid (OwnB.ofMake hown3)
  have HK3 := hid ((Keeps.refl NoB w).grown hgr3 (fun i e => by cases e))
  have HB3 := hid (HB.out.kept ((Keeps.ofGrown hgr3).mono (fun i e _ => by cases e)))
  refine (xors_yes (List.replicate n 0) ls w.heap.size _ A c _ _ HO.out HB3.out HF.out (fun k hk h => by have := (OwnInts.base_le HO.out k hk).1; omega)).mono ?_
  rintro e w4 ⟨rfl, hO4, HK4⟩
  have hO4 := hid hO4
  have HK4 := hid (HK3.out.then HK4 (fun i hi hlt => by have := (OwnInts.base_le HO.out i hi).1; omega))
  go_wp2_with fail
  go_ret2
  exact ⟨_, rfl, hO4.out, HK4.out⟩
theorem orAll_zero (l : List UInt8) : ∀ a : UInt8, l.foldl (· ||| ·) a = 0 ↔ a = 0 ∧ ∀ x ∈ l, x = 0 := by
  induction l with
  | nil => intro a; simp
  | cons x r ih =>
    intro a
    show r.foldl (· ||| ·) (a ||| x) = 0 ↔ _
    rw [ih]
    have e : a ||| x = 0 ↔ a = 0 ∧ x = 0 := by
      rw [← UInt8.toNat_inj, UInt8.toNat_or, ← UInt8.toNat_inj (b := 0), ← UInt8.toNat_inj (a := x)]
      exact Nat.or_eq_zero_iff
    rw [e]; simp [and_assoc]
theorem orAll_zeroB (l : List UInt8) : decide (l.foldl (· ||| ·) 0 = 0) = zeroB l := by
  rw [Bool.eq_iff_iff, decide_eq_true_eq, orAll_zero]
  unfold zeroB
  rw [List.all_eq_true]
  simp
set_option maxHeartbeats 800000 in
set_option maxRecDepth 20000 in
theorem bsum_unfit (n : Nat) (ls : List (List UInt8)) (A : Option Addr) (c : Nat) (R : Nat → Prop) (w : World) (hn : n ≤ 1073741824) (hb : RowsIn R w A ls) (hfit : fitB n ls = false) :
    Calls Try.prog 19 #[.int .i64 (n : Int), .slice A ls.length c] w fun e w' => e = .returned (.tuple #[.slice none 0 0, .bool false]) ∧ Keeps NoB w w' := by
  have HB := hid hb
  have HF := hid hfit
  have hmx : max (n : Int) 0 = (n : Int) := by omega
  have hui := Try.underlying25
  obtain ⟨i0, hi, hz0, hz1, hz2⟩ := info_parts info_u8
  clear hb hfit
  go_enter Try.func19, Try.ntmps19
  go_wp2_with (at_make; go_must (refine wpList_make_full _ rfl _ _ _ rfl w.heap.size 5 i0 (.int .u8 0) 1 hui hi hz0 hz1 .i64 .i64 _ _ n rfl rfl rfl rfl (by rw [hz2]; omega) (by unfold maxLen; omega) (Nat.le_refl _) ?_); intro w3 hown3 hgr3)
  have HK3 := hid ((Keeps.refl NoB w).grown hgr3 (fun i e => by cases e))
  have HB3 := hid (HB.out.kept HK3.out)
  refine (xors_no [] ls n n _ A c _ _ HB3.out HF.out).mono ?_
  rintro e w4 ⟨rfl, rfl⟩
  go_wp2_with fail
  go_ret2
  exact ⟨rfl, HK3.out⟩
set_option maxHeartbeats 800000 in
set_option maxRecDepth 20000 in
theorem bsum_neg (n : Int) (m : Nat) (A : Option Addr) (c : Nat) (w : World) (hn : n < 0) (hn2 : -9223372036854775808 ≤ n) :
    Calls Try.prog 19 #[.int .i64 n, .slice A m c] w fun e w' => e = .returned (.tuple #[.slice none 0 0, .bool false]) ∧ Keeps NoB w w' := by
  have hmx : max n 0 = ((0 : Nat) : Int) := by omega
  have hui := Try.underlying25
  obtain ⟨i0, hi, hz0, hz1, hz2⟩ := info_parts info_u8
  have d0 : decide (n < 0) = true := decide_eq_true hn
  go_enter Try.func19, Try.ntmps19
  go_wp2_with (at_make; go_must (refine wpList_make_full _ rfl _ _ _ rfl w.heap.size 5 i0 (.int .u8 0) 1 hui hi hz0 hz1 .i64 .i64 _ _ 0 rfl rfl rfl rfl (by rw [hz2]; omega) (by unfold maxLen; omega) (Nat.le_refl _) ?_); intro w3 hown3 hgr3)
  have HK3 := hid ((Keeps.refl NoB w).grown hgr3 (fun i e => by cases e))
  go_wp2_with fail
  go_ret2
  exact ⟨rfl, HK3.out⟩
/-! The document's answer. -/
def fitN (n : Int) (ls : List (List UInt8)) : Bool := decide (0 ≤ n) && fitB n.toNat ls
end Go.Proofs.Ytnnkfopopanfjaa

/- Lists of lists of bytes, of the call's own; bytes in words; copies. No condition. -/
set_option linter.unusedVariables false
namespace Go.Proofs.Ytnnkfopopanfjaa
open Go.RowKit

theorem info_bytes : (Try.prog.info? 25).map (fun i => (i.zero, i.size, i.bytes)) = some (some (.slice none 0 0), 1, 24) := by kernel_rfl
/-- Lists of bytes: the row that holds them is the call's own. -/
def OwnRows (R : Nat → Prop) (w : World) (base : Nat) (v : Value) (ls : List (List UInt8)) : Prop :=
  ∃ us : List Value, us.length = ls.length ∧ w.ownsRow base 25 1 v ls.length us ∧ ∀ (j : Nat) (u : Value), us[j]? = some u → RowIn (fun b => R b ∧ v.ownBlock ≠ some b) w u (gr ls j)
theorem own_form {w : World} {base : Nat} {e : TypeId} {v : Value} {n : Nat} {us : List Value} (h : w.ownsRow base e 1 v n us) : ∃ A c, v = .slice A n c ∧ n ≤ c ∧ (A = none → c = 0) ∧ n ≤ 9223372036854775807 := by
  rcases h.2 with ⟨rfl, h0⟩ | ⟨g, cap, cur, rfl, hb, hg, h1, h2, h3, h4⟩
  · exact ⟨none, 0, by rw [h0], by omega, fun _ => rfl, by omega⟩
  · exact ⟨_, cap, rfl, h1, fun e => (by cases e), by unfold maxLen at h2; omega⟩
theorem OwnRows.reads {R : Nat → Prop} {w : World} {base : Nat} {v : Value} {ls : List (List UInt8)} (h : OwnRows R w base v ls) : ∃ A c, v = .slice A ls.length c ∧ ls.length ≤ c ∧ (A = none → c = 0) ∧ RowsIn (fun b => R b ∨ v.ownBlock = some b) w A ls := by
  obtain ⟨us, hl, hown, hr⟩ := h
  obtain ⟨A, c, rfl, h1, h2, h3⟩ := own_form hown
  refine ⟨A, c, rfl, h1, h2, h3, fun h0 => ?_⟩
  rcases hown.2 with ⟨e, h4⟩ | ⟨g, cap, cur, e, hb, hg, h5, h6, h7, h8⟩
  · omega
  · injection e with e1 e2 e3
    subst e1 e3
    refine ⟨g, 0, rfl, .inr rfl, fun j hj => ?_⟩
    obtain ⟨u, hu⟩ : ∃ u, us[j]? = some u := ⟨us[j]'(by omega), List.getElem?_eq_getElem _⟩
    have hc := own_cell hown hu
    exact ⟨u, by rw [Nat.zero_add]; exact hc, (hr j u hu).mono (fun b _ hb => .inl hb.1)⟩
theorem OwnRows.base_le {R : Nat → Prop} {w : World} {base : Nat} {v : Value} {ls : List (List UInt8)} (h : OwnRows R w base v ls) (b : Nat) (hb : v.ownBlock = some b) : base ≤ b ∧ b < w.heap.size := by
  obtain ⟨us, hl, hown, hr⟩ := h
  exact World.ownsRow.lt hown b hb
theorem OwnRows.keeps {R S : Nat → Prop} {w w1 : World} {base : Nat} {v : Value} {ls : List (List UInt8)} (h : OwnRows R w base v ls) (hk : Keeps S w w1) (hR : ∀ b, R b → ¬ S b) (hv : ∀ b, v.ownBlock = some b → ¬ S b) : OwnRows R w1 base v ls := by
  obtain ⟨us, hl, hown, hr⟩ := h
  exact ⟨us, hl, own_keeps hown hk hv, fun j u hu => (hr j u hu).keeps hk (fun b hb => hR b hb.1)⟩
theorem OwnRows.kept {R : Nat → Prop} {w w1 : World} {base : Nat} {v : Value} {ls : List (List UInt8)} (h : OwnRows R w base v ls) (hk : Keeps NoB w w1) : OwnRows R w1 base v ls := h.keeps hk (fun _ _ h => h) (fun _ _ h => h)
theorem OwnRows.mono {R R' : Nat → Prop} {w : World} {base : Nat} {v : Value} {ls : List (List UInt8)} (h : OwnRows R w base v ls) (hr : ∀ b, b < w.heap.size → R b → R' b) : OwnRows R' w base v ls := by
  obtain ⟨us, hl, hown, h3⟩ := h
  exact ⟨us, hl, hown, fun j u hu => (h3 j u hu).mono (fun b h1 h2 => ⟨hr b h1 h2.1, h2.2⟩)⟩
theorem OwnRows.lower {R : Nat → Prop} {w : World} {base base' : Nat} {v : Value} {ls : List (List UInt8)} (h : OwnRows R w base v ls) (hb : base' ≤ base) : OwnRows R w base' v ls := by
  obtain ⟨us, hl, hown, h3⟩ := h
  refine ⟨us, hl, ⟨hown.1, ?_⟩, h3⟩
  rcases hown.2 with h2 | ⟨g, cap, cur, rfl, hg, r⟩
  · exact .inl h2
  · exact .inr ⟨g, cap, cur, rfl, Nat.le_trans hb hg, r⟩
theorem OwnRows.nil (R : Nat → Prop) (w : World) (base : Nat) : OwnRows R w base (.slice none 0 0) [] :=
  ⟨[], rfl, World.ownsRow_nil w base _ 1, fun j u hu => by simp at hu⟩
/-- '[][]byte{}'. -/
theorem OwnRows.empty (R : Nat → Prop) (w : World) (base : Nat) (hb : base ≤ w.heap.size) (n : Nat) (cs : Array Value) (h : n = 0) : OwnRows R (w.alloc (.cells #[] 25)) base (.slice (some ⟨w.heap.size, 0, none⟩) 0 0) [] :=
  ⟨[], rfl, World.ownsRow_made w #[] 0 hb (Nat.zero_le _) rfl, fun j u hu => by simp at hu⟩
theorem OwnRows.made {R : Nat → Prop} {w : World} {base n : Nat} {v : Value} (h : w.ownsRow base 25 1 v n (madeCells (Value.slice none 0 0).cells (n * 1)).toList) : OwnRows R w base v (List.replicate n []) := by
  have e0 : (madeCells (Value.slice none 0 0).cells (n * 1)).toList = List.replicate n (Value.slice none 0 0) := by
    apply List.ext_getElem
    · simp [madeCells]
    · intro i h1 h2; simp [madeCells, Value.cells, Nat.mod_one]
  rw [e0] at h
  refine ⟨List.replicate n (Value.slice none 0 0), by simp, by rw [List.length_replicate]; exact h, fun j u hu => ?_⟩
  rw [List.getElem?_replicate] at hu
  split at hu
  · cases hu
    have : gr (List.replicate n ([] : List UInt8)) j = [] := by unfold gr; rw [List.getD_eq_getElem?_getD, List.getElem?_replicate]; split <;> rfl
    rw [this]
    exact ⟨none, 0, rfl, Nat.le_refl _, fun _ => rfl, BytesIn.nil _ _⟩
  · cases hu
/-- One of them is written. -/
theorem OwnRows.set {R : Nat → Prop} {w : World} {base g n c j : Nat} {ls : List (List UInt8)} {u : Value} {l : List UInt8} (h : OwnRows R w base (.slice (some ⟨g, 0, none⟩) n c) ls) (hj : j < ls.length) (hu : RowIn (fun b => R b ∧ b ≠ g) w u l) :
    OwnRows R (w.setCell ⟨g, j, none⟩ u) base (.slice (some ⟨g, 0, none⟩) n c) (ls.set j l) := by
  obtain ⟨us, hl, hown, h3⟩ := h
  have hk := Keeps.one w g j u
  refine ⟨us.set j u, by simp [hl], by rw [List.length_set]; exact own_set hown u, fun i x hx => ?_⟩
  have hgr : gr (ls.set j l) i = if i = j then l else gr ls i := by
    unfold gr
    rw [List.getD_eq_getElem?_getD, List.getElem?_set]
    by_cases e : j = i
    · subst e; simp [hj]
    · rw [if_neg e, if_neg (fun h => e h.symm), List.getD_eq_getElem?_getD]
  rw [List.getElem?_set] at hx
  by_cases e : j = i
  · rw [if_pos e] at hx
    split at hx
    · cases hx
      rw [hgr, if_pos e.symm]
      refine (hu.keeps hk (fun b hb e => hb.2 e)).mono (fun b _ hb => ⟨hb.1, fun e => ?_⟩)
      have : g = b := by simpa [Value.ownBlock] using e
      exact hb.2 this.symm
    · cases hx
  · rw [if_neg e] at hx
    rw [hgr, if_neg (fun h => e h.symm)]
    exact (h3 i x hx).keeps hk (fun b hb e => hb.2 (by rw [e]; rfl))
/-- One more. -/
theorem OwnRows.snoc {R : Nat → Prop} {w w1 : World} {base g cap : Nat} {v u : Value} {ls : List (List UInt8)} {l : List UInt8} {us : List Value} {o : Obj} (h : OwnRows R w base v ls) (hu : RowIn (fun b => R b ∧ v.ownBlock ≠ some b) w u l)
    (hus : us.length = ls.length ∧ w.ownsRow base 25 1 v ls.length us ∧ ∀ (j : Nat) (u : Value), us[j]? = some u → RowIn (fun b => R b ∧ v.ownBlock ≠ some b) w u (gr ls j))
    (hown : w1.ownsRow base 25 1 (.slice (some ⟨g, 0, none⟩) (ls.length + 1) cap) (ls.length + 1) (us ++ [u])) (hgr : (w.alloc o).grownBy w1 v.ownBlock) (hat : v.ownBlock = some g ∨ g = (w.alloc o).heap.size) :
    OwnRows R w1 base (.slice (some ⟨g, 0, none⟩) (ls.length + 1) cap) (ls ++ [l]) := by
  obtain ⟨hl, _, h3⟩ := hus
  have hk : Keeps (fun k => some k = v.ownBlock) w w1 := ((Keeps.refl NoB w).alloc o).trans (Keeps.ofGrown hgr) (fun _ _ h => h.elim) (fun _ _ h => h)
  have key : ∀ (x : Value) (m : List UInt8), RowIn (fun b => R b ∧ v.ownBlock ≠ some b) w x m → RowIn (fun b => R b ∧ (Value.slice (some ⟨g, 0, none⟩) (ls.length + 1) cap).ownBlock ≠ some b) w1 x m := fun x m hx => by
    have hlt : RowIn (fun b => (R b ∧ v.ownBlock ≠ some b) ∧ b < w.heap.size) w x m := hx.mono (fun b h1 h2 => ⟨h2, h1⟩)
    refine (hlt.keeps hk (fun b hb e => hb.1.2 e.symm)).mono (fun b _ hb => ⟨hb.1.1, fun e => ?_⟩)
    have : g = b := by simpa [Value.ownBlock] using e
    subst this
    rcases hat with h | h
    · exact hb.1.2 h
    · rw [World.size_alloc] at h; have := hb.2; omega
  refine ⟨us ++ [u], by simp [hl], by rw [List.length_append]; exact hown, fun j x hx => ?_⟩
  have hgr2 : gr (ls ++ [l]) j = if j = ls.length then l else gr ls j := by
    unfold gr
    rw [List.getD_eq_getElem?_getD, List.getD_eq_getElem?_getD]
    by_cases hj : j < ls.length
    · rw [List.getElem?_append_left hj, if_neg (by omega)]
    · rw [List.getElem?_append_right (by omega)]
      by_cases e : j = ls.length
      · rw [if_pos e, e]; simp
      · rw [if_neg e, List.getElem?_eq_none (by simp; omega), List.getElem?_eq_none (by omega)]
  rw [hgr2]
  by_cases hj : j < us.length
  · rw [List.getElem?_append_left hj] at hx
    rw [if_neg (by omega)]
    exact key x _ (h3 j x hx)
  · rw [List.getElem?_append_right (by omega)] at hx
    have e : j = us.length := by
      refine Nat.le_antisymm (Nat.le_of_not_lt (fun hc => ?_)) (by omega)
      rw [List.getElem?_eq_none (by simp; omega)] at hx; cases hx
    rw [if_pos (by omega)]
    rw [e, Nat.sub_self] at hx
    cases hx
    exact key _ l hu
/-- The same, the number of lists by its name. -/
theorem OwnRows.snocN {R : Nat → Prop} {w w1 : World} {base g cap n : Nat} {v u : Value} {ls : List (List UInt8)} {l : List UInt8} {us : List Value} {o : Obj} (hn : ls.length = n) (h : OwnRows R w base v ls) (hu : RowIn (fun b => R b ∧ v.ownBlock ≠ some b) w u l)
    (hus : us.length = n) (hus2 : w.ownsRow base 25 1 v n us) (hus3 : ∀ (j : Nat) (u : Value), us[j]? = some u → RowIn (fun b => R b ∧ v.ownBlock ≠ some b) w u (gr ls j))
    (hown : w1.ownsRow base 25 1 (.slice (some ⟨g, 0, none⟩) (n + 1) cap) (n + 1) (us ++ [u])) (hgr : (w.alloc o).grownBy w1 v.ownBlock) (hat : v.ownBlock = some g ∨ g = (w.alloc o).heap.size) :
    OwnRows R w1 base (.slice (some ⟨g, 0, none⟩) (n + 1) cap) (ls ++ [l]) := by
  subst hn
  exact h.snoc hu ⟨hus, hus2, hus3⟩ hown hgr hat
/-- Its parts. -/
theorem OwnRows.parts {R : Nat → Prop} {w : World} {base n : Nat} {v : Value} {ls : List (List UInt8)} (h : OwnRows R w base v ls) (hn : ls.length = n) : ∃ us A c, v = .slice A n c ∧ us.length = n ∧ w.ownsRow base 25 1 v n us ∧ ∀ (j : Nat) (u : Value), us[j]? = some u → RowIn (fun b => R b ∧ v.ownBlock ≠ some b) w u (gr ls j) := by
  subst hn
  obtain ⟨us, h1, h2, h3⟩ := h
  obtain ⟨A, c, hv, _⟩ := own_form h2
  exact ⟨us, A, c, hv, h1, h2, h3⟩
/-- Bytes, in words. -/
def strOf (l : List UInt8) : ByteArray := ⟨l.toArray⟩
theorem strOf_inj {a b : List UInt8} (h : strOf a = strOf b) : a = b := by unfold strOf at h; injection h with h; exact List.toArray_inj h
theorem strOf_toList (l : List UInt8) : (strOf l).toList = l := by rw [ByteArray.toList_eq]; rfl
theorem strOf_size (l : List UInt8) : (strOf l).size = l.length := by simp [strOf, ByteArray.size]
theorem conv_run (src dst : TypeId) (hs : Try.prog.underlying src = some (.slice 5)) (hd : Try.prog.underlying dst = some .string) {R : Nat → Prop} {w : World} {A : Option Addr} {l : List UInt8} (h : BytesIn R w A l) (c : Nat) :
    (Go.convert src dst (.slice A l.length c)).run Try.prog w = .ok (.string (strOf l)) w := by
  rcases Nat.eq_zero_or_pos l.length with h0 | h0
  · obtain rfl : l = [] := List.length_eq_zero_iff.1 h0
    show (Go.convert src dst (.slice A 0 c)).run Try.prog w = _
    rw [Go.run_convert_bytes_string w src dst 5 A 0 c hs Try.underlying5 hd]
    have hl : ∀ x, (loadCells x 0).run Try.prog w = .ok #[] w := fun x => by simpa using run_loadCells_list (P := Try.prog) w x [] (by simp)
    cases A with
    | none => rfl
    | some a =>
      simp [Conv.bytesToString, hl]
      rfl
  · obtain ⟨b, off, rfl, _, hc⟩ := h.get h0
    have hb : Go.Lib.Bytes w b off (strOf l) := fun i hi => by
      rw [strOf_size] at hi
      rw [hc i hi, gb_eq l i hi]
      rfl
    have := Go.Lib.run_convert_whole w src 5 dst hs Try.underlying5 hd b off (strOf l) hb c
    rw [strOf_size] at this
    exact this
theorem splice_bytes (to b : List UInt8) (n : Nat) (hn : n = min b.length to.length) (rest : List Value) :
    (((enc8 to).map (Value.int .u8) ++ rest).take 0 ++ (enc8 (b.take n)).map (Value.int .u8) ++ ((enc8 to).map (Value.int .u8) ++ rest).drop (0 + ((enc8 (b.take n)).map (Value.int .u8)).length)) =
      (enc8 (b.take n ++ to.drop n)).map (Value.int .u8) ++ rest := by
  have hl : ((enc8 (b.take n)).map (Value.int .u8)).length = n := by rw [List.length_map, enc8_length, List.length_take]; omega
  rw [hl, List.take_zero, List.nil_append, Nat.zero_add, List.drop_append_of_le_length (by rw [List.length_map, enc8_length]; omega), enc8_append, List.map_append, ← List.append_assoc]
  congr 2
  unfold enc8
  rw [List.map_drop, List.map_drop]
/-- 'copy(to, b)', to whole and the call's own. -/
theorem run_copy_bytes {w : World} {base : Nat} {v : Value} {to b : List UInt8} (dT sT ty : TypeId) (hu : Try.prog.underlying dT = some (.slice 5)) (hown : OwnB w base v to) {R : Nat → Prop} {A : Option Addr} (c : Nat) (hb : BytesIn R w A b) :
    ∃ (n : Nat) (w' : World), (Builtin.copy_ #[dT, sT] ty #[v, .slice A b.length c]).run Try.prog w = .ok (goInt n) w' ∧ n = min b.length to.length ∧ OwnB w' base v (b.take n ++ to.drop n) ∧ Keeps (fun k => v.ownBlock = some k) w w' := by
  have hsz : (Try.prog.info? 5).map (·.size) = some 1 := by kernel_rfl
  obtain ⟨Av, cv, rfl, hcv, _, hbv⟩ := hown.reads
  rcases Nat.eq_zero_or_pos (min b.length to.length) with h0 | h0
  · refine ⟨0, w, run_copy_none w dT sT ty 5 Av A to.length cv b.length c hu hsz h0, h0.symm, ?_, Keeps.refl _ _⟩
    simpa using hown
  · obtain ⟨bs, os, rfl, _, hc⟩ := hb.get (by omega)
    have hown0 := hown
    rcases hown.2 with ⟨e, _⟩ | ⟨g, cap, cur, e, hgb, hg, h1, h2, h3, h4⟩
    · injection e with e1 e2 e3; omega
    · injection e with e1 e2 e3
      subst e1 e3
      rw [enc8_length] at h1 h4
      obtain ⟨n, hn⟩ : ∃ n, n = min b.length to.length := ⟨_, rfl⟩
      have hcl : ((enc8 (b.take n)).map (Value.int .u8)).length = n := by rw [List.length_map, enc8_length, List.length_take]; omega
      have hcur : cur.toList = (enc8 to).map (Value.int .u8) ++ cur.toList.drop (to.length * 1) := by
        rw [← h4, List.take_append_drop]
      have hrun := run_copy_row (P := Try.prog) w dT sT ty 5 g 0 to.length cv ⟨bs, os, none⟩ b.length c cur 5 ((enc8 (b.take n)).map (Value.int .u8)) hu hsz hg (by rw [hcl, hn]) (fun j u hj => by
        have hjn : j < n := by
          have := (List.getElem?_eq_some_iff.1 hj).1
          omega
        have := hc j (by omega)
        simp only [List.getElem?_map, enc8] at hj
        rw [List.getElem?_take_of_lt hjn, List.getElem?_eq_getElem (by omega : j < b.length)] at hj
        simp only [Option.map_some, Option.some.injEq] at hj
        rw [← hj]
        rw [gb_eq b j (by omega)] at this
        unfold Addr.add
        split
        · rename_i e0; subst e0; exact this
        · exact this) (by rw [hcl]; have := h3; simp only [Nat.mul_one] at this; omega) (fun u hu2 => by
        obtain ⟨x, _, rfl⟩ := List.mem_map.1 hu2
        rfl)
      rw [hcl] at hrun
      refine ⟨n, _, hrun, hn, ?_, ⟨rfl, rfl, rfl, by simp [World.setRow], fun k hk hne => setRow_other w g k _ (fun e => hne (by rw [e]; rfl))⟩⟩
      have hll : (b.take n ++ to.drop n).length = to.length := by rw [List.length_append, List.length_take, List.length_drop]; omega
      refine ⟨by simp, .inr ⟨g, cv, _, by rw [enc8_length, hll], hgb, setRow_heap w g cur _ _ _ hg, by rw [enc8_length, hll]; exact h1, h2, ?_, ?_⟩⟩
      · have hs3 := h3
        simp only [Nat.mul_one] at hs3 ⊢
        rw [List.size_toArray, List.take_zero, List.nil_append, Nat.zero_add, List.length_append, hcl, List.length_drop, Array.length_toList]
        omega
      · rw [enc8_length, hll]
        show List.take (to.length * 1) (_ : List Value).toArray.toList = _
        rw [List.toList_toArray, hcur]
        have := splice_bytes to b n hn (cur.toList.drop (to.length * 1))
        rw [hcl] at this
        rw [this, List.take_append_of_le_length (by rw [List.length_map, enc8_length, hll]; omega), List.take_of_length_le (by rw [List.length_map, enc8_length, hll]; omega)]
end Go.Proofs.Ytnnkfopopanfjaa

/- A sample, as the reference draws it: its walk. Conditions: the numbers are of their kinds; below is at most 2^30. -/
set_option linter.unusedVariables false
namespace Go.Proofs.Ytnnkfopopanfjaa
open Go.RowKit

def pickN (l : List Int) (j x : Nat) : Int := if (x : Int) ∈ l then (j : Int) else (x : Int)
/-- The state behind i draws, and what was drawn, in its order. -/
noncomputable def drawN (s lo : Nat) : Nat → Nat × List Int
  | 0 => (s, [])
  | i + 1 => ((belowN (drawN s lo i).1 (lo + i + 1)).1, (drawN s lo i).2 ++ [pickN (drawN s lo i).2 (lo + i) (belowN (drawN s lo i).1 (lo + i + 1)).2])
theorem drawN_lt (s lo : Nat) (hs : s < 18446744073709551616) (i : Nat) : (drawN s lo i).1 < 18446744073709551616 := by
  cases i with
  | zero => exact hs
  | succ i =>
    have h := drawN_lt s lo hs i
    show (belowN (drawN s lo i).1 (lo + i + 1)).1 < _
    exact belowN_lt _ _ h
theorem drawN_length (s lo i : Nat) : (drawN s lo i).2.length = i := by
  induction i with
  | zero => rfl
  | succ i ih =>
    show ((drawN s lo i).2 ++ [_]).length = _
    rw [List.length_append, ih]; rfl
/-- Numbers, put in their order one by one. -/
def srt (l : List Int) : List Int := l.foldl (fun a y => ins y a) []
theorem srt_snoc (l : List Int) (y : Int) : srt (l ++ [y]) = ins y (srt l) := by unfold srt; rw [List.foldl_append]; rfl
theorem mem_ins (n x : Int) (l : List Int) : x ∈ ins n l ↔ x = n ∨ x ∈ l := by
  induction l with
  | nil => simp [ins]
  | cons y r ih =>
    unfold ins
    split
    · simp
    · rw [List.mem_cons, ih, List.mem_cons]
      constructor
      · rintro (h | h | h)
        · exact .inr (.inl h)
        · exact .inl h
        · exact .inr (.inr h)
      · rintro (h | h | h)
        · exact .inr (.inl h)
        · exact .inl h
        · exact .inr (.inr h)
theorem srt_length (l : List Int) : (srt l).length = l.length := by
  suffices h : ∀ (l a : List Int), (l.foldl (fun a y => ins y a) a).length = a.length + l.length by rw [srt, h]; simp
  intro l
  induction l with
  | nil => intro a; simp
  | cons y r ih => intro a; rw [List.foldl_cons, ih, ins_length, List.length_cons]; omega
theorem mem_srt (x : Int) (l : List Int) : x ∈ srt l ↔ x ∈ l := by
  suffices h : ∀ (l a : List Int), x ∈ l.foldl (fun a y => ins y a) a ↔ x ∈ a ∨ x ∈ l by rw [srt, h]; simp
  intro l
  induction l with
  | nil => intro a; simp
  | cons y r ih =>
    intro a
    rw [List.foldl_cons, ih, mem_ins, List.mem_cons]
    constructor
    · rintro ((h | h) | h)
      · exact .inr (.inl h)
      · exact .inl h
      · exact .inr (.inr h)
    · rintro (h | h | h)
      · exact .inl (.inr h)
      · exact .inl (.inl h)
      · exact .inr h
/-- How many are drawn; from where on. -/
def cntN (below many : Int) : Nat := (if many > below then below else many).toNat
def loN (below many : Int) : Nat := below.toNat - cntN below many
/-- What is drawn, rising. -/
noncomputable def someN (s : Nat) (below many : Int) : List Int := srt (drawN s (loN below many) (cntN below many)).2
noncomputable def someS (s : Nat) (below many : Int) : Nat := (drawN s (loN below many) (cntN below many)).1

set_option maxHeartbeats 800000 in
theorem rsome_core (s : Nat) (below many' : Int) (cnt lo : Nat) (many : Int) (w : World) (hs : s < 18446744073709551616) (hb : below ≤ 1073741824) (hb' : -9223372036854775808 ≤ below) (hm0 : -9223372036854775808 ≤ many') (hm1 : many' ≤ below)
    (hmm : (if many > below then below else many) = many') (hc : cnt = many'.toNat) (hl : lo = below.toNat - cnt) :
    Calls Try.prog 70 #[.int .u64 (s : Int), .int .i64 below, .int .i64 many] w fun e w' => ∃ A c, e = .returned (.tuple #[.int .u64 ((drawN s lo cnt).1 : Nat), .slice A cnt c]) ∧ cnt ≤ c ∧ IntsAt w' .i64 A (srt (drawN s lo cnt).2) ∧ Keeps NoB w w' := by
  have HC := hid hc
  have HL := hid hl
  clear hc hl
  by_cases hgt : many > below
  · obtain rfl : below = many' := by rw [if_pos hgt] at hmm; exact hmm
    have hd : decide (below < many) = true := decide_eq_true hgt
    clear hmm
    go_enter Try.func70, Try.ntmps70
    go_wp2_with fail
    go_loopw [0, 8, 9] (fun v0 v8 v9 wr => ∃ (i : Nat) (st : Nat) (l : List Int) (A : Option Addr) (c : Nat), i ≤ below.toNat ∧ v9 = .int .i64 i ∧ v0 = .int .u64 st ∧ v8 = .slice A l.length c ∧ l.length ≤ i ∧ l.length ≤ c ∧ Hid (drawN s lo i = (st, (drawN s lo i).2)) ∧ Hid (l = srt (drawN s lo i).2) ∧ Hid (IntsAt wr .i64 A l) ∧ Hid (Keeps NoB w wr)) (fun _ _ v9 _ => below.toNat - (intOf v9).toNat)
    case atStart =>
      obtain ⟨A, c, e, h1, h2⟩ := (OwnInts.empty w w.heap.size .i64 3 (Nat.le_refl _)).reads
      exact ⟨0, s, [], A, c, Nat.zero_le _, rfl, rfl, e, Nat.le_refl _, h1, rfl, rfl, h2, (Keeps.refl _ w).alloc _⟩
    case round =>
      obtain ⟨i, st, l, A, c, hi, rfl, rfl, rfl, hli, hlc, HS, HLL, HAT, HK⟩ := hrel
      have hst := hid (show st < 18446744073709551616 by have h1 := congrArg Prod.fst HS.out; have h2 := drawN_lt s lo hs i; rw [h1] at h2; exact h2)
      by_cases hlt : (i : Int) < below
      · have hj1 := hid (show (i : Int) + 1 = ((lo + i + 1 : Nat) : Int) by have := HL.out; have := HC.out; omega)
        have hj0 := hid (show (i : Int) = ((lo + i : Nat) : Int) by have := HL.out; have := HC.out; omega)
        have hn9 := hid (show lo + i + 1 ≤ 9223372036854775807 by have := HL.out; have := HC.out; omega)
        go_wp2_with fail
        rw [hj1.out]
        refine (rbelow_calls st (lo + i + 1) _ hn9.out).mono ?_
        rintro e w1 ⟨rfl, HK1⟩
        have HK1 := hid HK1
        have hx := hid (show drawN s lo (i + 1) = ((belowN st (lo + i + 1)).1, (drawN s lo i).2 ++ [pickN (drawN s lo i).2 (lo + i) (belowN st (lo + i + 1)).2]) by
          show ((belowN (drawN s lo i).1 (lo + i + 1)).1, (drawN s lo i).2 ++ [pickN (drawN s lo i).2 (lo + i) (belowN (drawN s lo i).1 (lo + i + 1)).2]) = _
          rw [congrArg Prod.fst HS.out])
        generalize hB : belowN st (lo + i + 1) = B at *
        obtain ⟨st1, x⟩ := B
        clear hB
        go_wp2_with fail
        refine (has_calls l (x : Int) A c _ (HAT.out.kept HK1.out)).mono ?_
        rintro e w2 ⟨rfl, HK2⟩
        have HK2 := hid HK2
        by_cases hin : (x : Int) ∈ l
        · have hd : decide ((x : Int) ∈ l) = true := decide_eq_true hin
          have hp := hid (show pickN (drawN s lo i).2 (lo + i) x = (i : Int) by rw [hj0.out]; unfold pickN; rw [if_pos ((mem_srt _ _).1 (HLL.out ▸ hin))])
          go_wp2_with fail
          refine (insert_calls l ((i : Int)) A c _ ((HAT.out.kept HK1.out).kept HK2.out) (by have := hli; omega)).mono ?_
          rintro e w3 ⟨v, rfl, hown, HK3⟩
          have hnew := hid (show ins ((i : Int)) l = srt (drawN s lo (i + 1)).2 by rw [hx.out]; rw [srt_snoc, hp.out, ← HLL.out])
          have hst1 := hid (show drawN s lo (i + 1) = (st1, (drawN s lo (i + 1)).2) by rw [hx.out])
          obtain ⟨A1, c1, rfl, hc1, hat1⟩ := hown.reads
          have hat1 := hid hat1
          have HK3 := hid HK3
          clear hown
          have hlen := hid (ins_length ((i : Int)) l)
          go_wp2_with fail
          go_roundw
          case rel => exact ⟨i + 1, st1, ins ((i : Int)) l, A1, c1, by omega, by go_num, rfl, rfl, by rw [hlen.out]; omega, hc1, hst1, hnew, hat1, ((HK.out.fresh HK1.out).fresh HK2.out).fresh HK3.out⟩
          case measure => simp [intOf]; omega
        · have hd : decide ((x : Int) ∈ l) = false := decide_eq_false hin
          have hp := hid (show pickN (drawN s lo i).2 (lo + i) x = (x : Int) by unfold pickN; rw [if_neg (fun h => hin (HLL.out ▸ (mem_srt _ _).2 h))])
          go_wp2_with fail
          refine (insert_calls l (x : Int) A c _ ((HAT.out.kept HK1.out).kept HK2.out) (by have := hli; omega)).mono ?_
          rintro e w3 ⟨v, rfl, hown, HK3⟩
          have hnew := hid (show ins (x : Int) l = srt (drawN s lo (i + 1)).2 by rw [hx.out]; rw [srt_snoc, hp.out, ← HLL.out])
          have hst1 := hid (show drawN s lo (i + 1) = (st1, (drawN s lo (i + 1)).2) by rw [hx.out])
          obtain ⟨A1, c1, rfl, hc1, hat1⟩ := hown.reads
          have hat1 := hid hat1
          have HK3 := hid HK3
          clear hown
          have hlen := hid (ins_length (x : Int) l)
          go_wp2_with fail
          go_roundw
          case rel => exact ⟨i + 1, st1, ins (x : Int) l, A1, c1, by omega, by go_num, rfl, rfl, by rw [hlen.out]; omega, hc1, hst1, hnew, hat1, ((HK.out.fresh HK1.out).fresh HK2.out).fresh HK3.out⟩
          case measure => simp [intOf]; omega
      · have hic : i = cnt := by have := HC.out; omega
        subst hic
        go_wp2_with fail
        go_ret2
        have hlen : l.length = i := by rw [HLL.out, srt_length, drawN_length]
        refine ⟨A, c, ?_, by omega, by rw [← HLL.out]; exact HAT.out, HK.out⟩
        rw [congrArg Prod.fst HS.out, ← hlen]
        rfl
  · obtain rfl : many = many' := by rw [if_neg hgt] at hmm; exact hmm
    have hd : decide (below < many) = false := decide_eq_false hgt
    clear hmm
    go_enter Try.func70, Try.ntmps70
    go_wp2_with fail
    go_loopw [0, 8, 9] (fun v0 v8 v9 wr => ∃ (i : Nat) (st : Nat) (l : List Int) (A : Option Addr) (c : Nat), i ≤ many.toNat ∧ v9 = .int .i64 i ∧ v0 = .int .u64 st ∧ v8 = .slice A l.length c ∧ l.length ≤ i ∧ l.length ≤ c ∧ Hid (drawN s lo i = (st, (drawN s lo i).2)) ∧ Hid (l = srt (drawN s lo i).2) ∧ Hid (IntsAt wr .i64 A l) ∧ Hid (Keeps NoB w wr)) (fun _ _ v9 _ => many.toNat - (intOf v9).toNat)
    case atStart =>
      obtain ⟨A, c, e, h1, h2⟩ := (OwnInts.empty w w.heap.size .i64 3 (Nat.le_refl _)).reads
      exact ⟨0, s, [], A, c, Nat.zero_le _, rfl, rfl, e, Nat.le_refl _, h1, rfl, rfl, h2, (Keeps.refl _ w).alloc _⟩
    case round =>
      obtain ⟨i, st, l, A, c, hi, rfl, rfl, rfl, hli, hlc, HS, HLL, HAT, HK⟩ := hrel
      have hst := hid (show st < 18446744073709551616 by have h1 := congrArg Prod.fst HS.out; have h2 := drawN_lt s lo hs i; rw [h1] at h2; exact h2)
      by_cases hlt : (i : Int) < many
      · have hj1 := hid (show below - many + (i : Int) + 1 = ((lo + i + 1 : Nat) : Int) by have := HL.out; have := HC.out; omega)
        have hj0 := hid (show below - many + (i : Int) = ((lo + i : Nat) : Int) by have := HL.out; have := HC.out; omega)
        have hn9 := hid (show lo + i + 1 ≤ 9223372036854775807 by have := HL.out; have := HC.out; omega)
        go_wp2_with fail
        rw [hj1.out]
        refine (rbelow_calls st (lo + i + 1) _ hn9.out).mono ?_
        rintro e w1 ⟨rfl, HK1⟩
        have HK1 := hid HK1
        have hx := hid (show drawN s lo (i + 1) = ((belowN st (lo + i + 1)).1, (drawN s lo i).2 ++ [pickN (drawN s lo i).2 (lo + i) (belowN st (lo + i + 1)).2]) by
          show ((belowN (drawN s lo i).1 (lo + i + 1)).1, (drawN s lo i).2 ++ [pickN (drawN s lo i).2 (lo + i) (belowN (drawN s lo i).1 (lo + i + 1)).2]) = _
          rw [congrArg Prod.fst HS.out])
        generalize hB : belowN st (lo + i + 1) = B at *
        obtain ⟨st1, x⟩ := B
        clear hB
        go_wp2_with fail
        refine (has_calls l (x : Int) A c _ (HAT.out.kept HK1.out)).mono ?_
        rintro e w2 ⟨rfl, HK2⟩
        have HK2 := hid HK2
        by_cases hin : (x : Int) ∈ l
        · have hd : decide ((x : Int) ∈ l) = true := decide_eq_true hin
          have hp := hid (show pickN (drawN s lo i).2 (lo + i) x = below - many + (i : Int) by rw [hj0.out]; unfold pickN; rw [if_pos ((mem_srt _ _).1 (HLL.out ▸ hin))])
          go_wp2_with fail
          refine (insert_calls l (below - many + (i : Int)) A c _ ((HAT.out.kept HK1.out).kept HK2.out) (by have := hli; omega)).mono ?_
          rintro e w3 ⟨v, rfl, hown, HK3⟩
          have hnew := hid (show ins (below - many + (i : Int)) l = srt (drawN s lo (i + 1)).2 by rw [hx.out]; rw [srt_snoc, hp.out, ← HLL.out])
          have hst1 := hid (show drawN s lo (i + 1) = (st1, (drawN s lo (i + 1)).2) by rw [hx.out])
          obtain ⟨A1, c1, rfl, hc1, hat1⟩ := hown.reads
          have hat1 := hid hat1
          have HK3 := hid HK3
          clear hown
          have hlen := hid (ins_length (below - many + (i : Int)) l)
          go_wp2_with fail
          go_roundw
          case rel => exact ⟨i + 1, st1, ins (below - many + (i : Int)) l, A1, c1, by omega, by go_num, rfl, rfl, by rw [hlen.out]; omega, hc1, hst1, hnew, hat1, ((HK.out.fresh HK1.out).fresh HK2.out).fresh HK3.out⟩
          case measure => simp [intOf]; omega
        · have hd : decide ((x : Int) ∈ l) = false := decide_eq_false hin
          have hp := hid (show pickN (drawN s lo i).2 (lo + i) x = (x : Int) by unfold pickN; rw [if_neg (fun h => hin (HLL.out ▸ (mem_srt _ _).2 h))])
          go_wp2_with fail
          refine (insert_calls l (x : Int) A c _ ((HAT.out.kept HK1.out).kept HK2.out) (by have := hli; omega)).mono ?_
          rintro e w3 ⟨v, rfl, hown, HK3⟩
          have hnew := hid (show ins (x : Int) l = srt (drawN s lo (i + 1)).2 by rw [hx.out]; rw [srt_snoc, hp.out, ← HLL.out])
          have hst1 := hid (show drawN s lo (i + 1) = (st1, (drawN s lo (i + 1)).2) by rw [hx.out])
          obtain ⟨A1, c1, rfl, hc1, hat1⟩ := hown.reads
          have hat1 := hid hat1
          have HK3 := hid HK3
          clear hown
          have hlen := hid (ins_length (x : Int) l)
          go_wp2_with fail
          go_roundw
          case rel => exact ⟨i + 1, st1, ins (x : Int) l, A1, c1, by omega, by go_num, rfl, rfl, by rw [hlen.out]; omega, hc1, hst1, hnew, hat1, ((HK.out.fresh HK1.out).fresh HK2.out).fresh HK3.out⟩
          case measure => simp [intOf]; omega
      · have hic : i = cnt := by have := HC.out; omega
        subst hic
        go_wp2_with fail
        go_ret2
        have hlen : l.length = i := by rw [HLL.out, srt_length, drawN_length]
        refine ⟨A, c, ?_, by omega, by rw [← HLL.out]; exact HAT.out, HK.out⟩
        rw [congrArg Prod.fst HS.out, ← hlen]
        rfl
end Go.Proofs.Ytnnkfopopanfjaa

/- The library's sort and search, as they are laid for this program, in this seat's words. No condition but on lengths. -/
set_option linter.unusedVariables false
namespace Go.Proofs.Ytnnkfopopanfjaa
open Go.RowKit Go.Sort

def srtM (l : List Int) : List Int := l.mergeSort (fun x y => decide (x ≤ y))
theorem srtM_length (l : List Int) : (srtM l).length = l.length := by unfold srtM; exact List.length_mergeSort l
theorem putRow_block {w : World} {g n : Nat} {os : Array Obj} {cur : Array Value} {e : TypeId} (d : List Int) (hb : w.heap[g]? = some (.cells cur e (0, 0))) :
    (grow (putRow (Value.int .i64) (Sort.ahead w n) g 0 d.toArray) os).heap[g]? = some (.cells (putCells (Value.int .i64) 0 d.toArray cur) e (0, 0)) := by
  have hg : g < w.heap.size := (Array.getElem?_eq_some_iff.1 hb).1
  rw [heap_grow_old _ _ (by simpa using hg)]
  simp [putRow, mapBlock, Sort.ahead, Array.getElem?_modify, hb, onCells]
theorem putRow_grown {w : World} {g n : Nat} {os : Array Obj} (d : List Int) : w.grownBy (grow (putRow (Value.int .i64) (Sort.ahead w n) g 0 d.toArray) os) (some g) := by
  refine ⟨rfl, rfl, rfl, by simp, fun k hk hne => ?_⟩
  rw [heap_grow_old _ _ (by simpa using hk)]
  have : g ≠ k := fun e => hne (by rw [e])
  simp [putRow, mapBlock, Sort.ahead, Array.getElem?_modify, this]
theorem take_putInts (cur : Array Value) (ts : List Int) (h : ts.length ≤ cur.size) : (putCells (Value.int .i64) 0 ts.toArray cur).toList.take ts.length = ts.map (Value.int .i64) := by
  apply List.ext_getElem?
  intro j
  by_cases hj : j < ts.length
  · rw [List.getElem?_take_of_lt hj, Array.getElem?_toList]
    simp [putCells, hj, show j < cur.size by omega]
  · rw [List.getElem?_take_eq_none (by omega), List.getElem?_eq_none (by simp; omega)]
theorem sort_calls (v : Value) (l : List Int) (base : Nat) (w : World) (h : OwnInts w base .i64 3 v l) (hl : l.length ≤ 1073741824) :
    Calls Try.prog 76 #[v] w fun e w' => e = .returned (.tuple #[]) ∧ OwnInts w' base .i64 3 v (srtM l) ∧ w.grownBy w' v.ownBlock := by
  rcases h.2 with ⟨rfl, h0⟩ | ⟨g, cap, cur, rfl, hb, hg, h1, h2, h3, h4⟩
  · obtain rfl : l = [] := List.length_eq_zero_iff.1 h0
    refine (Try.slices_Sort_int_none none 0 w).mono ?_
    rintro e w' ⟨rfl, rfl⟩
    exact ⟨rfl, by simp [srtM]; exact OwnInts.nil _ _ _ _, ⟨rfl, rfl, rfl, Nat.le_refl _, fun _ _ _ => rfl⟩⟩
  · have hh : Holds (Value.int .i64) w g 0 l.toArray := by
      intro j hj
      have hj' : j < l.length := by simpa using hj
      refine ⟨?_, by simp [World.frozen?, hg]⟩
      have e1 : (cur.toList.take l.length)[j]? = (l.map (Value.int .i64))[j]? := by rw [← h4, Nat.mul_one]
      rw [List.getElem?_take_of_lt hj'] at e1
      simp only [World.cell?, hg, Nat.zero_add]
      simp only [Option.isSome_none, Bool.false_eq_true, if_false]
      rw [← Array.getElem?_toList, e1]
      simp [hj']
    refine (Try.slices_Sort_int g 0 cap l w hh (lt_of_heap hg) (by omega)).mono ?_
    rintro e w' ⟨rfl, n, os, rfl⟩
    refine ⟨rfl, ?_, putRow_grown _⟩
    refine ⟨by simp, .inr ⟨g, cap, _, by rw [srtM_length], hb, putRow_block (srtM l) hg, by rw [srtM_length]; exact h1, h2, by simp [putCells, h3], ?_⟩⟩
    rw [Nat.mul_one]
    exact take_putInts cur _ (by rw [srtM_length]; omega)
end Go.Proofs.Ytnnkfopopanfjaa

/- A sample, as the program draws it: its walk. Conditions: the numbers are of their kinds; below is at most 2^30. -/
set_option linter.unusedVariables false
namespace Go.Proofs.Ytnnkfopopanfjaa
open Go.RowKit

theorem key_law : Maps.Keyed Try.prog 3 := Maps.int_keyed Try.underlying3
theorem zero_unit (w : World) : (zeroValue 148).run Try.prog w = .ok (.agg #[]) w := by kernel_rfl
/-- A set of numbers, by its keys in the order in which they were put. -/
def SetAt (w : World) (b n : Nat) (l : List Int) : Prop := w.ownsMap (H := Unit) Try.prog 3 unitElem b n (Maps.setOf (.agg []) (l.map (Lit.int .i64)))
theorem same_key_int (a b : Int) : (Lit.int .i64 a).sameKey (.int .i64 b) = decide (a = b) := by
  by_cases h : a = b
  · subst h; rw [WideAt.sameKey_self (a := .int .i64 a) trivial]; simp
  · rw [Maps.sameKey_ne (fun e => h (by injection e))]; simp [h]
theorem set_has (l : List Int) (x : Int) : Maps.has (Maps.setOf (H := Unit) (.agg []) (l.map (Lit.int .i64))) (.int .i64 x) = decide (x ∈ l) := by
  rw [Maps.has_setOf _ _ _ (fun y hy => by obtain ⟨a, _, rfl⟩ := List.mem_map.1 hy; trivial), List.any_map]
  rw [Bool.eq_iff_iff, List.any_eq_true, decide_eq_true_eq]
  constructor
  · rintro ⟨y, hy, h⟩
    rw [Function.comp_apply, same_key_int, decide_eq_true_eq] at h
    exact h ▸ hy
  · intro h
    exact ⟨x, h, by rw [Function.comp_apply, same_key_int]; simp⟩
theorem cnt_cast (below many : Int) : min (max many 0) (max below 0) = ((cntN below many : Nat) : Int) := by
  unfold cntN; split <;> omega
theorem cnt_le (below many : Int) : cntN below many ≤ below.toNat := by unfold cntN; split <;> omega
theorem ne_own {H : Type} {k : TypeId} {R : Value → Option (DataW H × List MemPlace)} {P : Program} {w : World} {b n : Nat} {D : DataW H} {base : Nat} {q : IntKind} {e : TypeId} {v : Value} {xs : List Int} (hm : w.ownsMap P k R b n D) (h : OwnInts w base q e v xs) : some b ≠ v.ownBlock := by
  obtain ⟨es, clock, hb, _⟩ := hm
  rcases h.2 with ⟨rfl, _⟩ | ⟨g, cap, cur, rfl, _, hg, _⟩
  · simp [Value.ownBlock]
  · intro e1
    have : b = g := by simpa [Value.ownBlock] using e1
    subst this
    rw [hb] at hg; cases hg
theorem SetAt.keeps {w w1 : World} {b n : Nat} {l : List Int} (h : SetAt w b n l) {S : Nat → Prop} (hk : Keeps S w w1) (hn : ¬ S b) : SetAt w1 b n l := by
  obtain ⟨es, clock, hb, r⟩ := h
  exact ⟨es, clock, hk.heap hb hn, r⟩
theorem SetAt.lt {w : World} {b n : Nat} {l : List Int} (h : SetAt w b n l) : b < w.heap.size := World.ownsMap.lt h
set_option maxRecDepth 20000 in
set_option maxHeartbeats 800000 in
theorem some_core (g s : Nat) (below many : Int) (cnt lo : Nat) (w : World) (h : RandAt w g s) (hb : below ≤ 1073741824) (hb' : -9223372036854775808 ≤ below) (hm0 : -9223372036854775808 ≤ many) (hm1 : many ≤ 9223372036854775807)
    (hc : cnt = cntN below many) (hl : lo = loN below many) :
    Calls Try.prog 63 #[.pointer (some ⟨g, 0, none⟩), .int .i64 below, .int .i64 many] w fun e w' => ∃ v, e = .returned v ∧ OwnInts w' w.heap.size .i64 3 v ((drawN s lo cnt).2.mergeSort (fun x y => decide (x ≤ y))) ∧ RandAt w' g (drawN s lo cnt).1 ∧ Keeps (· = g) w w' := by
  have HC := hid hc
  have HL := hid hl
  clear hc hl
  have hcnt := hid (show min (max many 0) (max below 0) = (cnt : Int) by rw [HC.out]; exact cnt_cast below many)
  have hcl : cnt ≤ below.toNat := by rw [HC.out]; exact cnt_le below many
  have hcn : cnt ≤ 1073741824 := by omega
  have hgl := h.lt
  have HR := hid h
  clear h
  have hmm := @run_makeMap Try.prog
  have hu := Try.underlying76
  obtain ⟨i0, hi, hz0, hz1, hz2⟩ := info_parts info_int
  go_enter Try.func63, Try.ntmps63
  go_wp2_with (at_make; rw [hcnt.out]; go_must (refine wpList_make_own _ rfl _ _ _ rfl w.heap.size 3 i0 (.int .i64 0) 1 hu hi hz0 hz1 .i64 .i64 _ cnt rfl rfl rfl (by rw [hz2]; omega) (by unfold maxLen; omega) (by simp) ?_); intro w1 hown1 hgr1)
  have hown1 : OwnInts w1 w.heap.size .i64 3 (.slice (some ⟨(w.alloc (.map #[] 0)).heap.size, 0, none⟩) 0 cnt) [] := hown1
  have e1 : (w.alloc (.map #[] 0)).heap.size = w.heap.size + 1 := by simp
  rw [e1] at hown1
  clear e1
  have HK1 := hid (((Keeps.refl (· = g) w).alloc (.map #[] 0)).grown hgr1 (fun i e => by cases e))
  have HS1 := hid (show SetAt w1 w.heap.size 0 [] from World.ownsMap.kept (World.ownsMap_made w Try.prog 3 unitElem) hgr1 (by simp))
  go_loopw [8, 9, 10] (fun v8 v9 _v10 wr => ∃ (i st : Nat) (l : List Int), i ≤ cnt ∧ v9 = .int .i64 (below - cnt + i) ∧ l.length ≤ i ∧ OwnInts wr w.heap.size .i64 3 v8 l ∧ Hid (drawN s lo i = (st, l)) ∧ Hid (SetAt wr w.heap.size i l) ∧ Hid (RandAt wr g st) ∧ Hid (Keeps (· = g) w wr)) (fun _ v9 _ _ => (below - intOf v9).toNat)
  case atStart => exact ⟨0, s, [], Nat.zero_le _, by go_num, Nat.le_refl _, hown1, rfl, HS1.out, (HR.out.keeps ((Keeps.refl NoB w).alloc (.map #[] 0)) (fun h => h)).keeps (Keeps.ofGrown hgr1) (fun e => by cases e), HK1.out⟩
  case round =>
    obtain ⟨i, st, l, hi', rfl, hli, hown, HD, HS, HRr, HK⟩ := hrel
    by_cases hlt : i < cnt
    · have hj1 := hid (show below - (cnt : Int) + (i : Int) + 1 = ((lo + i + 1 : Nat) : Int) by have := HL.out; unfold loN at this; rw [← HC.out] at this; omega)
      have hj0 := hid (show below - (cnt : Int) + (i : Int) = ((lo + i : Nat) : Int) by have := HL.out; unfold loN at this; rw [← HC.out] at this; omega)
      have hn9 := hid (show lo + i + 1 ≤ 9223372036854775807 by have := HL.out; unfold loN at this; rw [← HC.out] at this; omega)
      go_wp2_with fail
      rw [hj1.out]
      refine (below_calls g st (lo + i + 1) _ HRr.out hn9.out).mono ?_
      rintro e w2 ⟨rfl, hr1, HK2'⟩
      have hx := hid (show drawN s lo (i + 1) = ((belowN st (lo + i + 1)).1, l ++ [pickN l (lo + i) (belowN st (lo + i + 1)).2]) by
        show ((belowN (drawN s lo i).1 (lo + i + 1)).1, (drawN s lo i).2 ++ [pickN (drawN s lo i).2 (lo + i) (belowN (drawN s lo i).1 (lo + i + 1)).2]) = _
        rw [HD.out])
      have hxlt := belowN_below st (lo + i + 1) (by omega)
      have hmne : w.heap.size ≠ g := by omega
      have hs2 := hid (HS.out.keeps HK2' hmne)
      have hown2 : OwnInts w2 w.heap.size .i64 3 u8 l := hown.keeps HK2' (fun b hb e => by have := (hown.base_le b hb).1; omega)
      have HK2 := hid (HK.out.then HK2' (fun _ h _ => h))
      have HK2' := hid HK2'
      generalize hB : belowN st (lo + i + 1) = B at *
      obtain ⟨st1, x⟩ := B
      clear hB
      have hxw := hid (show (Lit.int .i64 (x : Int)).wf = true from WalkArith.wf_i64 (by have := hn9.out; simp only at hxlt; omega))
      by_cases hin : (x : Int) ∈ l
      · have hd : decide ((x : Int) ∈ l) = true := decide_eq_true hin
        have hp := hid (show pickN l (lo + i) x = below - (cnt : Int) + (i : Int) by rw [hj0.out]; unfold pickN; rw [if_pos hin])
        have hjw := hid (show (Lit.int .i64 (below - (cnt : Int) + (i : Int))).wf = true from WalkArith.wf_i64 (by omega))
        go_wp2_with (first
          | (at_lookup; go_must (refine wpList_lookup_own_unit _ rfl _ _ 147 rfl 3 148 key_law Try.underlying147 (zero_unit _) w.heap.size i _ rfl hs2.out _ _ rfl (Maps.keyOf_int_mk Try.underlying3 hxw.out) ?_); rw [set_has])
          | (at_mapUpdate; go_must (refine wpList_mapUpdate_own _ rfl _ _ _ 147 rfl 3 148 key_law Try.underlying147 unitElem w.heap.size i _ rfl (World.ownsMap.alloc hs2.out _) (by unfold maxLen; omega) _ _ _ rfl rfl (Maps.keyOf_int_mk Try.underlying3 hjw.out) _ [] unitElem_mk ?_); intro w3 hown3 hgr3; have hn3 := hid (show some w.heap.size ≠ u8.ownBlock from ne_own hs2.out hown2); have HO3 := hid (show OwnInts w3 w.heap.size .i64 3 u8 l from World.ownsRow.kept (OwnInts.alloc hown2 _) hgr3 (.inr (fun e => hn3.out e.symm))); have hs3 := hid (show SetAt w3 w.heap.size (i + 1) (l ++ [below - (cnt : Int) + (i : Int)]) by unfold SetAt; rw [List.map_append, List.map_cons, List.map_nil, Maps.setOf_snoc]; exact hown3); have HK3 := hid ((HK2.out.alloc (.cells #[] 148)).grown hgr3 (fun q e hq => by cases e; exact absurd hq (Nat.lt_irrefl _))); have HR3 := hid ((hr1.keeps ((Keeps.refl NoB w2).alloc (.cells #[] 148)) (fun h => h)).keeps (Keeps.ofGrown hgr3) (fun e => hmne (by cases e; rfl))); clear hown3 hgr3)
          | (at_builtin; go_must (refine wpList_app1 _ rfl _ _ 76 rfl w.heap.size 3 .i64 8 hu info_int _ _ rfl (OwnInts.alloc HO3.out _) _ _ _ rfl (cell_one _ _ _) (by omega) (by omega) (by have := HK3.out.size; simp; omega) ?_); intro v4 w4 hown4 hgr4 _))
        have hn4 : some w.heap.size ≠ u8.ownBlock := ne_own hs3.out HO3.out
        go_roundw
        case rel => exact ⟨i + 1, st1, l ++ [below - (cnt : Int) + (i : Int)], by omega, by go_num, by simp; omega, hown4, hid (by rw [hx.out, hp.out]), hid (World.ownsMap.kept (World.ownsMap.alloc hs3.out _) hgr4 hn4), hid ((HR3.out.keeps ((Keeps.refl NoB w3).alloc _) (fun h => h)).keeps (Keeps.ofGrown hgr4) (fun e => by have := (HO3.out.base_le g e.symm).1; omega)), hid ((HK3.out.alloc _).own (OwnInts.alloc HO3.out _) hgr4 (Nat.le_refl _))⟩
        case measure => simp [intOf]; omega
      · have hd : decide ((x : Int) ∈ l) = false := decide_eq_false hin
        have hp := hid (show pickN l (lo + i) x = (x : Int) by unfold pickN; rw [if_neg hin])
        go_wp2_with (first
          | (at_lookup; go_must (refine wpList_lookup_own_unit _ rfl _ _ 147 rfl 3 148 key_law Try.underlying147 (zero_unit _) w.heap.size i _ rfl hs2.out _ _ rfl (Maps.keyOf_int_mk Try.underlying3 hxw.out) ?_); rw [set_has])
          | (at_mapUpdate; go_must (refine wpList_mapUpdate_own _ rfl _ _ _ 147 rfl 3 148 key_law Try.underlying147 unitElem w.heap.size i _ rfl (World.ownsMap.alloc hs2.out _) (by unfold maxLen; omega) _ _ _ rfl rfl (Maps.keyOf_int_mk Try.underlying3 hxw.out) _ [] unitElem_mk ?_); intro w3 hown3 hgr3; have hn3 := hid (show some w.heap.size ≠ u8.ownBlock from ne_own hs2.out hown2); have HO3 := hid (show OwnInts w3 w.heap.size .i64 3 u8 l from World.ownsRow.kept (OwnInts.alloc hown2 _) hgr3 (.inr (fun e => hn3.out e.symm))); have hs3 := hid (show SetAt w3 w.heap.size (i + 1) (l ++ [(x : Int)]) by unfold SetAt; rw [List.map_append, List.map_cons, List.map_nil, Maps.setOf_snoc]; exact hown3); have HK3 := hid ((HK2.out.alloc (.cells #[] 148)).grown hgr3 (fun q e hq => by cases e; exact absurd hq (Nat.lt_irrefl _))); have HR3 := hid ((hr1.keeps ((Keeps.refl NoB w2).alloc (.cells #[] 148)) (fun h => h)).keeps (Keeps.ofGrown hgr3) (fun e => hmne (by cases e; rfl))); clear hown3 hgr3)
          | (at_builtin; go_must (refine wpList_app1 _ rfl _ _ 76 rfl w.heap.size 3 .i64 8 hu info_int _ _ rfl (OwnInts.alloc HO3.out _) _ _ _ rfl (cell_one _ _ _) (by omega) (by omega) (by have := HK3.out.size; simp; omega) ?_); intro v4 w4 hown4 hgr4 _))
        have hn4 : some w.heap.size ≠ u8.ownBlock := ne_own hs3.out HO3.out
        go_roundw
        case rel => exact ⟨i + 1, st1, l ++ [(x : Int)], by omega, by go_num, by simp; omega, hown4, hid (by rw [hx.out, hp.out]), hid (World.ownsMap.kept (World.ownsMap.alloc hs3.out _) hgr4 hn4), hid ((HR3.out.keeps ((Keeps.refl NoB w3).alloc _) (fun h => h)).keeps (Keeps.ofGrown hgr4) (fun e => by have := (HO3.out.base_le g e.symm).1; omega)), hid ((HK3.out.alloc _).own (OwnInts.alloc HO3.out _) hgr4 (Nat.le_refl _))⟩
        case measure => simp [intOf]; omega
    · obtain rfl : i = cnt := by omega
      go_wp2_with fail
      refine (sort_calls _ l w.heap.size _ hown (by omega)).mono ?_
      rintro e w2 ⟨rfl, hown2, hgr2⟩
      go_wp2_with fail
      go_ret
      refine ⟨_, rfl, ?_, ?_, HK.out.own hown hgr2 (Nat.le_refl _)⟩
      · rw [show (drawN s lo i).2 = l by rw [HD.out]]; exact hown2
      · rw [show (drawN s lo i).1 = st by rw [HD.out]]
        exact HRr.out.keeps (Keeps.ofGrown hgr2) (fun e => by have := (hown.base_le g e.symm).1; omega)
end Go.Proofs.Ytnnkfopopanfjaa

/- What is drawn: no two alike, each below; sorted it rises. Plain lists; no condition. -/
set_option linter.unusedVariables false
namespace Go.Proofs.Ytnnkfopopanfjaa
open Go.RowKit

theorem drawN_apart (s lo i : Nat) : (drawN s lo i).2.Nodup ∧ ∀ y ∈ (drawN s lo i).2, 0 ≤ y ∧ y < (lo : Int) + i := by
  induction i with
  | zero => exact ⟨List.nodup_nil, fun y hy => by cases hy⟩
  | succ i ih =>
    obtain ⟨h1, h2⟩ := ih
    have hx := belowN_below (drawN s lo i).1 (lo + i + 1) (by omega)
    have e : (drawN s lo (i + 1)).2 = (drawN s lo i).2 ++ [pickN (drawN s lo i).2 (lo + i) (belowN (drawN s lo i).1 (lo + i + 1)).2] := rfl
    rw [e]
    generalize (drawN s lo i).2 = l at *
    generalize (belowN (drawN s lo i).1 (lo + i + 1)).2 = x at *
    have hp : ¬ pickN l (lo + i) x ∈ l ∧ 0 ≤ pickN l (lo + i) x ∧ pickN l (lo + i) x < (lo : Int) + i + 1 := by
      unfold pickN
      split
      · refine ⟨fun h => ?_, by omega, by omega⟩
        have := (h2 _ h).2; omega
      · rename_i hn; exact ⟨hn, by omega, by omega⟩
    refine ⟨?_, ?_⟩
    · rw [List.nodup_append]
      refine ⟨h1, by simp, fun a ha b hb e => ?_⟩
      rw [List.mem_singleton] at hb
      subst hb; subst e
      exact hp.1 ha
    · intro y hy
      rw [List.mem_append, List.mem_singleton] at hy
      rcases hy with hy | rfl
      · have := h2 y hy; omega
      · omega
theorem ins_perm (n : Int) (l : List Int) : (ins n l).Perm (n :: l) := by
  induction l with
  | nil => exact List.Perm.refl _
  | cons x r ih =>
    unfold ins
    split
    · exact List.Perm.refl _
    · exact (ih.cons x).trans (List.Perm.swap n x r)
theorem ins_sorted (n : Int) (l : List Int) (h : l.Pairwise (· ≤ ·)) : (ins n l).Pairwise (· ≤ ·) := by
  induction l with
  | nil => simp [ins]
  | cons x r ih =>
    obtain ⟨h1, h2⟩ := List.pairwise_cons.1 h
    unfold ins
    split
    · rename_i hlt
      refine List.pairwise_cons.2 ⟨fun y hy => ?_, h⟩
      rcases List.mem_cons.1 hy with rfl | hy
      · omega
      · have := h1 y hy; omega
    · rename_i hlt
      refine List.pairwise_cons.2 ⟨fun y hy => ?_, ih h2⟩
      rcases (mem_ins n y r).1 hy with rfl | hy
      · omega
      · exact h1 y hy
theorem srt_perm (l : List Int) : (srt l).Perm l := by
  suffices h : ∀ (l a : List Int), (l.foldl (fun a y => ins y a) a).Perm (a ++ l) by simpa [srt] using h l []
  intro l
  induction l with
  | nil => intro a; simp
  | cons y r ih =>
    intro a
    rw [List.foldl_cons]
    refine (ih _).trans ?_
    refine ((ins_perm y a).append_right r).trans ?_
    exact (List.perm_middle (a := y) (l₁ := a) (l₂ := r)).symm
theorem srt_sorted (l : List Int) : (srt l).Pairwise (· ≤ ·) := by
  suffices h : ∀ (l a : List Int), a.Pairwise (· ≤ ·) → (l.foldl (fun a y => ins y a) a).Pairwise (· ≤ ·) from h l [] List.Pairwise.nil
  intro l
  induction l with
  | nil => intro a h; exact h
  | cons y r ih => intro a h; exact ih _ (ins_sorted y a h)
/-- Two lists that rise, of the same numbers, are one. -/
theorem sorted_unique : ∀ (l m : List Int), l.Perm m → l.Pairwise (· ≤ ·) → m.Pairwise (· ≤ ·) → l = m
  | [], m, hp, _, _ => by rw [List.nil_perm.1 hp]
  | x :: l, m, hp, hl, hm => by
    cases m with
    | nil => exact absurd hp.length_eq (by simp)
    | cons y m =>
      obtain ⟨h1, h2⟩ := List.pairwise_cons.1 hl
      obtain ⟨k1, k2⟩ := List.pairwise_cons.1 hm
      have e : x = y := by
        have hx : x ∈ y :: m := hp.mem_iff.1 List.mem_cons_self
        have hy : y ∈ x :: l := hp.mem_iff.2 List.mem_cons_self
        rcases List.mem_cons.1 hx with e | hx
        · exact e
        · rcases List.mem_cons.1 hy with e | hy
          · exact e.symm
          · have := h1 y hy; have := k1 x hx; omega
      subst e
      rw [sorted_unique l m (hp.cons_inv) h2 k2]
theorem srtM_perm (l : List Int) : (srtM l).Perm l := List.mergeSort_perm l _
theorem srtM_sorted (l : List Int) : (srtM l).Pairwise (· ≤ ·) := by
  have := List.pairwise_mergeSort (le := fun x y : Int => decide (x ≤ y)) (fun a b c h1 h2 => by simp at *; omega) (fun a b => by simp; omega) l
  exact this.imp (fun h => by simpa using h)
theorem srtM_eq (l : List Int) : srtM l = srt l := sorted_unique _ _ ((srtM_perm l).trans (srt_perm l).symm) (srtM_sorted l) (srt_sorted l)
/-- No two alike: then it rises. -/
theorem rising_of {l : List Int} (h : l.Pairwise (· ≤ ·)) (hn : l.Nodup) : l.Pairwise (· < ·) := by
  have := h.and hn
  exact this.imp (fun ⟨h1, h2⟩ => by omega)
theorem someN_length (s : Nat) (below many : Int) : (someN s below many).length = cntN below many := by unfold someN; rw [srt_length, drawN_length]
theorem someN_sorted (s : Nat) (below many : Int) : (someN s below many).Pairwise (· ≤ ·) := srt_sorted _
theorem someN_rising (s : Nat) (below many : Int) : (someN s below many).Pairwise (· < ·) :=
  rising_of (srt_sorted _) ((srt_perm _).nodup_iff.2 (drawN_apart s _ _).1)
theorem someN_below (s : Nat) (below many : Int) : ∀ y ∈ someN s below many, 0 ≤ y ∧ y < below := by
  intro y hy
  have h := (drawN_apart s (loN below many) (cntN below many)).2 y ((mem_srt _ _).1 hy)
  have h2 : (loN below many : Int) + cntN below many ≤ below ∨ cntN below many = 0 := by
    unfold loN cntN at *
    split <;> omega
  rcases h2 with h2 | h2
  · omega
  · have : (drawN s (loN below many) (cntN below many)).2 = [] := List.length_eq_zero_iff.1 (by rw [drawN_length, h2])
    rw [someN, this] at hy
    cases hy
/-- As many numbers as there can be below n, rising, are all of them. -/
theorem all_of (n : Nat) : ∀ (k : Nat) (l : List Int), l.length = n → l.Pairwise (· < ·) → (∀ y ∈ l, (k : Int) ≤ y ∧ y < (k : Int) + n) → l = (List.range n).map (fun i => ((k + i : Nat) : Int)) := by
  induction n with
  | zero => intro k l hl _ _; rw [List.length_eq_zero_iff.1 hl]; rfl
  | succ n ih =>
    intro k l hl hr hb
    cases l with
    | nil => simp at hl
    | cons x r =>
      obtain ⟨h1, h2⟩ := List.pairwise_cons.1 hr
      have hr0 := ih (k + 1) r (by simpa using hl) h2 (fun y hy => ⟨by have := h1 y hy; have := (hb x List.mem_cons_self).1; omega, by have := (hb y (List.mem_cons_of_mem _ hy)).2; omega⟩)
      have hx : x = (k : Int) := by
        rcases Nat.eq_zero_or_pos n with rfl | hn
        · have := hb x List.mem_cons_self; omega
        · have hm : ((k + 1 + 0 : Nat) : Int) ∈ r := by rw [hr0]; exact List.mem_map.2 ⟨0, List.mem_range.2 hn, rfl⟩
          have := h1 _ hm; have := (hb x List.mem_cons_self).1; omega
      rw [List.range_succ_eq_map, List.map_cons, List.map_map, hr0, hx]
      congr 1
      apply List.map_congr_left
      intro i _
      simp only [Function.comp_apply]
      omega
theorem someN_all (s n : Nat) : someN s n n = (List.range n).map (fun i : Nat => (i : Int)) := by
  have hl : (someN s (n : Int) (n : Int)).length = n := by rw [someN_length]; unfold cntN; simp
  have := all_of n 0 _ hl (someN_rising s n n) (fun y hy => by have := someN_below s n n y hy; omega)
  simpa using this
end Go.Proofs.Ytnnkfopopanfjaa

/- Are two lists the same; is a number among some that rise; a sample by its contract. Conditions: lengths that the lists' reads bear. -/
set_option linter.unusedVariables false
namespace Go.Proofs.Ytnnkfopopanfjaa
open Go.RowKit

def sameN (a b : List Int) : Int := if a = b then 1 else 0
theorem list_ext_gi {xs ys : List Int} (hl : xs.length = ys.length) (h : ∀ j, j < xs.length → gi xs j = gi ys j) : xs = ys := by
  apply List.ext_getElem hl
  intro j h1 h2
  have := h j h1
  rwa [gi_eq _ _ h1, gi_eq _ _ h2] at this
theorem RandAt.ne {w : World} {g s : Nat} {A : Option Addr} {xs : List Int} (hr : RandAt w g s) (h : IntsAt w .i64 A xs) : ∀ b off, A = some ⟨b, off, none⟩ → 0 < xs.length → ¬ b = g := by
  intro b off e h0 hb
  obtain ⟨b', off', e', hc⟩ := h.get h0
  obtain ⟨rfl, rfl⟩ : b' = b ∧ off' = off := by rw [e'] at e; simpa using e
  subst hb
  have := hc 0 h0
  simp only [World.cell?, hr.1] at this
  rcases Nat.eq_zero_or_pos (off' + 0) with h1 | h1
  · rw [h1] at this; simp at this
  · rw [show (off' + 0) = (off' + 0 - 1) + 1 by omega] at this; simp at this
/-- A sample, as all callers use it. -/
theorem some_calls (g s : Nat) (below many : Int) (w : World) (h : RandAt w g s) (hb : below ≤ 1073741824) (hb' : -9223372036854775808 ≤ below) (hm0 : -9223372036854775808 ≤ many) (hm1 : many ≤ 9223372036854775807) :
    Calls Try.prog 63 #[.pointer (some ⟨g, 0, none⟩), .int .i64 below, .int .i64 many] w fun e w' => ∃ v, e = .returned v ∧ OwnInts w' w.heap.size .i64 3 v (someN s below many) ∧ RandAt w' g (someS s below many) ∧ Keeps (· = g) w w' := by
  refine (some_core g s below many _ _ w h hb hb' hm0 hm1 rfl rfl).mono ?_
  rintro e w' ⟨v, rfl, h1, h2, h3⟩
  refine ⟨v, rfl, ?_, h2, h3⟩
  have : someN s below many = srtM (drawN s (loN below many) (cntN below many)).2 := (srtM_eq _).symm
  rw [this]; exact h1
theorem rsome_calls (s : Nat) (below many : Int) (w : World) (hs : s < 18446744073709551616) (hb : below ≤ 1073741824) (hb' : -9223372036854775808 ≤ below) (hm0 : -9223372036854775808 ≤ many) :
    Calls Try.prog 70 #[.int .u64 (s : Int), .int .i64 below, .int .i64 many] w fun e w' => ∃ A c, e = .returned (.tuple #[.int .u64 ((someS s below many) : Nat), .slice A (someN s below many).length c]) ∧ (someN s below many).length ≤ c ∧ IntsAt w' .i64 A (someN s below many) ∧ Keeps NoB w w' := by
  refine (rsome_core s below (if many > below then below else many) _ _ many w hs hb hb' (by split <;> omega) (by split <;> omega) rfl rfl rfl).mono ?_
  rintro e w' ⟨A, c, rfl, h1, h2, h3⟩
  exact ⟨A, c, by rw [someN_length]; rfl, by rw [someN_length]; exact h1, h2, h3⟩
theorem someS_lt (s : Nat) (below many : Int) (hs : s < 18446744073709551616) : someS s below many < 18446744073709551616 := drawN_lt s _ hs _
end Go.Proofs.Ytnnkfopopanfjaa

/- The laws of layer 9: what they speak, and their walks. -/
set_option linter.unusedVariables false
namespace Go.Proofs.Ytnnkfopopanfjaa
open Go.RowKit
theorem NatsAt.ofBlock {w : World} {b : Nat} {e : TypeId} {fr : Nat × Nat} (xs : List Nat) (h : w.heap[b]? = some (.cells ((xs.map (fun n : Nat => (n : Int))).map (Value.int .u64)).toArray e fr)) (hl : xs.length ≤ 9223372036854775807) (hx : ∀ x ∈ xs, x < 18446744073709551616) : NatsAt w (some ⟨b, 0, none⟩) xs :=
  ⟨IntsAt.ofBlock _ h (by simpa using hl), hx⟩
theorem someN_none (s : Nat) (below many : Int) (h : many ≤ 0 ∨ below ≤ 0) : someN s below many = [] := by
  apply List.length_eq_zero_iff.1
  rw [someN_length]; unfold cntN; split <;> omega
end Go.Proofs.Ytnnkfopopanfjaa

/- An argument that is a slice of bytes. Conditions: the row's. -/
set_option linter.unusedVariables false
namespace Go.Proofs.Ytnnkfopopanfjaa
open Go.RowKit

theorem bytes_of_ints : ∀ xs : List Int, (∀ n ∈ xs, (Lit.int .u8 n).wf = true) → ∃ l : List UInt8, xs = enc8 l
  | [], _ => ⟨[], rfl⟩
  | n :: r, h => by
    obtain ⟨l, hl⟩ := bytes_of_ints r (fun m hm => h m (List.mem_cons_of_mem _ hm))
    have hn := Go.bounds_u8 (h n (List.mem_cons_self ..))
    refine ⟨UInt8.ofNat n.toNat :: l, ?_⟩
    rw [hl]
    simp only [enc8, List.map_cons, List.cons.injEq, and_true]
    have : (UInt8.ofNat n.toNat).toNat = n.toNat := by
      rw [UInt8.toNat_ofNat', Nat.mod_eq_of_lt (by omega)]
    omega
theorem BytesIn.ofInts {w : World} {a : Option Addr} {xs : List Int} (h : IntsAt w .u8 a xs) (hw : ∀ n ∈ xs, (Lit.int .u8 n).wf = true) : ∃ l : List UInt8, xs.length = l.length ∧ BytesIn (fun _ => True) w a l := by
  obtain ⟨l, rfl⟩ := bytes_of_ints xs hw
  exact ⟨l, enc8_length l, h, fun _ _ _ _ => trivial⟩
end Go.Proofs.Ytnnkfopopanfjaa
