/- Several texts, one behind the other: what each proves, and its conditions, stands ahead of it. -/
import Derived.Test.YtnnkfopopanfjaaG2
import Derived.RegionTactic
/- The document's sum of blocks: its walk. Conditions: numbers are of their kinds; all blocks are as long. -/
set_option linter.unusedVariables false
namespace Go.Proofs.Ytnnkfopopanfjaa
open Go.RowKit

/-- What is reckoned so far: the bytes before k wholly, byte k of the first i blocks. -/
def sumRow (n : Nat) (ls : List (List UInt8)) (k i : Nat) : List UInt8 := (List.range n).map fun j => if j < k then sumAt ls j ls.length else if j = k then sumAt ls k i else 0
theorem sumRow_length (n : Nat) (ls : List (List UInt8)) (k i : Nat) : (sumRow n ls k i).length = n := by simp [sumRow]
theorem sumRow_zero (n : Nat) (ls : List (List UInt8)) : sumRow n ls 0 0 = List.replicate n 0 := by
  apply List.ext_getElem
  · simp [sumRow]
  · intro j h1 h2
    simp [sumRow, sumAt]
theorem sumRow_next (n : Nat) (ls : List (List UInt8)) (k : Nat) : sumRow n ls k ls.length = sumRow n ls (k + 1) 0 := by
  apply List.ext_getElem
  · simp [sumRow]
  · intro j h1 h2
    simp only [sumRow, List.getElem_map, List.getElem_range]
    by_cases hj : j < k
    · rw [if_pos hj, if_pos (by omega)]
    · rw [if_neg hj]
      by_cases e : j = k
      · rw [if_pos e, if_pos (by omega), e]
      · rw [if_neg e, if_neg (by omega)]
        by_cases e2 : j = k + 1
        · rw [if_pos e2]; rfl
        · rw [if_neg e2]
theorem sumRow_full (n : Nat) (ls : List (List UInt8)) (h : fitB n ls = true) : sumRow n ls n 0 = sumB n ls := by
  rw [sumB_eq h]
  apply List.map_congr_left
  intro j hj
  rw [if_pos (List.mem_range.1 hj)]
theorem sumRow_gb (n : Nat) (ls : List (List UInt8)) (k i : Nat) (hk : k < n) : gb (sumRow n ls k i) k = sumAt ls k i := by
  rw [gb_eq _ _ (by rw [sumRow_length]; exact hk)]
  simp [sumRow]
theorem sumRow_set (n : Nat) (ls : List (List UInt8)) (k i : Nat) (hk : k < n) (hi : i < ls.length) : (sumRow n ls k i).set k (sumAt ls k i ^^^ gb (gr ls i) k) = sumRow n ls k (i + 1) := by
  apply List.ext_getElem
  · simp [sumRow]
  · intro j h1 h2
    rw [List.getElem_set]
    simp only [sumRow, List.getElem_map, List.getElem_range]
    by_cases e : k = j
    · subst e
      rw [if_pos rfl, if_neg (Nat.lt_irrefl _), if_pos rfl, sumAt_succ ls k i hi]
    · rw [if_neg e]
      by_cases hj : j < k
      · rw [if_pos hj, if_pos hj]
      · rw [if_neg hj, if_neg hj, if_neg (fun h => e h.symm), if_neg (fun h => e h.symm)]
set_option maxHeartbeats 2000000 in
set_option maxRecDepth 20000 in
theorem rsum_calls (n : Nat) (ls : List (List UInt8)) (A : Option Addr) (c : Nat) (R : Nat → Prop) (w : World) (hn : n ≤ 1073741824) (hb : RowsIn R w A ls) (hfit : fitB n ls = true) :
    Calls Try.prog 32 #[.int .i64 (n : Int), .slice A ls.length c] w fun e w' => ∃ v, e = .returned v ∧ OwnB w' w.heap.size v (sumB n ls) ∧ Keeps NoB w w' := by
  have hl := hb.len
  have HB := hid hb.lt
  have HF := hid hfit
  have hui := Try.underlying25
  obtain ⟨i0, hi, hz0, hz1, hz2⟩ := info_parts info_u8
  have hfull := hid (sumRow_full n ls hfit)
  have hnext := hid (sumRow_next n ls)
  have hz := hid (sumRow_zero n ls)
  have hlen := hid (sumRow_length n ls)
  have hgb := hid (sumRow_gb n ls)
  have hset := hid (sumRow_set n ls)
  obtain ⟨m, hm⟩ : ∃ m, ls.length = m := ⟨_, rfl⟩
  rw [hm] at hl hnext ⊢
  have hnext := hid hnext.out
  have hmm := hid hm
  clear hb hfit hm
  go_enter Try.func32, Try.ntmps32
  go_wp2_with (at_make; go_must (refine wpList_make_full _ rfl _ _ _ rfl w.heap.size 5 i0 (.int .u8 0) 1 hui hi hz0 hz1 .i64 .i64 _ _ n rfl rfl rfl rfl (by rw [hz2]; omega) (by unfold maxLen; omega) (Nat.le_refl _) ?_); intro w3 hown3 hgr3)
  have HO := hid (OwnB.ofMake hown3)
  have HK3 := hid ((Keeps.refl NoB w).grown hgr3 (fun i e => by cases e))
  clear hown3 hgr3
  obtain ⟨g, hg⟩ : ∃ g, g = w.heap.size := ⟨_, rfl⟩
  have hgw : w.heap.size ≤ g := by omega
  rw [← hg] at HO ⊢
  have HO := hid (show OwnB w3 w.heap.size (.slice (some ⟨g, 0, none⟩) n n) (List.replicate n 0) by rw [← hg]; exact HO.out)
  clear hg
  go_loopw [6] (fun v6 wr => ∃ k : Nat, k ≤ n ∧ v6 = .int .i64 (k : Int) ∧ Hid (OwnB wr w.heap.size (.slice (some ⟨g, 0, none⟩) n n) (sumRow n ls k 0)) ∧ Hid (Keeps NoB w wr)) (fun v6 _ => n - (intOf v6).toNat)
  case atStart => exact ⟨0, Nat.zero_le _, rfl, by rw [hz.out]; exact HO, HK3⟩
  case round =>
    obtain ⟨k, hk, rfl, HOk, HK⟩ := hrel
    by_cases hlt : k < n
    · go_wp2_with fail
      go_loopw [7] (fun v7 wr => ∃ i : Nat, i ≤ m ∧ v7 = .int .i64 (i : Int) ∧ Hid (OwnB wr w.heap.size (.slice (some ⟨g, 0, none⟩) n n) (sumRow n ls k i)) ∧ Hid (Keeps NoB w wr)) (fun v7 _ => m - (intOf v7).toNat)
      case atStart => exact ⟨0, Nat.zero_le _, rfl, HOk, HK⟩
      case round =>
        obtain ⟨i, hi2, rfl, HOi, HKi⟩ := hrel
        by_cases hlt2 : i < m
        · have hrow := HB.out.kept HKi.out
          obtain ⟨bb, ob, rfl, hbR, hc⟩ := hrow.2 (by rw [hmm.out]; omega)
          obtain ⟨u, c1, A1, cc1, rfl, _, _, h1⟩ := hc i (by rw [hmm.out]; exact hlt2)
          have hll := fitB_at HF.out i (by rw [hmm.out]; exact hlt2)
          obtain ⟨bx, ox, rfl, hxR, hcx⟩ := h1.get (by omega)
          have c2 := hcx k (by omega)
          have hg1 := hgb.out k i hlt
          have hs1 := hset.out k i hlt (by rw [hmm.out]; exact hlt2)
          have hl1 := hlen.out k i
          have c3 := OwnInts.cell (HOi.out : OwnInts _ _ _ _ _ _) (j := k) (by rw [enc8_length, hl1]; exact hlt)
          rw [gi_enc8 _ k (by rw [hl1]; exact hlt), hg1] at c3
          have f3 := OwnInts.free (HOi.out : OwnInts _ _ _ _ _ _) k
          have hst := OwnInts.set (HOi.out : OwnInts _ _ _ _ _ _) (j := k) (by rw [enc8_length, hl1]; exact hlt) ((sumAt ls k i ^^^ gb (gr ls i) k).toNat : Int)
          rw [enc8_set, hs1] at hst
          have HST := hid hst
          have hx := xor_byte (sumAt ls k i) (gb (gr ls i) k)
          rw [hll] at c1
          generalize ((sumAt ls k i ^^^ gb (gr ls i) k).toNat : Int) = z at *
          generalize ((sumAt ls k i).toNat : Int) = x at *
          generalize ((gb (gr ls i) k).toNat : Int) = y at *
          have q0 : (0 : Int) ≤ (k : Int) := by omega
          have q1 : (k : Int) < (n : Int) := by omega
          have q2 : (0 : Int) ≤ (i : Int) := by omega
          have q3 : (i : Int) < (m : Int) := by omega
          clear hst hs1 hg1 hl1 hcx hxR hc hbR hll h1 hrow
          go_wp2_with fail
          go_region
          all_goals go_wp2_with fail
          all_goals go_roundw
          case rel => exact ⟨i + 1, by omega, by go_num, HST, hid (HKi.out.drew.setCell (p := ⟨g, k, none⟩) (fun hq => absurd hgw (Nat.not_le.2 hq)) _)⟩
          case measure => simp [intOf]; omega
        · obtain rfl : i = m := by omega
          go_wp2_with fail
          go_roundw
          case rel => exact ⟨k + 1, by omega, by go_num, by rw [← hnext.out]; exact HOi, HKi⟩
          case measure => simp [intOf]; omega
    · obtain rfl : k = n := by omega
      go_wp2_with fail
      go_ret
      exact ⟨_, rfl, by rw [← hfull.out]; exact HOk.out, HK.out⟩
end Go.Proofs.Ytnnkfopopanfjaa

/- Blocks by their numbers, and a check block that is made of some: the walks of compose.some, compose.Check, and of the document's Pick. Conditions: numbers are of their kinds. -/
set_option linter.unusedVariables false
namespace Go.Proofs.Ytnnkfopopanfjaa
open Go.RowKit

def pickR (ls : List (List UInt8)) (is : List Int) : List (List UInt8) := is.map fun i => gr ls i.toNat
theorem pickR_length (ls : List (List UInt8)) (is : List Int) : (pickR ls is).length = is.length := by simp [pickR]
theorem pickR_snoc (ls : List (List UInt8)) (is : List Int) (i : Int) : pickR ls (is ++ [i]) = pickR ls is ++ [gr ls i.toNat] := by simp [pickR]
theorem take_gi (is : List Int) (k : Nat) (h : k < is.length) : is.take (k + 1) = is.take k ++ [gi is k] := by rw [List.take_succ_eq_append_getElem h, gi_eq is k h]
/-- Numbers that are there. -/
def inRange (n : Nat) (is : List Int) : Prop := ∀ i ∈ is, 0 ≤ i ∧ i.toNat < n
set_option maxHeartbeats 1000000 in
set_option maxRecDepth 20000 in
theorem some_rows (ls : List (List UInt8)) (is : List Int) (A : Option Addr) (c : Nat) (A2 : Option Addr) (c2 : Nat) (R : Nat → Prop) (w : World) (hb : RowsIn R w A ls) (hi : IntsAt w .i64 A2 is) (hr : inRange ls.length is) (hlen : is.length ≤ 1073741824) :
    Calls Try.prog 40 #[.slice A ls.length c, .slice A2 is.length c2] w fun e w' => ∃ v, e = .returned v ∧ OwnRows (fun b => R b ∧ b < w.heap.size) w' w.heap.size v (pickR ls is) ∧ Keeps NoB w w' := by
  have hus := Try.underlying32
  have HB := hid hb.lt
  have HI := hid hi
  have HR := hid hr
  have hl := hb.len
  have hsn := hid (fun k (hk : k < is.length) => (congrArg (pickR ls) (take_gi is k hk)).trans (pickR_snoc ls (is.take k) (gi is k)))
  have hpl := hid (fun k => pickR_length ls (is.take k))
  have hfull := hid (show pickR ls (is.take is.length) = pickR ls is by rw [List.take_length])
  have hz := hid (show pickR ls (is.take 0) = [] from rfl)
  obtain ⟨m, hm⟩ : ∃ m, ls.length = m := ⟨_, rfl⟩
  obtain ⟨n, hn⟩ : ∃ n, is.length = n := ⟨_, rfl⟩
  rw [hm] at hl ⊢
  rw [hn] at hlen hsn hfull ⊢
  have hsn := hid hsn.out
  have hfull := hid hfull.out
  have HM := hid hm
  have HN := hid hn
  obtain ⟨i0, hi0, hz0, hz1, hz2⟩ := info_parts info_bytes
  clear hb hi hr hm hn
  go_enter Try.func40, Try.ntmps40
  go_wp2_with (at_make; go_must (refine wpList_make_own _ rfl _ _ _ rfl w.heap.size 25 i0 (.slice none 0 0) 1 hus hi0 hz0 hz1 .i64 .i64 _ n rfl rfl rfl (by rw [hz2]; omega) (by unfold maxLen; omega) (Nat.le_refl _) ?_); intro w1 hown1 hgr1)
  have HO := hid (show OwnRows (fun b => R b ∧ b < w.heap.size) w1 w.heap.size _ [] from ⟨[], rfl, hown1, fun j u hu => by simp at hu⟩)
  have HK1 := hid ((Keeps.refl NoB w).grown hgr1 (fun i e => by cases e))
  clear hown1 hgr1
  go_loopw [5, 13] (fun v5 v13 wr => ∃ k : Nat, k ≤ n ∧ v13 = .int .i64 (k : Int) ∧ Hid (OwnRows (fun b => R b ∧ b < w.heap.size) wr w.heap.size v5 (pickR ls (is.take k))) ∧ Hid (Keeps NoB w wr)) (fun _ v13 _ => n - (intOf v13).toNat)
  case atStart => exact ⟨0, Nat.zero_le _, rfl, by rw [hz.out]; exact HO, HK1⟩
  case round =>
    obtain ⟨k, hk, rfl, HOk, HK⟩ := hrel
    by_cases hlt : k < n
    · obtain ⟨b2, o2, rfl, hc2⟩ := (HI.out.kept HK.out).get (by rw [HN.out]; omega)
      have c2k := hc2 k (by rw [HN.out]; exact hlt)
      obtain ⟨hx0, hx1⟩ := HR.out (gi is k) (gi_mem _ _ (by rw [HN.out]; exact hlt))
      have hs := hid (hsn.out k hlt)
      obtain ⟨x, hx⟩ : ∃ x : Nat, gi is k = (x : Int) := ⟨(gi is k).toNat, by omega⟩
      rw [hx] at c2k hx0 hx1 hs
      rw [show ((x : Int)).toNat = x by omega] at hx1 hs
      have hs := hid hs.out
      have hx1 : x < m := by rw [← HM.out]; exact hx1
      obtain ⟨b1, o1, rfl, hbR, hc1⟩ := (HB.out.kept HK.out).2 (by rw [HM.out]; omega)
      obtain ⟨u, cu, hrow⟩ := hc1 x (by rw [HM.out]; exact hx1)
      obtain ⟨A3, c3, rfl, h31, h32, h33⟩ := hrow
      have hpk := hid (show (pickR ls (is.take k)).length = k by rw [hpl.out k, List.length_take, HN.out, Nat.min_eq_left hk])
      obtain ⟨us, Av, cv, hv, hus1, hus2, hus3⟩ := HOk.out.parts hpk.out
      have hb5 := hid (fun b hb => HOk.out.base_le b hb)
      subst hv
      generalize gr ls x = l at *
      have HUS1 := hid hus1
      have HUS2 := hid hus2
      have HUS3 := hid hus3
      have hrow2 := hid (show RowIn (fun b => (R b ∧ b < w.heap.size) ∧ (Value.slice Av k cv).ownBlock ≠ some b) wr (.slice A3 l.length c3) l from RowIn.mono ⟨A3, c3, rfl, h31, h32, h33⟩ (fun b _ hb => ⟨hb, fun e => by have := (hb5.out b e).1; have := hb.2; omega⟩))
      have q0 : (0 : Int) ≤ (k : Int) := by omega
      have q1 : (k : Int) < (n : Int) := by omega
      have q2 : (0 : Int) ≤ (x : Int) := by omega
      have q3 : (x : Int) < (m : Int) := by omega
      have hsz := HK.out.size
      clear hc1 hc2 hbR hx h31 h32 h33 hus1 hus2 hus3
      go_wp2_with (at_builtin; go_must (refine wpList_app1V _ rfl _ _ 32 rfl w.heap.size 25 (.slice none 0 0) 24 hus info_bytes rfl (.slice Av k cv) k us rfl (World.ownsRow.alloc HUS2.out _) _ _ (.slice A3 l.length c3) rfl rfl (cell_one _ _ _) (by omega) (by omega) (by simp; omega) ?_); intro g cap w4 hown4 hgr4 hat4)
      go_roundw
      case rel => exact ⟨k + 1, by omega, by go_num, hid (by rw [hs.out]; exact HOk.out.snocN hpk.out hrow2.out HUS1.out HUS2.out HUS3.out hown4 hgr4 hat4), hid ((HK.out.alloc _).grown hgr4 (fun i e hlt => by have := (hb5.out i e.symm).1; omega))⟩
      case measure => simp [intOf]; omega
    · obtain rfl : k = n := by omega
      go_wp2_with fail
      go_ret
      exact ⟨_, rfl, by rw [← hfull.out]; exact HOk.out, HK.out⟩
set_option maxHeartbeats 1000000 in
set_option maxRecDepth 20000 in
theorem rpick_calls (ls : List (List UInt8)) (is : List Int) (A : Option Addr) (c : Nat) (A2 : Option Addr) (c2 : Nat) (R : Nat → Prop) (w : World) (hb : RowsIn R w A ls) (hi : IntsAt w .i64 A2 is) (hr : inRange ls.length is) (hlen : is.length ≤ 1073741824) :
    Calls Try.prog 33 #[.slice A ls.length c, .slice A2 is.length c2] w fun e w' => ∃ v, e = .returned v ∧ OwnRows (fun b => R b ∧ b < w.heap.size) w' w.heap.size v (pickR ls is) ∧ Keeps NoB w w' := by
  have hus := Try.underlying32
  have HB := hid hb.lt
  have HI := hid hi
  have HR := hid hr
  have hl := hb.len
  have hsn := hid (fun k (hk : k < is.length) => (congrArg (pickR ls) (take_gi is k hk)).trans (pickR_snoc ls (is.take k) (gi is k)))
  have hpl := hid (fun k => pickR_length ls (is.take k))
  have hfull := hid (show pickR ls (is.take is.length) = pickR ls is by rw [List.take_length])
  have hz := hid (show pickR ls (is.take 0) = [] from rfl)
  obtain ⟨m, hm⟩ : ∃ m, ls.length = m := ⟨_, rfl⟩
  obtain ⟨n, hn⟩ : ∃ n, is.length = n := ⟨_, rfl⟩
  rw [hm] at hl ⊢
  rw [hn] at hlen hsn hfull ⊢
  have hsn := hid hsn.out
  have hfull := hid hfull.out
  have HM := hid hm
  have HN := hid hn
  clear hb hi hr hm hn
  go_enter Try.func33, Try.ntmps33
  go_wp2_with fail
  have HO := hid (OwnRows.empty (fun b => R b ∧ b < w.heap.size) w w.heap.size (Nat.le_refl _) 0 #[] rfl)
  have HK1 := hid ((Keeps.refl NoB w).alloc (.cells #[] 25))
  go_loopw [5, 6] (fun v5 v13 wr => ∃ k : Nat, k ≤ n ∧ v13 = .int .i64 (k : Int) ∧ Hid (OwnRows (fun b => R b ∧ b < w.heap.size) wr w.heap.size v5 (pickR ls (is.take k))) ∧ Hid (Keeps NoB w wr)) (fun _ v13 _ => n - (intOf v13).toNat)
  case atStart => exact ⟨0, Nat.zero_le _, rfl, by rw [hz.out]; exact HO, HK1⟩
  case round =>
    obtain ⟨k, hk, rfl, HOk, HK⟩ := hrel
    by_cases hlt : k < n
    · obtain ⟨b2, o2, rfl, hc2⟩ := (HI.out.kept HK.out).get (by rw [HN.out]; omega)
      have c2k := hc2 k (by rw [HN.out]; exact hlt)
      obtain ⟨hx0, hx1⟩ := HR.out (gi is k) (gi_mem _ _ (by rw [HN.out]; exact hlt))
      have hs := hid (hsn.out k hlt)
      obtain ⟨x, hx⟩ : ∃ x : Nat, gi is k = (x : Int) := ⟨(gi is k).toNat, by omega⟩
      rw [hx] at c2k hx0 hx1 hs
      rw [show ((x : Int)).toNat = x by omega] at hx1 hs
      have hs := hid hs.out
      have hx1 : x < m := by rw [← HM.out]; exact hx1
      obtain ⟨b1, o1, rfl, hbR, hc1⟩ := (HB.out.kept HK.out).2 (by rw [HM.out]; omega)
      obtain ⟨u, cu, hrow⟩ := hc1 x (by rw [HM.out]; exact hx1)
      obtain ⟨A3, c3, rfl, h31, h32, h33⟩ := hrow
      have hpk := hid (show (pickR ls (is.take k)).length = k by rw [hpl.out k, List.length_take, HN.out, Nat.min_eq_left hk])
      obtain ⟨us, Av, cv, hv, hus1, hus2, hus3⟩ := HOk.out.parts hpk.out
      have hb5 := hid (fun b hb => HOk.out.base_le b hb)
      subst hv
      generalize gr ls x = l at *
      have HUS1 := hid hus1
      have HUS2 := hid hus2
      have HUS3 := hid hus3
      have hrow2 := hid (show RowIn (fun b => (R b ∧ b < w.heap.size) ∧ (Value.slice Av k cv).ownBlock ≠ some b) wr (.slice A3 l.length c3) l from RowIn.mono ⟨A3, c3, rfl, h31, h32, h33⟩ (fun b _ hb => ⟨hb, fun e => by have := (hb5.out b e).1; have := hb.2; omega⟩))
      have q0 : (0 : Int) ≤ (k : Int) := by omega
      have q1 : (k : Int) < (n : Int) := by omega
      have q2 : (0 : Int) ≤ (x : Int) := by omega
      have q3 : (x : Int) < (m : Int) := by omega
      have hsz := HK.out.size
      clear hc1 hc2 hbR hx h31 h32 h33 hus1 hus2 hus3
      go_wp2_with (at_builtin; go_must (refine wpList_app1V _ rfl _ _ 32 rfl w.heap.size 25 (.slice none 0 0) 24 hus info_bytes rfl (.slice Av k cv) k us rfl (World.ownsRow.alloc HUS2.out _) _ _ (.slice A3 l.length c3) rfl rfl (cell_one _ _ _) (by omega) (by omega) (by simp; omega) ?_); intro g cap w4 hown4 hgr4 hat4)
      go_roundw
      case rel => exact ⟨k + 1, by omega, by go_num, hid (by rw [hs.out]; exact HOk.out.snocN hpk.out hrow2.out HUS1.out HUS2.out HUS3.out hown4 hgr4 hat4), hid ((HK.out.alloc _).grown hgr4 (fun i e hlt => by have := (hb5.out i e.symm).1; omega))⟩
      case measure => simp [intOf]; omega
    · obtain rfl : k = n := by omega
      go_wp2_with fail
      go_ret
      exact ⟨_, rfl, by rw [← hfull.out]; exact HOk.out, HK.out⟩
set_option maxHeartbeats 1000000 in
set_option maxRecDepth 20000 in
theorem check_out (n : Int) (ls : List (List UInt8)) (is : List Int) (A : Option Addr) (c : Nat) (A2 : Option Addr) (c2 : Nat) (w : World) (hl : ls.length ≤ 9223372036854775807) (hi : IntsAt w .i64 A2 is) (hr : ¬ inRange ls.length is) :
    Calls Try.prog 29 #[.int .i64 n, .slice A ls.length c, .slice A2 is.length c2] w fun e w' => e = .returned (.tuple #[.slice none 0 0, .bool false]) ∧ Keeps NoB w w' := by
  have HI := hid hi
  have HR := hid hr
  have hlen := hi.len
  have hwf := hid (show ∀ k, k < is.length → ¬ (∀ j, j < is.length → 0 ≤ gi is j ∧ (gi is j).toNat < ls.length) from fun k hk h => hr (fun i hm => by
    obtain ⟨j, hj, rfl⟩ := List.getElem_of_mem hm
    have := h j hj
    rwa [gi_eq is j hj] at this))
  obtain ⟨m, hm⟩ : ∃ m, ls.length = m := ⟨_, rfl⟩
  obtain ⟨k0, hk0⟩ : ∃ k0, is.length = k0 := ⟨_, rfl⟩
  rw [hm] at hl ⊢
  rw [hk0] at hlen ⊢
  have HM := hid hm
  have HN := hid hk0
  clear hi hr hm hk0
  go_enter Try.func29, Try.ntmps29
  go_wp2_with fail
  go_loop [12] (fun v12 => ∃ k : Nat, k ≤ k0 ∧ v12 = .int .i64 (k : Int) ∧ Hid (∀ j, j < k → 0 ≤ gi is j ∧ (gi is j).toNat < m)) (fun v12 => k0 - (intOf v12).toNat)
  case atStart => exact ⟨0, Nat.zero_le _, rfl, fun j h => absurd h (Nat.not_lt_zero _)⟩
  case round =>
    obtain ⟨k, hk, rfl, HJ⟩ := hrel
    by_cases hlt : k < k0
    · obtain ⟨b2, o2, rfl, hc2⟩ := HI.out.get (by rw [HN.out]; omega)
      have c2k := hc2 k (by rw [HN.out]; exact hlt)
      have q0 : (0 : Int) ≤ (k : Int) := by omega
      have q1 : (k : Int) < (k0 : Int) := by omega
      clear hc2
      have HJ2 := hid (fun (h : 0 ≤ gi is k ∧ (gi is k).toNat < m) => show ∀ j, j < k + 1 → 0 ≤ gi is j ∧ (gi is j).toNat < m from fun j hj => by
        by_cases e : j = k
        · rw [e]; exact h
        · exact HJ.out j (by omega))
      generalize gi is k = x at *
      by_cases h0 : x < 0
      · have d0 : decide (x < 0) = true := decide_eq_true h0
        go_wp2_with fail
        go_ret2
        exact ⟨rfl, Keeps.refl _ _⟩
      · have d0 : decide (x < 0) = false := decide_eq_false h0
        by_cases h1 : (m : Int) ≤ x
        · have d1 : decide ((m : Int) ≤ x) = true := decide_eq_true h1
          go_wp2_with fail
          go_ret2
          exact ⟨rfl, Keeps.refl _ _⟩
        · have d1 : decide ((m : Int) ≤ x) = false := decide_eq_false h1
          have HJ3 := hid (HJ2.out ⟨by omega, by omega⟩)
          go_wp2_with fail
          go_round
          case rel => exact ⟨k + 1, by omega, by go_num, HJ3⟩
          case measure => simp [intOf]; omega
    · exfalso
      obtain rfl : k = k0 := by omega
      refine HR.out (fun i hm => ?_)
      obtain ⟨j, hj, rfl⟩ := List.getElem_of_mem hm
      have := HJ.out j (by rw [← HN.out]; exact hj)
      rw [gi_eq is j hj] at this
      rw [HM.out]; exact this
set_option maxHeartbeats 1000000 in
set_option maxRecDepth 20000 in
/-- All are there: what is summed is summed. -/
theorem check_in (n : Int) (ls : List (List UInt8)) (is : List Int) (A : Option Addr) (c : Nat) (A2 : Option Addr) (c2 : Nat) (R : Nat → Prop) (w : World) (hn0 : -9223372036854775808 ≤ n) (hn : n ≤ 1073741824) (hb : RowsIn R w A ls) (hi : IntsAt w .i64 A2 is) (hr : inRange ls.length is) (hlen : is.length ≤ 1073741824) :
    Calls Try.prog 29 #[.int .i64 n, .slice A ls.length c, .slice A2 is.length c2] w fun e w' => Keeps NoB w w' ∧ ((fitN n (pickR ls is) = false ∧ e = .returned (.tuple #[.slice none 0 0, .bool false])) ∨ (fitN n (pickR ls is) = true ∧ ∃ v, e = .returned (.tuple #[v, .bool true]) ∧ OwnB w' w.heap.size v (sumB n.toNat (pickR ls is)))) := by
  have HI := hid hi
  have HR := hid hr
  have HB := hid hb
  have hl := hb.len
  have HLN := hid hlen
  have hpl := hid (pickR_length ls is)
  have hin := hid (show ∀ j, j < is.length → 0 ≤ gi is j ∧ gi is j < (ls.length : Int) from fun j hj => by
    have := hr (gi is j) (gi_mem _ _ hj); omega)
  obtain ⟨m, hm⟩ : ∃ m, ls.length = m := ⟨_, rfl⟩
  obtain ⟨k0, hk0⟩ : ∃ k0, is.length = k0 := ⟨_, rfl⟩
  rw [hm] at hl hin ⊢
  rw [hk0] at hlen hin hpl ⊢
  have hin := hid hin.out
  have hpl := hid hpl.out
  have HM := hid hm
  have HN := hid hk0
  clear hi hr hm hk0 hb
  go_enter Try.func29, Try.ntmps29
  go_wp2_with fail
  go_loop [12] (fun v12 => ∃ k : Nat, k ≤ k0 ∧ v12 = .int .i64 (k : Int)) (fun v12 => k0 - (intOf v12).toNat)
  case atStart => exact ⟨0, Nat.zero_le _, rfl⟩
  case round =>
    obtain ⟨k, hk, rfl⟩ := hrel
    by_cases hlt : k < k0
    · obtain ⟨b2, o2, rfl, hc2⟩ := HI.out.get (by rw [HN.out]; omega)
      have c2k := hc2 k (by rw [HN.out]; exact hlt)
      have q0 : (0 : Int) ≤ (k : Int) := by omega
      have q1 : (k : Int) < (k0 : Int) := by omega
      obtain ⟨hx0, hx1⟩ := hin.out k hlt
      clear hc2
      generalize gi is k = x at *
      have d0 : decide (x < 0) = false := decide_eq_false (by omega)
      have d1 : decide ((m : Int) ≤ x) = false := decide_eq_false (by omega)
      go_wp2_with fail
      go_round
      case rel => exact ⟨k + 1, by omega, by go_num⟩
      case measure => simp [intOf]; omega
    · obtain rfl : k = k0 := by omega
      have hsome := hid (some_rows ls is A c A2 c2 R w HB.out HI.out HR.out HLN.out)
      rw [HM.out, HN.out] at hsome
      go_wp2_with fail
      refine hsome.out.mono ?_
      rintro e w1 ⟨v1, rfl, HO1, HK1⟩
      have HK1 := hid HK1
      obtain ⟨A3, c3, rfl, _, _, hrows⟩ := HO1.reads
      rw [hpl.out]
      have hrows := hid hrows
      clear HO1 hsome
      go_wp2_with fail
      by_cases h0 : n < 0
      · have hf := hid (show fitN n (pickR ls is) = false by unfold fitN; rw [decide_eq_false (by omega), Bool.false_and])
        refine (bsum_neg n k A3 c3 _ h0 hn0).mono ?_
        rintro e w2 ⟨rfl, HK2⟩
        go_wp2_with fail
        go_ret2
        exact ⟨HK1.out.fresh HK2, .inl ⟨hf.out, rfl⟩⟩
      · obtain ⟨z, rfl⟩ : ∃ z : Nat, n = (z : Int) := ⟨n.toNat, by omega⟩
        have hfn := hid (show fitN (z : Int) (pickR ls is) = fitB z (pickR ls is) by unfold fitN; rw [decide_eq_true (by omega), Bool.true_and]; rfl)
        by_cases hf : fitB z (pickR ls is) = true
        · have HF := hid hf
          have hc := hid (bsum_yes z (pickR ls is) A3 c3 _ w1 (by omega) hrows.out hf)
          rw [hpl.out] at hc
          clear hf
          refine hc.out.mono ?_
          rintro e w2 ⟨v2, rfl, hO2, HK2⟩
          have hO2 := hid hO2
          clear hc
          go_wp2_with fail
          go_ret2
          exact ⟨HK1.out.fresh HK2, .inr ⟨by rw [hfn.out]; exact HF.out, v2, rfl, OwnInts.lower hO2.out HK1.out.size⟩⟩
        · have hf : fitB z (pickR ls is) = false := by simpa using hf
          have HF := hid hf
          have hc := hid (bsum_unfit z (pickR ls is) A3 c3 _ w1 (by omega) hrows.out hf)
          rw [hpl.out] at hc
          clear hf
          refine hc.out.mono ?_
          rintro e w2 ⟨rfl, HK2⟩
          clear hc
          go_wp2_with fail
          go_ret2
          exact ⟨HK1.out.fresh HK2, .inl ⟨by rw [hfn.out]; exact HF.out, rfl⟩⟩
end Go.Proofs.Ytnnkfopopanfjaa

/- Can blocks be put upon each other: what compose.Check answers. Conditions: numbers are of their kinds. -/
set_option linter.unusedVariables false
namespace Go.Proofs.Ytnnkfopopanfjaa
open Go.RowKit

/-- Can these be put upon each other? -/
def okAt (n : Int) (ls : List (List UInt8)) (i : Int) : Bool := decide (0 ≤ i) && decide (i < (ls.length : Int)) && decide (((gr ls i.toNat).length : Int) = n)
def checkB (n : Int) (ls : List (List UInt8)) (is : List Int) : Bool := decide (0 ≤ n) && is.all (okAt n ls)
theorem checkB_snoc (n : Int) (ls : List (List UInt8)) (is : List Int) (i : Int) : checkB n ls (is ++ [i]) = (checkB n ls is && okAt n ls i) := by
  unfold checkB; rw [List.all_append, Bool.and_assoc]; simp
theorem checkB_yes {n : Int} {ls : List (List UInt8)} {is : List Int} (h : checkB n ls is = true) : 0 ≤ n ∧ inRange ls.length is ∧ fitN n (pickR ls is) = true ∧ fitB n.toNat (pickR ls is) = true := by
  simp only [checkB, Bool.and_eq_true, decide_eq_true_eq, List.all_eq_true, okAt] at h
  obtain ⟨h0, h1⟩ := h
  have hf : fitB n.toNat (pickR ls is) = true := by
    unfold fitB pickR
    rw [List.all_eq_true]
    intro l hl
    obtain ⟨i, hi, rfl⟩ := List.mem_map.1 hl
    have := (h1 i hi).2
    simp; omega
  refine ⟨h0, fun i hi => ?_, ?_, hf⟩
  · have := h1 i hi; omega
  · unfold fitN; rw [hf]; simp [h0]
theorem checkB_no {n : Int} {ls : List (List UInt8)} {is : List Int} (h : checkB n ls is = false) (hr : inRange ls.length is) : fitN n (pickR ls is) = false := by
  cases hf : fitN n (pickR ls is)
  · rfl
  · exfalso
    unfold fitN at hf
    simp only [Bool.and_eq_true, decide_eq_true_eq] at hf
    have : checkB n ls is = true := by
      simp only [checkB, Bool.and_eq_true, decide_eq_true_eq, List.all_eq_true, okAt]
      refine ⟨hf.1, fun i hi => ?_⟩
      have h1 := hr i hi
      have h2 := hf.2
      unfold fitB pickR at h2
      rw [List.all_eq_true] at h2
      have h3 := h2 (gr ls i.toNat) (List.mem_map.2 ⟨i, hi, rfl⟩)
      simp at h3
      omega
    rw [this] at h; cases h
theorem check_bad (n : Int) (ls : List (List UInt8)) (is : List Int) (A : Option Addr) (c : Nat) (A2 : Option Addr) (c2 : Nat) (R : Nat → Prop) (w : World) (hn0 : -9223372036854775808 ≤ n) (hn : n ≤ 1073741824) (hb : RowsIn R w A ls) (hi : IntsAt w .i64 A2 is) (hlen : is.length ≤ 1073741824) (hx : checkB n ls is = false) :
    Calls Try.prog 29 #[.int .i64 n, .slice A ls.length c, .slice A2 is.length c2] w fun e w' => e = .returned (.tuple #[.slice none 0 0, .bool false]) ∧ Keeps NoB w w' := by
  by_cases hr : inRange ls.length is
  · refine (check_in n ls is A c A2 c2 R w hn0 hn hb hi hr hlen).mono ?_
    rintro e w' ⟨hk, ⟨_, he⟩ | ⟨hf, _⟩⟩
    · exact ⟨he, hk⟩
    · rw [checkB_no hx hr] at hf; cases hf
  · exact check_out n ls is A c A2 c2 w hb.len hi hr
theorem check_good (n : Int) (ls : List (List UInt8)) (is : List Int) (A : Option Addr) (c : Nat) (A2 : Option Addr) (c2 : Nat) (R : Nat → Prop) (w : World) (hn : n ≤ 1073741824) (hb : RowsIn R w A ls) (hi : IntsAt w .i64 A2 is) (hlen : is.length ≤ 1073741824) (hx : checkB n ls is = true) :
    Calls Try.prog 29 #[.int .i64 n, .slice A ls.length c, .slice A2 is.length c2] w fun e w' => ∃ v, e = .returned (.tuple #[v, .bool true]) ∧ OwnB w' w.heap.size v (sumB n.toNat (pickR ls is)) ∧ Keeps NoB w w' := by
  obtain ⟨h0, h1, h2, _⟩ := checkB_yes hx
  refine (check_in n ls is A c A2 c2 R w (by omega) hn hb hi h1 hlen).mono ?_
  rintro e w' ⟨hk, ⟨hf, _⟩ | ⟨_, v, he, ho⟩⟩
  · rw [h2] at hf; cases hf
  · exact ⟨v, he, ho, hk⟩
end Go.Proofs.Ytnnkfopopanfjaa
