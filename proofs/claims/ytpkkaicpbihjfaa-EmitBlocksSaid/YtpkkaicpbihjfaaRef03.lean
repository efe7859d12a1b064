/- The document's sum of blocks: its walk. Conditions: numbers are of their kinds; all blocks are as long. -/
import Derived.Test.YtpkkaicpbihjfaaBlock
import Derived.RegionTactic
set_option linter.unusedVariables false
namespace Go.Proofs.Ytpkkaicpbihjfaa
open Go.RowKit

/-- What is reckoned so far: the bytes before k wholly, byte k of the first i blocks. -/
def sumRow (n : Nat) (ls : List (List UInt8)) (k i : Nat) : List UInt8 := (List.range n).map fun j => if j < k then sumAt ls j ls.length else if j = k then sumAt ls k i else 0
theorem sumRow_length (n : Nat) (ls : List (List UInt8)) (k i : Nat) : (sumRow n ls k i).length = n := by simp [sumRow]
theorem sumRow_zero (n : Nat) (ls : List (List UInt8)) : sumRow n ls 0 0 = List.replicate n 0 := by
  apply List.ext_getElem
  · simp [sumRow]
  · intro j h1 h2
    simp [sumRow, sumAt]
theorem sumRow_next (n : Nat) (ls : List (List UInt8)) (k : Nat) : sumRow n ls k ls.length = sumRow n ls (k + 1) 0 := by
  apply List.ext_getElem
  · simp [sumRow]
  · intro j h1 h2
    simp only [sumRow, List.getElem_map, List.getElem_range]
    by_cases hj : j < k
    · rw [if_pos hj, if_pos (by omega)]
    · rw [if_neg hj]
      by_cases e : j = k
      · rw [if_pos e, if_pos (by omega), e]
      · rw [if_neg e, if_neg (by omega)]
        by_cases e2 : j = k + 1
        · rw [if_pos e2]; rfl
        · rw [if_neg e2]
theorem sumRow_full (n : Nat) (ls : List (List UInt8)) (h : fitB n ls = true) : sumRow n ls n 0 = sumB n ls := by
  rw [sumB_eq h]
  apply List.map_congr_left
  intro j hj
  rw [if_pos (List.mem_range.1 hj)]
theorem sumRow_gb (n : Nat) (ls : List (List UInt8)) (k i : Nat) (hk : k < n) : gb (sumRow n ls k i) k = sumAt ls k i := by
  rw [gb_eq _ _ (by rw [sumRow_length]; exact hk)]
  simp [sumRow]
theorem sumRow_set (n : Nat) (ls : List (List UInt8)) (k i : Nat) (hk : k < n) (hi : i < ls.length) : (sumRow n ls k i).set k (sumAt ls k i ^^^ gb (gr ls i) k) = sumRow n ls k (i + 1) := by
  apply List.ext_getElem
  · simp [sumRow]
  · intro j h1 h2
    rw [List.getElem_set]
    simp only [sumRow, List.getElem_map, List.getElem_range]
    by_cases e : k = j
    · subst e
      rw [if_pos rfl, if_neg (Nat.lt_irrefl _), if_pos rfl, sumAt_succ ls k i hi]
    · rw [if_neg e]
      by_cases hj : j < k
      · rw [if_pos hj, if_pos hj]
      · rw [if_neg hj, if_neg hj, if_neg (fun h => e h.symm), if_neg (fun h => e h.symm)]
set_option maxHeartbeats 2000000 in
set_option maxRecDepth 20000 in
theorem rsum_calls (n : Nat) (ls : List (List UInt8)) (A : Option Addr) (c : Nat) (R : Nat → Prop) (w : World) (hn : n ≤ 1073741824) (hb : RowsIn R w A ls) (hfit : fitB n ls = true) :
    Calls Try.prog 18 #[.int .i64 (n : Int), .slice A ls.length c] w fun e w' => ∃ v, e = .returned v ∧ OwnB w' w.heap.size v (sumB n ls) ∧ Keeps NoB w w' := by
  have hl := hb.len
  have HB := hid hb.lt
  have HF := hid hfit
  have hui := Try.underlying25
  obtain ⟨i0, hi, hz0, hz1, hz2⟩ := info_parts info_u8
  have hfull := hid (sumRow_full n ls hfit)
  have hnext := hid (sumRow_next n ls)
  have hz := hid (sumRow_zero n ls)
  have hlen := hid (sumRow_length n ls)
  have hgb := hid (sumRow_gb n ls)
  have hset := hid (sumRow_set n ls)
  obtain ⟨m, hm⟩ : ∃ m, ls.length = m := ⟨_, rfl⟩
  rw [hm] at hl hnext ⊢
  have hnext := hid hnext.out
  have hmm := hid hm
  clear hb hfit hm
  go_enter Try.func18, Try.ntmps18
  go_wp2_with (at_make; go_must (refine wpList_make_full _ rfl _ _ _ rfl w.heap.size 5 i0 (.int .u8 0) 1 hui hi hz0 hz1 .i64 .i64 _ _ n rfl rfl rfl rfl (by rw [hz2]; omega) (by unfold maxLen; omega) (Nat.le_refl _) ?_); intro w3 hown3 hgr3)
  have HO := hid (OwnB.ofMake hown3)
  have HK3 := hid ((Keeps.refl NoB w).grown hgr3 (fun i e => by cases e))
  clear hown3 hgr3
  obtain ⟨g, hg⟩ : ∃ g, g = w.heap.size := ⟨_, rfl⟩
  have hgw : w.heap.size ≤ g := by omega
  rw [← hg] at HO ⊢
  have HO := hid (show OwnB w3 w.heap.size (.slice (some ⟨g, 0, none⟩) n n) (List.replicate n 0) by rw [← hg]; exact HO.out)
  clear hg
  go_loopw [6] (fun v6 wr => ∃ k : Nat, k ≤ n ∧ v6 = .int .i64 (k : Int) ∧ Hid (OwnB wr w.heap.size (.slice (some ⟨g, 0, none⟩) n n) (sumRow n ls k 0)) ∧ Hid (Keeps NoB w wr)) (fun v6 _ => n - (intOf v6).toNat)
  case atStart => exact ⟨0, Nat.zero_le _, rfl, by rw [hz.out]; exact HO, HK3⟩
  case round =>
    obtain ⟨k, hk, rfl, HOk, HK⟩ := hrel
    by_cases hlt : k < n
    · go_wp2_with fail
      go_loopw [7] (fun v7 wr => ∃ i : Nat, i ≤ m ∧ v7 = .int .i64 (i : Int) ∧ Hid (OwnB wr w.heap.size (.slice (some ⟨g, 0, none⟩) n n) (sumRow n ls k i)) ∧ Hid (Keeps NoB w wr)) (fun v7 _ => m - (intOf v7).toNat)
      case atStart => exact ⟨0, Nat.zero_le _, rfl, HOk, HK⟩
      case round =>
        obtain ⟨i, hi2, rfl, HOi, HKi⟩ := hrel
        by_cases hlt2 : i < m
        · have hrow := HB.out.kept HKi.out
          obtain ⟨bb, ob, rfl, hbR, hc⟩ := hrow.2 (by rw [hmm.out]; omega)
          obtain ⟨u, c1, A1, cc1, rfl, _, _, h1⟩ := hc i (by rw [hmm.out]; exact hlt2)
          have hll := fitB_at HF.out i (by rw [hmm.out]; exact hlt2)
          obtain ⟨bx, ox, rfl, hxR, hcx⟩ := h1.get (by omega)
          have c2 := hcx k (by omega)
          have hg1 := hgb.out k i hlt
          have hs1 := hset.out k i hlt (by rw [hmm.out]; exact hlt2)
          have hl1 := hlen.out k i
          have c3 := OwnInts.cell (HOi.out : OwnInts _ _ _ _ _ _) (j := k) (by rw [enc8_length, hl1]; exact hlt)
          rw [gi_enc8 _ k (by rw [hl1]; exact hlt), hg1] at c3
          have f3 := OwnInts.free (HOi.out : OwnInts _ _ _ _ _ _) k
          have hst := OwnInts.set (HOi.out : OwnInts _ _ _ _ _ _) (j := k) (by rw [enc8_length, hl1]; exact hlt) ((sumAt ls k i ^^^ gb (gr ls i) k).toNat : Int)
          rw [enc8_set, hs1] at hst
          have HST := hid hst
          have hx := xor_byte (sumAt ls k i) (gb (gr ls i) k)
          rw [hll] at c1
          generalize ((sumAt ls k i ^^^ gb (gr ls i) k).toNat : Int) = z at *
          generalize ((sumAt ls k i).toNat : Int) = x at *
          generalize ((gb (gr ls i) k).toNat : Int) = y at *
          have q0 : (0 : Int) ≤ (k : Int) := by omega
          have q1 : (k : Int) < (n : Int) := by omega
          have q2 : (0 : Int) ≤ (i : Int) := by omega
          have q3 : (i : Int) < (m : Int) := by omega
          clear hst hs1 hg1 hl1 hcx hxR hc hbR hll h1 hrow
          go_wp2_with fail
          go_region
          all_goals go_wp2_with fail
          all_goals go_roundw
          case rel => exact ⟨i + 1, by omega, by go_num, HST, hid (HKi.out.drew.setCell (p := ⟨g, k, none⟩) (fun hq => absurd hgw (Nat.not_le.2 hq)) _)⟩
          case measure => simp [intOf]; omega
        · obtain rfl : i = m := by omega
          go_wp2_with fail
          go_roundw
          case rel => exact ⟨k + 1, by omega, by go_num, by rw [← hnext.out]; exact HOi, HKi⟩
          case measure => simp [intOf]; omega
    · obtain rfl : k = n := by omega
      go_wp2_with fail
      go_ret
      exact ⟨_, rfl, by rw [← hfull.out]; exact HOk.out, HK.out⟩
end Go.Proofs.Ytpkkaicpbihjfaa
