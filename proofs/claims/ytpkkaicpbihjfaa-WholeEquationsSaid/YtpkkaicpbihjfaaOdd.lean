/- The numbers that are there an odd number of times: the program's walk. Condition: a length that the list's reads bear. -/
import Derived.Test.YtpkkaicpbihjfaaSeqVals
import Derived.Test.YtpkkaicpbihjfaaOddMath
import Derived.BigQuiet
set_option linter.unusedVariables false
namespace Go.Proofs.Ytpkkaicpbihjfaa
open Go.RowKit

theorem odd_rem (i k : Nat) (h : i ≤ k) : ((((k : Int) - (i : Int)).tmod 2) = 1) ↔ (k - i) % 2 = 1 := by
  rw [show ((k : Int) - (i : Int)) = ((k - i : Nat) : Int) by omega, Int.tmod_eq_emod_of_nonneg (by omega)]
  omega
set_option maxHeartbeats 1600000 in
set_option maxRecDepth 20000 in
theorem odd_calls (xs : List Int) (A : Option Addr) (c : Nat) (w : World) (h : IntsAt w .i64 A xs) (hl : xs.length ≤ 1073741824) :
    Calls Try.prog 67 #[.slice A xs.length c] w fun e w' => ∃ v, e = .returned v ∧ OwnInts w' w.heap.size .i64 3 v (oddN xs) ∧ Keeps NoB w w' := by
  have HB := hid (SlB.of (c := c) h)
  have HE := hid (oddN_srtM xs)
  have hu := Try.underlying62
  clear h
  go_enter Try.func67, Try.ntmps67
  go_wp2_with fail
  refine (vals_calls A xs.length c _).mono ?_
  rintro e w1 ⟨rfl, rfl⟩
  go_wp2_with fail
  refine (sorted_calls w.heap.size w.heap.size _ xs hl _ (by simp) (by simp) (cell_one w _ _) (HB.out.below ((Below.refl _ w).alloc (Nat.le_refl _) _))).mono ?_
  rintro e w2 ⟨v, rfl, hown, hk⟩
  obtain ⟨Al, cl, rfl, hcl, hat⟩ := hown.reads
  have HAT := hid hat
  have HK0 := hid (show Keeps NoB w w2 from ((Keeps.refl NoB w).alloc _).fresh hk)
  have HS := hid (srtM_sorted xs)
  have hL : (srtM xs).length ≤ 1073741824 := by rw [srtM_length]; exact hl
  obtain ⟨L, hLL⟩ : ∃ L, srtM xs = L := ⟨_, rfl⟩
  rw [hLL] at HAT HE HS hL
  simp only [hLL]
  clear hown hk hat hcl hLL
  obtain ⟨n, hn⟩ : ∃ n, L.length = n := ⟨_, rfl⟩
  rw [hn] at hL
  simp only [hn]
  have hnn := hid hn
  have HN := hid (show ∀ k, (oddN (L.take k)).length ≤ n from fun k => Nat.le_trans (oddN_length _) (by rw [List.length_take]; omega))
  clear hn
  go_wp2_with fail
  go_loopw [4, 5] (fun v4 v5 wr => ∃ i : Nat, i ≤ n ∧ v5 = .int .i64 (i : Int) ∧ Hid (OwnInts wr w2.heap.size .i64 3 v4 (oddN (L.take i))) ∧ Hid (Bnd L i) ∧ Hid (Keeps NoB w2 wr)) (fun _ v5 _ => n - (intOf v5).toNat)
  case atStart => exact ⟨0, Nat.zero_le _, rfl, by simp [oddN]; exact OwnInts.nil _ _ _ _, bnd_zero L, Keeps.refl _ _⟩
  case round =>
    obtain ⟨i, hi, rfl, HO, HBN, HK⟩ := hrel
    by_cases hlt : i < n
    · obtain ⟨b, off, rfl, hc⟩ := HAT.out.get (by rw [hnn.out]; omega)
      have HC := hid hc
      clear hc
      have q0 : (0 : Int) ≤ (i : Int) := by omega
      have q1 : (i : Int) < (n : Int) := by omega
      go_wp2_with fail
      go_loopw [6] (fun v6 wr => ∃ k : Nat, i ≤ k ∧ k ≤ n ∧ v6 = .int .i64 (k : Int) ∧ Hid (OwnInts wr w2.heap.size .i64 3 u4 (oddN (L.take i))) ∧ Hid (∀ j, i ≤ j → j < k → gi L j = gi L i) ∧ Hid (Keeps NoB w2 wr)) (fun v6 _ => n - (intOf v6).toNat)
      case atStart => exact ⟨i, Nat.le_refl _, by omega, rfl, HO, fun j h1 h2 => by omega, HK⟩
      case round =>
        obtain ⟨k, hik, hk, rfl, HO, HJ, HK⟩ := hrel
        have c2 := HK.out.cell (HC.out i (by rw [hnn.out]; exact hlt)) (fun h => h)
        by_cases hlt2 : k < n
        · have c1 := HK.out.cell (HC.out k (by rw [hnn.out]; exact hlt2)) (fun h => h)
          have p0 : (0 : Int) ≤ (k : Int) := by omega
          have p1 : (k : Int) < (n : Int) := by omega
          have hd : decide ((k : Int) < (n : Int)) = true := decide_eq_true p1
          by_cases hx : gi L k = gi L i
          · have hq : (gi L k == gi L i) = true := by simp [hx]
            have HX := hid hx
            clear hx
            go_wp2_with fail
            go_quiet (fail)
            go_wp2_with fail
            go_roundw
            case rel => exact ⟨k + 1, by omega, by omega, by go_num, hid (HO.out.drewN _), hid (fun j h1 h2 => by
              by_cases e : j = k
              · rw [e]; exact HX.out
              · exact HJ.out j h1 (by omega)), hid (HK.out.drewN _)⟩
            case measure => simp [intOf]; omega
          · have hq : (gi L k == gi L i) = false := by simp [hx]
            have HX := hid hx
            clear hx
            have hik2 : i < k := by
              rcases Nat.lt_or_ge i k with h1 | h1
              · exact h1
              · exact absurd (by rw [show k = i by omega]) HX.out
            obtain ⟨hb2, hs2⟩ := odd_step HS.out HBN.out hik2 (by rw [hnn.out]; exact hk) HJ.out (fun _ => HX.out)
            have HB2 := hid hb2
            by_cases hodd : (k - i) % 2 = 1
            · have hqq : (((k : Int) - (i : Int)) % 2 == 1) = true := by simp; omega
              rw [if_pos hodd] at hs2
              have HS2 := hid hs2
              have HNN := HN.out i
              clear hb2 hs2 hodd
              go_wp2_with fail
              go_quiet (fail)
              go_wp2_with (at_builtin; go_must (refine wpList_app1 _ rfl _ _ 62 rfl w2.heap.size 3 .i64 8 hu info_int _ _ rfl (OwnInts.alloc HO.out _) _ _ _ rfl (cell_one _ _ _) (by omega) (by omega) (by have := HK.out.size; simp at this ⊢; omega) ?_); intro v4 w4 hown4 hgr4 _)
              go_roundw
              case rel => exact ⟨k, hk, rfl, hid (by rw [HS2.out]; exact hown4), HB2, hid (((HK.out.drewN _).alloc _).own (OwnInts.alloc HO.out _) hgr4 (Nat.le_refl _))⟩
              case measure => simp [intOf]; omega
            · have hqq : (((k : Int) - (i : Int)) % 2 == 1) = false := by simp; omega
              rw [if_neg hodd, List.append_nil] at hs2
              have HS2 := hid hs2
              clear hb2 hs2 hodd
              go_wp2_with fail
              go_quiet (fail)
              go_wp2_with fail
              go_roundw
              case rel => exact ⟨k, hk, rfl, hid (by rw [HS2.out]; exact HO.out.drewN _), HB2, hid (HK.out.drewN _)⟩
              case measure => simp [intOf]; omega
        · obtain rfl : k = n := by omega
          have hd : decide ((k : Int) < (k : Int)) = false := decide_eq_false (by omega)
          have hik2 : i < k := by
            rcases Nat.lt_or_ge i k with h1 | h1
            · exact h1
            · omega
          obtain ⟨hb2, hs2⟩ := odd_step HS.out HBN.out hik2 (by rw [hnn.out]; exact hk) HJ.out (fun e => by rw [hnn.out] at e; omega)
          have HB2 := hid hb2
          by_cases hodd : (k - i) % 2 = 1
          · have hqq : (((k : Int) - (i : Int)) % 2 == 1) = true := by simp; omega
            rw [if_pos hodd] at hs2
            have HS2 := hid hs2
            have HNN := HN.out i
            clear hb2 hs2 hodd
            go_wp2_with fail
            go_quiet (fail)
            go_wp2_with (at_builtin; go_must (refine wpList_app1 _ rfl _ _ 62 rfl w2.heap.size 3 .i64 8 hu info_int _ _ rfl (OwnInts.alloc HO.out _) _ _ _ rfl (cell_one _ _ _) (by omega) (by omega) (by have := HK.out.size; simp at this ⊢; omega) ?_); intro v4 w4 hown4 hgr4 _)
            go_roundw
            case rel => exact ⟨k, hk, rfl, hid (by rw [HS2.out]; exact hown4), HB2, hid (((HK.out.drewN _).alloc _).own (OwnInts.alloc HO.out _) hgr4 (Nat.le_refl _))⟩
            case measure => simp [intOf]; omega
          · have hqq : (((k : Int) - (i : Int)) % 2 == 1) = false := by simp; omega
            rw [if_neg hodd, List.append_nil] at hs2
            have HS2 := hid hs2
            clear hb2 hs2 hodd
            go_wp2_with fail
            go_quiet (fail)
            go_wp2_with fail
            go_roundw
            case rel => exact ⟨k, hk, rfl, hid (by rw [HS2.out]; exact HO.out.drewN _), HB2, hid (HK.out.drewN _)⟩
            case measure => simp [intOf]; omega
    · obtain rfl : i = n := by omega
      go_wp2_with fail
      go_ret
      refine ⟨_, rfl, ?_, HK0.out.fresh HK.out⟩
      have h9 := HO.out
      rw [← hnn.out, List.take_length, HE.out] at h9
      exact h9.lower HK0.out.size
end Go.Proofs.Ytpkkaicpbihjfaa
