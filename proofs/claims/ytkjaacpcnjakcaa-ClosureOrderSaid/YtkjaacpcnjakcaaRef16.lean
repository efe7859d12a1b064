/- Are numbers of blocks such as there are; which aren't known; which follow: the reference's walks. Conditions: numbers are of their kinds; lengths are small. -/
import Derived.Test.YtkjaacpcnjakcaaFits
import Derived.Test.YtkjaacpcnjakcaaRef
import Derived.Test.YtkjaacpcnjakcaaRows2
import Derived.BigQuiet
set_option linter.unusedVariables false
namespace Go.Proofs.Ytkjaacpcnjakcaa
open Go.RowKit

set_option maxHeartbeats 1600000 in
set_option maxRecDepth 20000 in
theorem rfits16_calls (all : Int) (of : List Int) (A : Option Addr) (c : Nat) (w : World) (h : IntsAt w .i64 A of) :
    Calls Try.prog 33 #[.int .i64 all, .slice A of.length c] w fun e w' => e = .returned (.bool (fitsN all of)) ∧ Keeps NoB w w' := by
  have hl := h.len
  have HC := hid h
  have HNO := hid (fun k (hk : k < of.length) (h : fitAt all of k = false) => fitsN_no hk h)
  have HYES := hid (fun h => fitsN_yes (all := all) (of := of) h)
  clear h
  obtain ⟨n, hn⟩ : ∃ n, of.length = n := ⟨_, rfl⟩
  rw [hn] at hl ⊢
  have hnn := hid hn
  clear hn
  go_enter Try.func33, Try.ntmps33
  go_wp2_with fail
  go_loopw [5] (fun v5 wr => ∃ k : Nat, k ≤ n ∧ v5 = .int .i64 (k : Int) ∧ Hid (∀ j, j < k → fitAt all of j = true) ∧ Hid (Keeps NoB w wr)) (fun v5 _ => n - (intOf v5).toNat)
  case atStart => exact ⟨0, Nat.zero_le _, rfl, fun j hj => absurd hj (Nat.not_lt_zero _), Keeps.refl _ _⟩
  case round =>
    obtain ⟨k, hk, rfl, HJ, HK⟩ := hrel
    by_cases hlt : k < n
    · obtain ⟨b, off, rfl, hc⟩ := (HC.out.kept HK.out).get (by rw [hnn.out]; omega)
      have c1 := hc k (by rw [hnn.out]; exact hlt)
      have p0 : (0 : Int) ≤ (k : Int) := by omega
      have p1 : (k : Int) < (n : Int) := by omega
      have hno := hid (HNO.out k (by rw [hnn.out]; exact hlt))
      have hfa := hid (show fitAt all of k = (decide (0 ≤ gi of k) && decide (gi of k < all) && (decide (k = 0) || decide (gi of (k - 1) < gi of k))) from rfl)
      by_cases h0 : gi of k < 0
      · have d0 : decide (gi of k < 0) = true := decide_eq_true h0
        have hr := hid (hno.out (by rw [hfa.out, decide_eq_false (show ¬ (0 : Int) ≤ gi of k by omega)]; rfl))
        clear hc h0
        generalize gi of k = x at *
        go_wp2_with fail
        go_quiet (fail)
        go_wp2_with fail
        go_ret
        rw [hr.out]; exact ⟨rfl, HK.out.drewN _⟩
      · have d0 : decide (gi of k < 0) = false := decide_eq_false h0
        by_cases h1 : gi of k < all
        · have d1 : decide (all ≤ gi of k) = false := decide_eq_false (by omega)
          cases k with
          | zero =>
            have hok := hid (show fitAt all of 0 = true by rw [hfa.out, decide_eq_true (show (0 : Int) ≤ gi of 0 by omega), decide_eq_true h1]; rfl)
            have c1' : wr.cell? ⟨b, off, none⟩ = some (.int .i64 (gi of 0)) := c1
            have HJ2 := hid (show ∀ j, j < 0 + 1 → fitAt all of j = true from fun j hj => by obtain rfl : j = 0 := by omega
                                                                                             exact hok.out)
            clear hc h0 h1 c1
            generalize gi of 0 = x at *
            go_wp2_with fail
            go_quiet (fail)
            go_wp2_with fail
            go_roundw
            case rel => exact ⟨1, by omega, by go_num, HJ2, hid (HK.out.drewN _)⟩
            case measure => simp [intOf]; omega
          | succ k =>
            have c2 := hc k (by rw [hnn.out]; omega)
            have hsub : IntKind.i64.wrap ((k : Nat) : Int) = (k : Int) := IntWalk.i64_in _ (by omega)
            have p5 : (0 : Int) ≤ (k : Int) := by omega
            have p6 : (k : Int) < (n : Int) := by omega
            have hgt : decide ((0 : Int) < (k : Int) + 1) = true := decide_eq_true (by omega)
            rw [show k + 1 - 1 = k from rfl] at hfa
            by_cases h2 : gi of k < gi of (k + 1)
            · have d2 : decide (gi of (k + 1) ≤ gi of k) = false := decide_eq_false (by omega)
              have hok := hid (show fitAt all of (k + 1) = true by rw [hfa.out, decide_eq_true (show (0 : Int) ≤ gi of (k + 1) by omega), decide_eq_true h1, decide_eq_true h2]; simp)
              have HJ2 := hid (show ∀ j, j < k + 1 + 1 → fitAt all of j = true from fun j hj => by
                by_cases e : j = k + 1
                · rw [e]; exact hok.out
                · exact HJ.out j (by omega))
              clear hc h0 h1 h2
              generalize gi of (k + 1) = x at *
              generalize gi of k = y at *
              go_wp2_with fail
              go_quiet (fail)
              go_wp2_with fail
              go_roundw
              case rel => exact ⟨k + 1 + 1, by omega, by go_num, HJ2, hid (HK.out.drewN _)⟩
              case measure => simp [intOf]; omega
            · have d2 : decide (gi of (k + 1) ≤ gi of k) = true := decide_eq_true (by omega)
              have hr := hid (hno.out (by rw [hfa.out, decide_eq_false h2, decide_eq_false (show ¬ k + 1 = 0 by omega)]; simp))
              clear hc h0 h1 h2
              generalize gi of (k + 1) = x at *
              generalize gi of k = y at *
              go_wp2_with fail
              go_quiet (fail)
              go_wp2_with fail
              go_ret
              rw [hr.out]; exact ⟨rfl, HK.out.drewN _⟩
        · have d1 : decide (all ≤ gi of k) = true := decide_eq_true (by omega)
          have hr := hid (hno.out (by rw [hfa.out, decide_eq_false h1]; simp))
          clear hc h0 h1
          generalize gi of k = x at *
          go_wp2_with fail
          go_quiet (fail)
          go_wp2_with fail
          go_ret
          rw [hr.out]; exact ⟨rfl, HK.out.drewN _⟩
    · obtain rfl : n = k := by omega
      have hr := hid (HYES.out (by rw [hnn.out]; exact HJ.out))
      go_wp2_with fail
      go_ret
      rw [hr.out]; exact ⟨rfl, HK.out⟩
set_option maxHeartbeats 800000 in
set_option maxRecDepth 20000 in
theorem rleft_calls (ks of : List Int) (K A : Option Addr) (ck c : Nat) (w : World) (hk : IntsAt w .i64 K ks) (h : IntsAt w .i64 A of) (hl : of.length ≤ 1073741824) :
    Calls Try.prog 35 #[.slice K ks.length ck, .slice A of.length c] w fun e w' => ∃ v, e = .returned v ∧ OwnInts w' w.heap.size .i64 3 v (unkN ks of) ∧ Keeps NoB w w' := by
  have HC := hid h
  have HKN := hid (fun (w' : World) (hh : Keeps NoB w w') (i : Int) => has_calls ks i K ck w' (hk.kept hh))
  have HT := hid (unkN_take ks of)
  have HLE := hid (show ∀ k, (unkN ks (of.take k)).length ≤ of.length from fun k => Nat.le_trans (unkN_le _ _) (by rw [List.length_take]; omega))
  have hu := Try.underlying27
  clear h hk
  obtain ⟨n, hn⟩ : ∃ n, of.length = n := ⟨_, rfl⟩
  rw [hn] at hl HLE ⊢
  have hnn := hid hn
  clear hn
  go_enter Try.func35, Try.ntmps35
  go_wp2_with fail
  go_loopw [5, 6] (fun v5 v6 wr => ∃ k : Nat, k ≤ n ∧ v6 = .int .i64 (k : Int) ∧ Hid (OwnInts wr w.heap.size .i64 3 v5 (unkN ks (of.take k))) ∧ Hid (Keeps NoB w wr)) (fun _ v6 _ => n - (intOf v6).toNat)
  case atStart => exact ⟨0, Nat.zero_le _, rfl, OwnInts.empty _ _ _ _ (Nat.le_refl _), (Keeps.refl NoB w).alloc _⟩
  case round =>
    obtain ⟨k, hk, rfl, HO, HK⟩ := hrel
    by_cases hlt : k < n
    · obtain ⟨b1, o1, rfl, hc1⟩ := HC.out.get (by rw [hnn.out]; omega)
      have c1 := HK.out.cell (hc1 k (by rw [hnn.out]; exact hlt)) (fun h => h)
      have p0 : (0 : Int) ≤ (k : Int) := by omega
      have p1 : (k : Int) < (n : Int) := by omega
      have ht := hid (HT.out k (by rw [hnn.out]; exact hlt))
      have hle := HLE.out k
      have hcg := hid (hc1 k (by rw [hnn.out]; exact hlt))
      clear hc1
      generalize gi of k = i at *
      go_wp2_with fail
      refine (HKN.out wr HK.out i).mono ?_
      rintro e w2 ⟨rfl, HK2⟩
      have HO2 := hid (HO.out.kept HK2)
      have HK2 := hid (HK.out.fresh HK2)
      have c1 := HK2.out.cell hcg.out (fun h => h)
      by_cases hx : i ∈ ks
      · rw [decide_eq_true hx]
        have ht2 := hid (show unkN ks (of.take (k + 1)) = unkN ks (of.take k) by rw [ht.out, if_pos hx, List.append_nil])
        clear hx
        go_wp2_with fail
        go_roundw
        case rel => exact ⟨k + 1, by omega, by go_num, by rw [ht2.out]; exact HO2, HK2⟩
        case measure => simp [intOf]; omega
      · rw [decide_eq_false hx]
        have ht2 := hid (show unkN ks (of.take (k + 1)) = unkN ks (of.take k) ++ [i] by rw [ht.out, if_neg hx])
        clear hx
        go_wp2_with (at_builtin; go_must (refine wpList_app1 _ rfl _ _ 27 rfl w.heap.size 3 .i64 8 hu info_int _ _ rfl (OwnInts.alloc HO2.out _) _ _ _ rfl (cell_one _ _ _) (by omega) (by omega) (by have := HK2.out.size; simp at this ⊢; omega) ?_); intro v4 w4 hown4 hgr4 _)
        go_roundw
        case rel => exact ⟨k + 1, by omega, by go_num, by rw [ht2.out]; exact hid hown4, hid ((HK2.out.alloc _).own (OwnInts.alloc HO2.out _) hgr4 (Nat.le_refl _))⟩
        case measure => simp [intOf]; omega
    · obtain rfl : n = k := by omega
      have hall : of.take n = of := by rw [← hnn.out, List.take_length]
      rw [hall] at HO
      clear hall
      go_wp2_with fail
      go_ret
      exact ⟨_, rfl, HO.out, HK.out⟩
end Go.Proofs.Ytkjaacpcnjakcaa
