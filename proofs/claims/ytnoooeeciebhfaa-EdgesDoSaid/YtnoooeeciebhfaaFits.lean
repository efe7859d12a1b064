/- Are numbers of blocks such as there are, rising; are all of an equation's blocks among some: the walks. Conditions: numbers are of their kinds. -/
import Derived.Test.YtnoooeeciebhfaaReachMath
import Derived.Test.YtnoooeeciebhfaaSame
import Derived.BigQuiet
set_option linter.unusedVariables false
namespace Go.Proofs.Ytnoooeeciebhfaa
open Go.RowKit

set_option maxHeartbeats 1600000 in
set_option maxRecDepth 20000 in
theorem cfits_calls (all : Int) (of : List Int) (A : Option Addr) (c : Nat) (w : World) (h : IntsAt w .i64 A of) :
    Calls Try.prog 32 #[.int .i64 all, .slice A of.length c] w fun e w' => e = .returned (.bool (fitsN all of)) ∧ w' = w := by
  have hl := h.len
  have HC := hid h
  have HNO := hid (fun k (hk : k < of.length) (h : fitAt all of k = false) => fitsN_no hk h)
  have HYES := hid (fun h => fitsN_yes (all := all) (of := of) h)
  clear h
  obtain ⟨n, hn⟩ : ∃ n, of.length = n := ⟨_, rfl⟩
  rw [hn] at hl ⊢
  have hnn := hid hn
  clear hn
  go_enter Try.func32, Try.ntmps32
  go_wp2_with fail
  go_loop [9] (fun v9 => ∃ k : Nat, k ≤ n ∧ v9 = .int .i64 (k : Int) ∧ Hid (∀ j, j < k → fitAt all of j = true)) (fun v9 => n - (intOf v9).toNat)
  case atStart => exact ⟨0, Nat.zero_le _, rfl, fun j hj => absurd hj (Nat.not_lt_zero _)⟩
  case round =>
    obtain ⟨k, hk, rfl, HJ⟩ := hrel
    by_cases hlt : k < n
    · obtain ⟨b, off, rfl, hc⟩ := HC.out.get (by rw [hnn.out]; omega)
      have c1 := hc k (by rw [hnn.out]; exact hlt)
      have p0 : (0 : Int) ≤ (k : Int) := by omega
      have p1 : (k : Int) < (n : Int) := by omega
      have hno := hid (HNO.out k (by rw [hnn.out]; exact hlt))
      have hfa := hid (show fitAt all of k = (decide (0 ≤ gi of k) && decide (gi of k < all) && (decide (k = 0) || decide (gi of (k - 1) < gi of k))) from rfl)
      by_cases h0 : gi of k < 0
      · have d0 : decide (gi of k < 0) = true := decide_eq_true h0
        have hr := hid (hno.out (by rw [hfa.out, decide_eq_false (show ¬ (0 : Int) ≤ gi of k by omega)]; rfl))
        clear hc h0
        generalize gi of k = x at *
        go_wp2_with fail
        go_ret
        rw [hr.out]; exact ⟨rfl, rfl⟩
      · have d0 : decide (gi of k < 0) = false := decide_eq_false h0
        by_cases h1 : gi of k < all
        · have d1 : decide (all ≤ gi of k) = false := decide_eq_false (by omega)
          cases k with
          | zero =>
            have hok := hid (show fitAt all of 0 = true by rw [hfa.out, decide_eq_true (show (0 : Int) ≤ gi of 0 by omega), decide_eq_true h1]; rfl)
            have c1' : w.cell? ⟨b, off, none⟩ = some (.int .i64 (gi of 0)) := c1
            have HJ2 := hid (show ∀ j, j < 0 + 1 → fitAt all of j = true from fun j hj => by obtain rfl : j = 0 := by omega
                                                                                             exact hok.out)
            clear hc h0 h1 c1
            generalize gi of 0 = x at *
            go_wp2_with fail
            go_round
            case rel => exact ⟨1, by omega, by go_num, HJ2⟩
            case measure => simp [intOf]; omega
          | succ k =>
            have c2 := hc k (by rw [hnn.out]; omega)
            rw [show k + 1 - 1 = k from rfl] at hfa
            by_cases h2 : gi of k < gi of (k + 1)
            · have d2 : decide (gi of (k + 1) ≤ gi of k) = false := decide_eq_false (by omega)
              have hok := hid (show fitAt all of (k + 1) = true by rw [hfa.out, decide_eq_true (show (0 : Int) ≤ gi of (k + 1) by omega), decide_eq_true h1, decide_eq_true h2]; simp)
              have HJ2 := hid (show ∀ j, j < k + 1 + 1 → fitAt all of j = true from fun j hj => by
                by_cases e : j = k + 1
                · rw [e]; exact hok.out
                · exact HJ.out j (by omega))
              clear hc h0 h1 h2
              generalize gi of (k + 1) = x at *
              generalize gi of k = y at *
              go_wp2_with fail
              go_round
              case rel => exact ⟨k + 1 + 1, by omega, by go_num, HJ2⟩
              case measure => simp [intOf]; omega
            · have d2 : decide (gi of (k + 1) ≤ gi of k) = true := decide_eq_true (by omega)
              have hr := hid (hno.out (by rw [hfa.out, decide_eq_false h2, decide_eq_false (show ¬ k + 1 = 0 by omega)]; simp))
              clear hc h0 h1 h2
              generalize gi of (k + 1) = x at *
              generalize gi of k = y at *
              go_wp2_with fail
              go_ret
              rw [hr.out]; exact ⟨rfl, rfl⟩
        · have d1 : decide (all ≤ gi of k) = true := decide_eq_true (by omega)
          have hr := hid (hno.out (by rw [hfa.out, decide_eq_false h1]; simp))
          clear hc h0 h1
          generalize gi of k = x at *
          go_wp2_with fail
          go_ret
          rw [hr.out]; exact ⟨rfl, rfl⟩
    · obtain rfl : n = k := by omega
      have hr := hid (HYES.out (by rw [hnn.out]; exact HJ.out))
      go_wp2_with fail
      go_ret
      rw [hr.out]; exact ⟨rfl, rfl⟩
end Go.Proofs.Ytnoooeeciebhfaa
