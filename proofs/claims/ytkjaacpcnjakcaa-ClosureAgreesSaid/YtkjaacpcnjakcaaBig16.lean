/- Are there more equations, or greater ones, than are looked at: the walk of almonrylaw16.big. Condition: lengths that memory bears. -/
import Derived.Test.YtkjaacpcnjakcaaWorkMath
import Derived.Test.YtkjaacpcnjakcaaRows2
set_option linter.unusedVariables false
namespace Go.Proofs.Ytkjaacpcnjakcaa
open Go.RowKit

theorem flat_take (eqs : List (List Int)) (k : Nat) (h : k < eqs.length) : (eqs.take (k + 1)).flatten.length = (eqs.take k).flatten.length + (gl eqs k).length := by
  rw [List.take_succ_eq_append_getElem h, List.flatten_append, List.length_append, gl_eq eqs k h]
  simp
/-- No more than are looked at. -/
structure Small16 (eqs : List (List Int)) : Prop where
  len : eqs.length ≤ 400
  flat : eqs.flatten.length ≤ 400
  each : ∀ of ∈ eqs, of.length ≤ 400
theorem len_flat {eqs : List (List Int)} {of : List Int} (h : of ∈ eqs) : of.length ≤ eqs.flatten.length := by
  obtain ⟨a, b, rfl⟩ := List.append_of_mem h
  simp [List.flatten_append]; omega
def BigPost (P : Prop) (w : World) (e : Ending) (w' : World) : Prop := ∃ b, e = .returned (.bool b) ∧ (b = false → P) ∧ w' = w
set_option maxHeartbeats 800000 in
set_option maxRecDepth 20000 in
theorem big16_calls (eqs : List (List Int)) (A : Option Addr) (c : Nat) (w : World) (h : RowsAt w A eqs) (hmx : ∀ of ∈ eqs, of.length ≤ 140737488355328) :
    Calls Try.prog 29 #[.slice A eqs.length c] w (BigPost (Small16 eqs) w) := by
  have hl := h.1
  have HE := hid h
  have HT := hid (flat_take eqs)
  have HMX := hid (fun k (hk : k < eqs.length) => hmx (gl eqs k) (gl_mem hk))
  clear h hmx
  obtain ⟨m, hm⟩ : ∃ m, eqs.length = m := ⟨_, rfl⟩
  rw [hm] at hl ⊢
  have hmm := hid hm
  clear hm
  go_enter Try.func29, Try.ntmps29
  go_wp2_with fail
  go_loop [3, 8] (fun v3 v8 => ∃ k q : Nat, k ≤ m ∧ v8 = .int .i64 (k : Int) ∧ v3 = .int .i64 (q : Int) ∧ q ≤ 400 ∧ Hid (q = (eqs.take k).flatten.length + k)) (fun _ v8 => m - (intOf v8).toNat)
  case atStart => exact ⟨0, 0, Nat.zero_le _, rfl, rfl, Nat.zero_le _, hid rfl⟩
  case round =>
    obtain ⟨k, q, hk, rfl, rfl, hq, HQ⟩ := hrel
    by_cases hlt : k < m
    · obtain ⟨b, off, rfl, hc⟩ := HE.out.2 (by rw [hmm.out]; omega)
      obtain ⟨u, cu, A1, c1, rfl, _, _, hat⟩ := hc k (by rw [hmm.out]; exact hlt)
      have p0 : (0 : Int) ≤ (k : Int) := by omega
      have p1 : (k : Int) < (m : Int) := by omega
      have hx1 := HMX.out k (by rw [hmm.out]; exact hlt)
      have ht := hid (HT.out k (by rw [hmm.out]; exact hlt))
      clear hc hat
      generalize hge : gl eqs k = of at *
      clear hge
      by_cases h1 : 400 < q + (of.length + 1)
      · have d1 : decide ((400 : Int) < (q : Int) + ((of.length : Int) + 1)) = true := decide_eq_true (by omega)
        go_wp2_with fail
        go_ret
        exact ⟨true, rfl, (fun h => absurd h (by simp)), rfl⟩
      · have d1 : decide ((400 : Int) < (q : Int) + ((of.length : Int) + 1)) = false := decide_eq_false (by omega)
        have HQ2 := hid (show q + (of.length + 1) = (eqs.take (k + 1)).flatten.length + (k + 1) by
          rw [ht.out]
          have := HQ.out
          omega)
        go_wp2_with fail
        go_round
        case rel => exact ⟨k + 1, q + (of.length + 1), by omega, by go_num, by go_num, by omega, HQ2⟩
        case measure => simp [intOf]; omega
    · obtain rfl : k = m := by omega
      have hall : eqs.take k = eqs := by rw [← hmm.out, List.take_length]
      rw [hall] at HQ
      go_wp2_with fail
      go_ret
      have h1 := HQ.out
      have h2 := hmm.out
      refine ⟨false, rfl, fun _ => ⟨by omega, by omega, fun of hof => Nat.le_trans (len_flat hof) (by omega)⟩, rfl⟩
end Go.Proofs.Ytkjaacpcnjakcaa
