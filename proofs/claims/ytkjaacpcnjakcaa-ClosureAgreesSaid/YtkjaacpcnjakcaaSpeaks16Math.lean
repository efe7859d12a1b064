/- What the first words of the laws of closure come to: the plain law. No condition. -/
import Derived.Test.YtkjaacpcnjakcaaAgreeMath
set_option linter.unusedVariables false
namespace Go.Proofs.Ytkjaacpcnjakcaa

def eqs16 : List EqV := [⟨[0], [1]⟩, ⟨[0, 1], [3]⟩, ⟨[1], [2]⟩]
theorem reach_16 : reachN 4 [[0], [0, 1], [1, 2, 3]] = [0, 1] := by
  have f0 : Follows 4 [[0], [0, 1], [1, 2, 3]] 0 := .step [0] 0 (by simp) (by decide) (by simp) (by simp)
  have f1 : Follows 4 [[0], [0, 1], [1, 2, 3]] 1 := .step [0, 1] 1 (by simp) (by decide) (by simp) (by
    intro y hy hne
    rcases List.mem_cons.1 hy with rfl | hy
    · exact f0
    · exact absurd (List.mem_singleton.1 hy) hne)
  refine (reach_done (known := [0, 1]) (by simp) (by intro y hy; rcases List.mem_cons.1 hy with rfl | hy; exact f0; rw [List.mem_singleton.1 hy]; exact f1) ?_).symm
  intro of hof _
  rcases List.mem_cons.1 hof with rfl | hof
  · decide
  · rcases List.mem_cons.1 hof with rfl | hof
    · decide
    · rw [List.mem_singleton.1 hof]; decide
theorem reach_16e {es : List EqV} (h : es = eqs16 ∨ es = eqs16 ++ [(⟨[1], [3]⟩ : EqV)]) : ∀ x, (x = 0 ∨ x = 1) → x ∈ reachN 4 (es.map EqV.of) := by
  have h0 : ∀ e ∈ eqs16, e ∈ es := fun e he => by rcases h with rfl | rfl; exact he; exact List.mem_append_left _ he
  intro x hx
  rw [mem_reachN]
  rcases hx with rfl | rfl
  · exact .step [0] 0 (List.mem_map.2 ⟨⟨[0], [1]⟩, h0 _ (by simp [eqs16]), rfl⟩) (by decide) (by simp) (by simp)
  · exact .step [1] 1 (List.mem_map.2 ⟨⟨[1], [2]⟩, h0 _ (by simp [eqs16]), rfl⟩) (by decide) (by simp) (by simp)
theorem agree_16 : agreesN 4 1 eqs16 = true := by
  refine agreesN_yes ⟨fun x => if x = 0 then [1] else [2], fun x => by dsimp only; split <;> rfl, fun e he _ => ?_⟩
  unfold eqs16 at he
  rcases List.mem_cons.1 he with rfl | he
  · unfold SatE sumF; decide
  · rcases List.mem_cons.1 he with rfl | he
    · unfold SatE sumF; decide
    · rw [List.mem_singleton.1 he]; unfold SatE sumF; decide
theorem agree_16no : agreesN 4 1 (eqs16 ++ [⟨[1], [3]⟩]) = false := by
  refine agreesN_no ?_
  rintro ⟨f, hf, h⟩
  have hr := reach_16e (es := eqs16 ++ [(⟨[1], [3]⟩ : EqV)]) (.inr rfl)
  have hc : ∀ v : List UInt8, v.length = 1 → closedE 4 1 (reachN 4 ((eqs16 ++ [(⟨[1], [3]⟩ : EqV)]).map EqV.of)) ⟨[1], v⟩ = true := by
    intro v hv
    unfold closedE
    have h1 := hr 1 (.inr rfl)
    simp only [Bool.and_eq_true, decide_eq_true_eq, List.all_cons, List.all_nil, and_true]
    exact ⟨⟨by decide, hv⟩, h1⟩
  have h2 := h ⟨[1], [2]⟩ (by simp [eqs16]) (hc [2] rfl)
  have h3 := h ⟨[1], [3]⟩ (by simp [eqs16]) (hc [3] rfl)
  unfold SatE at h2 h3
  have h4 : ([2] : List UInt8) = [3] := h2.trans h3.symm
  revert h4
  decide
end Go.Proofs.Ytkjaacpcnjakcaa
