/- Who has a message block is whom it is in: the plain law. Conditions: parameters that may be. -/
import Derived.Test.YtnnkfopopanfjaaOuterNew
set_option linter.unusedVariables false
namespace Go.Proofs.Ytnnkfopopanfjaa
open Go.RowKit

theorem mem_putAt (h : List (List Int)) (i j : Int) (hj : j.toNat < h.length) (x : Int) (k : Nat) : x ∈ gl (putAt h i j) k ↔ x ∈ gl h k ∨ (x = i ∧ k = j.toNat) := by
  unfold putAt
  rw [gl_set]
  split
  · rename_i hc
    obtain ⟨rfl, _⟩ := hc
    simp
  · rename_i hc
    constructor
    · exact fun h => .inl h
    · rintro (h | ⟨_, h⟩)
      · exact h
      · exact absurd ⟨h, hj⟩ hc
theorem mem_putAll (i : Int) (l : List Int) : ∀ (h : List (List Int)), (∀ j ∈ l, 0 ≤ j ∧ j.toNat < h.length) → ∀ (x : Int) (k : Nat), x ∈ gl (putAll h i l) k ↔ x ∈ gl h k ∨ (x = i ∧ (k : Int) ∈ l) := by
  induction l with
  | nil => intro h _ x k; simp [putAll]
  | cons j r ih =>
    intro h hl x k
    show x ∈ gl (putAll (putAt h i j) i r) k ↔ _
    have hj := hl j (List.mem_cons_self ..)
    rw [ih (putAt h i j) (fun y hy => by rw [putAt_length]; exact hl y (List.mem_cons_of_mem _ hy)), mem_putAt h i j hj.2]
    have : k = j.toNat ↔ (k : Int) = j := by omega
    rw [List.mem_cons, this]
    constructor
    · rintro ((h1 | ⟨h1, h2⟩) | ⟨h1, h2⟩)
      · exact .inl h1
      · exact .inr ⟨h1, .inl h2⟩
      · exact .inr ⟨h1, .inr h2⟩
    · rintro (h1 | ⟨h1, h2 | h2⟩)
      · exact .inl (.inl h1)
      · exact .inl (.inr ⟨h1, h2⟩)
      · exact .inr ⟨h1, h2⟩
theorem mem_hasN (p : Par) (session : Nat) (hp : p.may) (n : Nat) (x : Int) (k : Nat) : x ∈ gl (hasN p session n) k ↔ ∃ i : Nat, i < n ∧ x = (i : Int) ∧ (k : Int) ∈ ofN p session i := by
  induction n with
  | zero =>
    have : gl (hasN p session 0) k = [] := by unfold gl hasN; rw [List.getD_eq_getElem?_getD, List.getElem?_replicate]; split <;> rfl
    rw [this]; simp
  | succ n ih =>
    show x ∈ gl (putAll _ _ _) k ↔ _
    rw [mem_putAll _ _ _ (fun j hj => by rw [hasN_length]; exact ofN_in p session n hp j hj), ih]
    constructor
    · rintro (⟨i, h1, h2, h3⟩ | ⟨h1, h2⟩)
      · exact ⟨i, by omega, h2, h3⟩
      · exact ⟨n, by omega, h1, h2⟩
    · rintro ⟨i, h1, h2, h3⟩
      by_cases he : i = n
      · subst he; exact .inr ⟨h2, h3⟩
      · exact .inl ⟨i, by omega, h2, h3⟩
end Go.Proofs.Ytnnkfopopanfjaa
