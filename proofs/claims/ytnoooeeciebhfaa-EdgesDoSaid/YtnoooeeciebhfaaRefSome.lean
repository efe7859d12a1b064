/- A sample, as the reference draws it: its walk. Conditions: the numbers are of their kinds; below is at most 2^30. -/
import Derived.Test.YtnoooeeciebhfaaRef
set_option linter.unusedVariables false
namespace Go.Proofs.Ytnoooeeciebhfaa
open Go.RowKit

def pickN (l : List Int) (j x : Nat) : Int := if (x : Int) ∈ l then (j : Int) else (x : Int)
/-- The state behind i draws, and what was drawn, in its order. -/
noncomputable def drawN (s lo : Nat) : Nat → Nat × List Int
  | 0 => (s, [])
  | i + 1 => ((belowN (drawN s lo i).1 (lo + i + 1)).1, (drawN s lo i).2 ++ [pickN (drawN s lo i).2 (lo + i) (belowN (drawN s lo i).1 (lo + i + 1)).2])
theorem drawN_lt (s lo : Nat) (hs : s < 18446744073709551616) (i : Nat) : (drawN s lo i).1 < 18446744073709551616 := by
  cases i with
  | zero => exact hs
  | succ i =>
    have h := drawN_lt s lo hs i
    show (belowN (drawN s lo i).1 (lo + i + 1)).1 < _
    exact belowN_lt _ _ h
theorem drawN_length (s lo i : Nat) : (drawN s lo i).2.length = i := by
  induction i with
  | zero => rfl
  | succ i ih =>
    show ((drawN s lo i).2 ++ [_]).length = _
    rw [List.length_append, ih]; rfl
/-- Numbers, put in their order one by one. -/
def srt (l : List Int) : List Int := l.foldl (fun a y => ins y a) []
theorem srt_snoc (l : List Int) (y : Int) : srt (l ++ [y]) = ins y (srt l) := by unfold srt; rw [List.foldl_append]; rfl
theorem mem_ins (n x : Int) (l : List Int) : x ∈ ins n l ↔ x = n ∨ x ∈ l := by
  induction l with
  | nil => simp [ins]
  | cons y r ih =>
    unfold ins
    split
    · simp
    · rw [List.mem_cons, ih, List.mem_cons]
      constructor
      · rintro (h | h | h)
        · exact .inr (.inl h)
        · exact .inl h
        · exact .inr (.inr h)
      · rintro (h | h | h)
        · exact .inr (.inl h)
        · exact .inl h
        · exact .inr (.inr h)
theorem srt_length (l : List Int) : (srt l).length = l.length := by
  suffices h : ∀ (l a : List Int), (l.foldl (fun a y => ins y a) a).length = a.length + l.length by rw [srt, h]; simp
  intro l
  induction l with
  | nil => intro a; simp
  | cons y r ih => intro a; rw [List.foldl_cons, ih, ins_length, List.length_cons]; omega
theorem mem_srt (x : Int) (l : List Int) : x ∈ srt l ↔ x ∈ l := by
  suffices h : ∀ (l a : List Int), x ∈ l.foldl (fun a y => ins y a) a ↔ x ∈ a ∨ x ∈ l by rw [srt, h]; simp
  intro l
  induction l with
  | nil => intro a; simp
  | cons y r ih =>
    intro a
    rw [List.foldl_cons, ih, mem_ins, List.mem_cons]
    constructor
    · rintro ((h | h) | h)
      · exact .inr (.inl h)
      · exact .inl h
      · exact .inr (.inr h)
    · rintro (h | h | h)
      · exact .inl (.inr h)
      · exact .inl (.inl h)
      · exact .inr h
/-- How many are drawn; from where on. -/
def cntN (below many : Int) : Nat := (if many > below then below else many).toNat
def loN (below many : Int) : Nat := below.toNat - cntN below many
/-- What is drawn, rising. -/
noncomputable def someN (s : Nat) (below many : Int) : List Int := srt (drawN s (loN below many) (cntN below many)).2
noncomputable def someS (s : Nat) (below many : Int) : Nat := (drawN s (loN below many) (cntN below many)).1

end Go.Proofs.Ytnoooeeciebhfaa
