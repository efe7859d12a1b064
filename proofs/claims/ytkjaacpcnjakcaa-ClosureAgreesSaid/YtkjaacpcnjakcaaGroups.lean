/- A map of slices of numbers that the call makes: what lies at each key, as a function. No condition. -/
import Derived.Test.YtkjaacpcnjakcaaSome
import Derived.Maps.OwnRows
import Derived.Maps.GroupsBeside
set_option linter.unusedVariables false
namespace Go.Proofs.Ytkjaacpcnjakcaa
open Go.RowKit Go.ChangeShapes

theorem lits_inj {a b : List Int} (h : lits (H := Unit) .i64 a = lits .i64 b) : a = b := by
  unfold lits at h
  exact (List.map_inj_right (fun x y e => by injection e with e; injection e)).1 h
/-- What a map holds, key by key. -/
def Holds (D : DataW Unit) (f : Int → List Int) : Prop :=
  Maps.IsMap D ∧ ∀ x, (D.atKey (.int .i64 x) .nil = .nil ∧ f x = []) ∨ D.atKey (.int .i64 x) .nil = .slice (lits .i64 (f x)) []
theorem Holds.none : Holds (.map []) (fun _ => []) := ⟨⟨_, rfl⟩, fun x => .inl ⟨rfl, rfl⟩⟩
theorem Holds.zs {D : DataW Unit} {f : Int → List Int} (h : Holds D f) {w : World} {base : Nat} {e : TypeId} {v : Value} {zs : List Int} {x : Int} (ho : w.ownsInts base e .i64 v zs) (hat : D.atKey (.int .i64 x) .nil = rowDatum .i64 v zs) : zs = f x := by
  rcases ho.datum (H := Unit) with ⟨h1, rfl⟩ | h1
  · rw [h1] at hat
    rcases h.2 x with ⟨_, e⟩ | e
    · exact e.symm
    · rw [hat] at e; cases e
  · rw [h1] at hat
    rcases h.2 x with ⟨e, _⟩ | e
    · rw [hat] at e; cases e
    · rw [hat] at e
      injection e with e
      exact lits_inj e
theorem Holds.put {D : DataW Unit} {f : Int → List Int} (h : Holds D f) (x : Int) (zs : List Int) : Holds (D.put (.int .i64 x) (.slice (lits .i64 zs) [])) (fun y => if y = x then zs else f y) := by
  have key : ∀ y, ((D.put (.int .i64 x) (.slice (lits .i64 zs) [])).atKey (.int .i64 y) .nil = .nil ∧ (if y = x then zs else f y) = []) ∨ (D.put (.int .i64 x) (.slice (lits .i64 zs) [])).atKey (.int .i64 y) .nil = .slice (lits .i64 (if y = x then zs else f y)) [] := by
    intro y
    by_cases e : y = x
    · subst e
      right
      rw [if_pos rfl, Maps.atKey_put_same h.1 (show WideAt.IsKeyLit (.int .i64 y) from trivial)]
    · rw [if_neg e, Maps.atKey_put_other (fun h => e (by injection h))]
      exact h.2 y
  refine ⟨?_, key⟩
  obtain ⟨es, rfl⟩ := h.1
  exact ⟨_, rfl⟩
/-- A map of slices of numbers in block b, of at most n numbers each. -/
def GroupsAt (w : World) (b n : Nat) (f : Int → List Int) : Prop := ∃ D : DataW Unit, w.ownsGroups Try.prog 3 (b + 1) 3 .i64 b n D ∧ Holds D f
theorem GroupsAt.made (w : World) : GroupsAt (w.alloc (.map #[] 0)) w.heap.size 0 (fun _ => []) := ⟨.map [], World.ownsGroups_made _ _ _ _ _, Holds.none⟩
end Go.Proofs.Ytkjaacpcnjakcaa
