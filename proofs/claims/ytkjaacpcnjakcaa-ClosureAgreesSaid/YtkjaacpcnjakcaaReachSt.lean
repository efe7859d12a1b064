/- closure.Reach's memory: left, has, todo: what each write leaves of the others. No condition. -/
import Derived.Test.YtkjaacpcnjakcaaGroups
import Derived.Test.YtkjaacpcnjakcaaEqAdd
set_option linter.unusedVariables false
namespace Go.Proofs.Ytkjaacpcnjakcaa
open Go.RowKit Go.ChangeShapes

/-- Left's row lies below the map's block M, todo's row and the map's rows above; the map's rows shun todo's. -/
structure St (w wr : World) (vl : Value) (left : List Int) (M n1 : Nat) (f : Int → List Int) (vt : Value) (todo : List Int) : Prop where
  left : OwnInts wr w.heap.size .i64 3 vl left
  lbelow : ∀ g, vl.ownBlock = some g → g < M
  todo : OwnInts wr (M + 1) .i64 3 vt todo
  has : GroupsAt wr M n1 f
  shuns : wr.Shuns M (fun g => vt.ownBlock = some g)
  base : w.heap.size ≤ M
  top : M < wr.heap.size
  keeps : Keeps NoB w wr
/-- Other writes that touch none of these. -/
theorem St.kept {w wr w' : World} {vl : Value} {left : List Int} {M n1 : Nat} {f : Int → List Int} {vt : Value} {todo : List Int} (h : St w wr vl left M n1 f vt todo) (hk : Keeps NoB wr w') : St w w' vl left M n1 f vt todo := by
  have hg := hk.grownBy none
  obtain ⟨D, hD, hf⟩ := h.has
  refine ⟨h.left.kept hk, h.lbelow, h.todo.kept hk, ⟨D, hD.kept hg (by simp) (fun es clock _ x _ => ?_), hf⟩, h.shuns.kept hg h.top (by simp), h.base, Nat.lt_of_lt_of_le h.top hk.size, h.keeps.fresh hk⟩
  cases x.val.ownBlock with
  | none => exact .inl rfl
  | some g => exact .inr (by simp)
/-- Todo grows. -/
theorem St.todo_grown {w wr w' : World} {vl : Value} {left : List Int} {M n1 : Nat} {f : Int → List Int} {vt vt' : Value} {todo todo' : List Int} (h : St w wr vl left M n1 f vt todo) (hg : wr.grownBy w' vt.ownBlock) (ho : OwnInts w' (M + 1) .i64 3 vt' todo')
    (hat : vt'.ownBlock = vt.ownBlock ∨ vt'.ownBlock = some wr.heap.size) : St w w' vl left M n1 f vt' todo' := by
  obtain ⟨D, hD, hf⟩ := h.has
  have hM : some M ≠ vt.ownBlock := fun e => by have := (h.todo.base_le M e.symm).1; omega
  have hs1 : wr.Shuns M (fun g => vt'.ownBlock = some g) := h.shuns.reno hD (fun g hg' => by
    rcases hat with e | e
    · exact .inl (by rw [← e]; exact hg')
    · right
      have := hg'.symm.trans e
      injection this with this
      omega)
  have hl : vl.ownBlock = none ∨ vl.ownBlock ≠ vt.ownBlock := by
    cases hv : vl.ownBlock with
    | none => exact .inl rfl
    | some g =>
      refine .inr (fun e => ?_)
      have h1 := h.lbelow g hv
      have h2 := (h.todo.base_le g e.symm).1
      omega
  exact ⟨World.ownsRow.kept h.left hg hl, h.lbelow, ho, ⟨D, hD.kept hg hM (h.shuns.rowsOff (fun j hj => hj)), hf⟩, hs1.kept hg h.top hM, h.base, Nat.lt_of_lt_of_le h.top hg.size, h.keeps.grown hg (fun i hi hlt => by have := (h.todo.base_le i hi.symm).1; have := h.base; omega)⟩
/-- A number of left is written: its row lies below all others. -/
theorem St.left_set {w wr w' : World} {vl : Value} {left left' : List Int} {M n1 : Nat} {f : Int → List Int} {vt : Value} {todo : List Int} (h : St w wr vl left M n1 f vt todo) (hg : wr.grownBy w' vl.ownBlock) (ho : OwnInts w' w.heap.size .i64 3 vl left') : St w w' vl left' M n1 f vt todo := by
  obtain ⟨D, hD, hf⟩ := h.has
  have hM : some M ≠ vl.ownBlock := fun e => by have := h.lbelow M e.symm; omega
  have ht : vt.ownBlock = none ∨ vt.ownBlock ≠ vl.ownBlock := by
    cases hv : vt.ownBlock with
    | none => exact .inl rfl
    | some g =>
      refine .inr (fun e => ?_)
      have h1 := h.lbelow g e.symm
      have h2 := (h.todo.base_le g hv).1
      omega
  exact ⟨ho, h.lbelow, World.ownsRow.kept h.todo hg ht, ⟨D, hD.kept hg hM (hD.rowsAbove (fun j hj => by have := h.lbelow j hj; omega)), hf⟩, h.shuns.kept hg h.top hM, h.base, Nat.lt_of_lt_of_le h.top hg.size, h.keeps.grown hg (fun i hi hlt => by have := (h.left.base_le i hi.symm).1; omega)⟩
/-- A number more at a key of the map. -/
theorem St.has_grown {w wr w2 w6 : World} {vl : Value} {left : List Int} {M n1 : Nat} {f : Int → List Int} {vt : Value} {todo : List Int} (h : St w wr vl left M n1 f vt todo) {D : DataW Unit} (hf : Holds D f) {v v' : Value} {zs : List Int} {x k : Int}
    (hoi : wr.ownsInts (M + 1) 3 .i64 v zs) (hat : D.atKey (.int .i64 x) .nil = rowDatum .i64 v zs) (hno : ∀ g, v.ownBlock = some g → ¬ vt.ownBlock = some g) (hall : wr.grownBy w2 v.ownBlock) (hoi' : w2.ownsInts (M + 1) 3 .i64 v' (zs ++ [k]))
    (hown : w6.ownsGroups Try.prog 3 (M + 1) 3 .i64 M (n1 + 1) (D.put (.int .i64 x) (rowDatum .i64 v' (zs ++ [k])))) (hg : w2.grownBy w6 (some M)) (hsh : w6.Shuns M (fun g => vt.ownBlock = some g)) :
    St w w6 vl left M (n1 + 1) (fun y => if y = x then f x ++ [k] else f y) vt todo := by
  have hz := hf.zs hoi hat
  subst hz
  rw [hoi'.datum_pos (by simp)] at hown
  have hvb : ∀ g, v.ownBlock = some g → M + 1 ≤ g := fun g hv => (World.ownsRow.lt hoi.1 g hv).1
  have hl : vl.ownBlock = none ∨ vl.ownBlock ≠ v.ownBlock := by
    cases hv : vl.ownBlock with
    | none => exact .inl rfl
    | some g =>
      refine .inr (fun e => ?_)
      have h1 := h.lbelow g hv
      have h2 := hvb g e.symm
      omega
  have ht : vt.ownBlock = none ∨ vt.ownBlock ≠ v.ownBlock := by
    cases hv : vt.ownBlock with
    | none => exact .inl rfl
    | some g => exact .inr (fun e => hno g e.symm hv)
  have hl2 : vl.ownBlock = none ∨ vl.ownBlock ≠ some M := .inr (fun e => by have := h.lbelow M e; omega)
  have ht2 : vt.ownBlock = none ∨ vt.ownBlock ≠ some M := .inr (fun e => by have := (h.todo.base_le M e).1; omega)
  have hsz := hall.size
  exact ⟨World.ownsRow.kept (World.ownsRow.kept h.left hall hl) hg hl2, h.lbelow, World.ownsRow.kept (World.ownsRow.kept h.todo hall ht) hg ht2, ⟨_, hown, hf.put x _⟩, hsh, h.base, Nat.lt_of_lt_of_le h.top (Nat.le_trans hsz hg.size),
    (h.keeps.grown hall (fun i hi hlt => by have := hvb i hi.symm; have := h.base; omega)).grown hg (fun i hi hlt => by injection hi with hi; have := h.base; omega)⟩
end Go.Proofs.Ytkjaacpcnjakcaa
