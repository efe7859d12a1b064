/- closure.Reach's memory in its second loop: left, has, todo (a queue), known. No condition. -/
import Derived.Test.YtkjaacpcnjakcaaReachSt
import Derived.Test.YtkjaacpcnjakcaaTail
set_option linter.unusedVariables false
namespace Go.Proofs.Ytkjaacpcnjakcaa
open Go.RowKit Go.ChangeShapes Go.WideElems

structure St2 (w wr : World) (vl : Value) (left : List Int) (M n1 : Nat) (f : Int → List Int) (vt : Value) (todo : List Int) (nk : Nat) (known : List Int) : Prop where
  left : OwnInts wr w.heap.size .i64 3 vl left
  lbelow : ∀ g, vl.ownBlock = some g → g < M
  todo : OwnTail wr (M + 1) vt todo
  has : GroupsAt wr M n1 f
  shuns : wr.Shuns M (fun g => vt.ownBlock = some g)
  known : SetAt wr (M + 1) nk known
  base : w.heap.size ≤ M
  top : M + 1 < wr.heap.size
  keeps : Keeps NoB w wr
theorem St2.of {w wr : World} {vl : Value} {left : List Int} {M n1 : Nat} {f : Int → List Int} {vt : Value} {todo : List Int} {nk : Nat} {known : List Int} (h : St w wr vl left M n1 f vt todo) (hk : SetAt wr (M + 1) nk known) : St2 w wr vl left M n1 f vt todo nk known :=
  ⟨h.left, h.lbelow, OwnTail.of h.todo, h.has, h.shuns, hk, h.base, hk.lt, h.keeps⟩
variable {w wr w' : World} {vl : Value} {left : List Int} {M n1 : Nat} {f : Int → List Int} {vt : Value} {todo : List Int} {nk : Nat} {known : List Int}
theorem St2.kept (h : St2 w wr vl left M n1 f vt todo nk known) (hk : Keeps NoB wr w') : St2 w w' vl left M n1 f vt todo nk known := by
  have hg := hk.grownBy none
  obtain ⟨D, hD, hf⟩ := h.has
  refine ⟨h.left.kept hk, h.lbelow, h.todo.keeps hk (fun _ _ h => h), ⟨D, hD.kept hg (by simp) (fun es clock _ x _ => ?_), hf⟩, h.shuns.kept hg (Nat.lt_of_succ_lt h.top) (by simp), h.known.keeps hk (fun h => h), h.base, Nat.lt_of_lt_of_le h.top hk.size, h.keeps.fresh hk⟩
  cases x.val.ownBlock with
  | none => exact .inl rfl
  | some g => exact .inr (by simp)
theorem tail_ne {v : Value} {base : Nat} {xs : List Int} {b n : Nat} {l : List Int} (hm : SetAt wr b n l) (h : OwnTail wr base v xs) : v.ownBlock ≠ some b := by
  obtain ⟨es, clock, hb, _⟩ := hm
  rcases h with ⟨rfl, _⟩ | ⟨g, p, cap, cur, rfl, _, hg, _⟩
  · simp [Value.ownBlock]
  · intro e1
    have : g = b := by simpa [Value.ownBlock] using e1
    subst this
    rw [hb] at hg; cases hg
theorem OwnInts.ints {w : World} {base : Nat} {q : IntKind} {e : TypeId} {A : Option Addr} {n c : Nat} {xs : List Int} (h : OwnInts w base q e (.slice A n c) xs) : IntsAt w q A xs ∧ n = xs.length := by
  obtain ⟨A', c', e, _, h2⟩ := h.reads
  injection e with e1 e2 e3
  subst e1
  exact ⟨h2, e2⟩
/-- The queue, shortened. -/
theorem St2.todo_cut {vt' : Value} {todo' : List Int} (h : St2 w wr vl left M n1 f vt todo nk known) (ho : OwnTail wr (M + 1) vt' todo') (hat : vt'.ownBlock = vt.ownBlock) : St2 w wr vl left M n1 f vt' todo' nk known :=
  ⟨h.left, h.lbelow, ho, h.has, by rw [show (fun g => vt'.ownBlock = some g) = (fun g => vt.ownBlock = some g) by rw [hat]]; exact h.shuns, h.known, h.base, h.top, h.keeps⟩
/-- The queue, with one more. -/
theorem St2.todo_grown {vt' : Value} {todo' : List Int} (h : St2 w wr vl left M n1 f vt todo nk known) (hg : wr.grownBy w' vt.ownBlock) (ho : OwnTail w' (M + 1) vt' todo') (hat : vt'.ownBlock = vt.ownBlock ∨ ∃ g, vt'.ownBlock = some g ∧ wr.heap.size ≤ g) : St2 w w' vl left M n1 f vt' todo' nk known := by
  obtain ⟨D, hD, hf⟩ := h.has
  have hM : some M ≠ vt.ownBlock := fun e => by have := (h.todo.base_le M e.symm).1; omega
  have hM1 : some (M + 1) ≠ vt.ownBlock := fun e => tail_ne h.known h.todo e.symm
  have hs1 : wr.Shuns M (fun g => vt'.ownBlock = some g) := h.shuns.reno hD (fun g hg' => by
    rcases hat with e | ⟨g', e, hge⟩
    · exact .inl (by rw [← e]; exact hg')
    · right
      have := hg'.symm.trans e
      injection this with this
      omega)
  have hl : vl.ownBlock = none ∨ vl.ownBlock ≠ vt.ownBlock := by
    cases hv : vl.ownBlock with
    | none => exact .inl rfl
    | some g =>
      refine .inr (fun e => ?_)
      have h1 := h.lbelow g hv
      have h2 := (h.todo.base_le g e.symm).1
      omega
  exact ⟨World.ownsRow.kept h.left hg hl, h.lbelow, ho, ⟨D, hD.kept hg hM (h.shuns.rowsOff (fun j hj => hj)), hf⟩, hs1.kept hg (Nat.lt_of_succ_lt h.top) hM, h.known.keeps (Keeps.ofGrown hg) (fun e => hM1 e), h.base, Nat.lt_of_lt_of_le h.top hg.size, h.keeps.grown hg (fun i hi hlt => by have := (h.todo.base_le i hi.symm).1; have := h.base; omega)⟩
/-- A number of left is written. -/
theorem St2.left_set {left' : List Int} (h : St2 w wr vl left M n1 f vt todo nk known) (hg : wr.grownBy w' vl.ownBlock) (ho : OwnInts w' w.heap.size .i64 3 vl left') : St2 w w' vl left' M n1 f vt todo nk known := by
  obtain ⟨D, hD, hf⟩ := h.has
  have hM : some M ≠ vl.ownBlock := fun e => by have := h.lbelow M e.symm; omega
  have ht : ∀ b, vt.ownBlock = some b → ¬ some b = vl.ownBlock := fun b hb e => by
    have h1 := h.lbelow b e.symm
    have h2 := (h.todo.base_le b hb).1
    omega
  exact ⟨ho, h.lbelow, h.todo.keeps (Keeps.ofGrown hg) ht, ⟨D, hD.kept hg hM (hD.rowsAbove (fun j hj => by have := h.lbelow j hj; omega)), hf⟩, h.shuns.kept hg (Nat.lt_of_succ_lt h.top) hM, h.known.keeps (Keeps.ofGrown hg) (fun e => by have := h.lbelow (M + 1) e.symm; omega), h.base, Nat.lt_of_lt_of_le h.top hg.size, h.keeps.grown hg (fun i hi hlt => by have := (h.left.base_le i hi.symm).1; omega)⟩
/-- A block more is known. -/
theorem St2.known_put {nk' : Nat} {known' : List Int} (h : St2 w wr vl left M n1 f vt todo nk known) (hg : wr.grownBy w' (some (M + 1))) (hs : SetAt w' (M + 1) nk' known') : St2 w w' vl left M n1 f vt todo nk' known' := by
  obtain ⟨D, hD, hf⟩ := h.has
  have hM : some M ≠ some (M + 1) := by simp
  have hrows : ∀ es clock, wr.heap[M]? = some (.map es clock) → ∀ x ∈ es.toList, x.val.ownBlock = none ∨ x.val.ownBlock ≠ some (M + 1) := fun es clock hb x hx => by
    obtain ⟨es', clock', hb', F, _⟩ := hD
    obtain ⟨rfl, rfl⟩ : es' = es ∧ clock' = clock := by rw [hb'] at hb; simpa using hb
    obtain ⟨y, hy⟩ := F.reads x hx
    obtain ⟨z, hz, _⟩ := rd_val hy
    obtain ⟨zs, hoi, _⟩ := rowElem_inv hz
    exact .inr (fun e => ne_own (q := .i64) (e := 3) (xs := zs) h.known hoi.1 e.symm)
  have hl : vl.ownBlock = none ∨ vl.ownBlock ≠ some (M + 1) := .inr (fun e => by have := h.lbelow _ e; omega)
  exact ⟨World.ownsRow.kept h.left hg hl, h.lbelow, h.todo.keeps (Keeps.ofGrown hg) (fun b hb e => tail_ne h.known h.todo (by rw [hb, e])), ⟨D, hD.kept hg hM hrows, hf⟩, h.shuns.kept hg (Nat.lt_of_succ_lt h.top) hM, hs, h.base, Nat.lt_of_lt_of_le h.top hg.size, h.keeps.grown hg (fun i hi hlt => by injection hi with hi; have := h.base; omega)⟩
end Go.Proofs.Ytkjaacpcnjakcaa
