/- All equations, by the document: the walk of almonryref10.Equations. Conditions: numbers are of their kinds; parameters that may be. -/
import Derived.Test.YtnnkfopopanfjaaRef10Has
set_option linter.unusedVariables false
namespace Go.Proofs.Ytnnkfopopanfjaa
open Go.RowKit
attribute [local go_sem ↓] Go.wp_at_zero Go.wp_at_succ

/-- 'append(v, u)' of one cell of whatever kind, at a step of a region that draws its order. -/
theorem step_app1V {P : Program} {w : World} {ops : Array Oper} {o : Oper} {a : Act} {K : Act → World → Prop} {Q : Exit → Act → World → Prop} {E : Prop} (hgd : o.guard = none) (s x : Operand) (t : TypeId)
    (ho : o.op = .call { callee := .builtin .append, args := #[s, x], argTypes := #[t, t] }) (base : Nat) (e : TypeId) (z : Value) (bytes : Nat) (ht : P.underlying t = some (.slice e))
    (hi : (P.info? e).map (fun i => (i.zero, i.size, i.bytes)) = some (some z, 1, bytes)) (hz : z.cells.size = 1) (v : Value) (n : Nat) (xs : List Value) (hs : a.eval s = v) (hown : w.ownsRow base e 1 v n xs) (bx c : Nat) (y : Value) (hy : y.oneCell' = true)
    (hx : a.eval x = .slice (some ⟨bx, 0, none⟩) 1 c) (hcell : w.cell? ⟨bx, 0, none⟩ = some y) (hb : (n + 1) * bytes ≤ 140737488355328) (hm : n + 1 ≤ 140737488355328) (hbase : base ≤ w.heap.size)
    (h : ∀ g cap w', w'.ownsRow base e 1 (.slice (some ⟨g, 0, none⟩) (n + 1) cap) (n + 1) (xs ++ [y]) → w.grownBy w' v.ownBlock → (v.ownBlock = some g ∨ g = w.heap.size) → K (a.put o.dst (.slice (some ⟨g, 0, none⟩) (n + 1) cap)) w') :
    if Region.wanted o (yielded ops a.tmps) = true then Oper.wp P o a w K Q else E := by
  obtain ⟨i, i1, i2, i3, i4⟩ := info_parts hi
  refine step_append_lies (H := w.heap.size) (hH := rfl) (w := w) hgd s x t ho base e i z 1 bytes ht i1 i2 i3 i4 hz (by decide) v n xs hs hown ⟨bx, 0, none⟩ 1 c [y] hx rfl ?_ ?_ (by omega) (by unfold maxLen; omega) hb hbase ?_
  · intro j u hu
    cases j with
    | zero => simp at hu; subst hu; exact hcell
    | succ j => simp at hu
  · intro u hu; simp at hu; subst hu; exact hy
  · intro g cap w' h1 h2 h3 _
    exact h g cap w' h1 h2 h3
/-- The first k equations. -/
def eqsN (has : List (List Int)) (n : Int) (k : Nat) : List (List Int) := (List.range k).map (fun j : Nat => gl has j ++ [n + (j : Int)])
theorem eqsN_length (has : List (List Int)) (n : Int) (k : Nat) : (eqsN has n k).length = k := by simp [eqsN]
theorem eqsN_succ (has : List (List Int)) (n : Int) (k : Nat) : eqsN has n (k + 1) = eqsN has n k ++ [gl has k ++ [n + (k : Int)]] := by unfold eqsN; rw [List.range_succ, List.map_append]; rfl
theorem eqsN_gl (has : List (List Int)) (n : Int) (k j : Nat) (h : j < k) : gl (eqsN has n k) j = gl has j ++ [n + (j : Int)] := by
  rw [gl_eq _ _ (by rw [eqsN_length]; exact h)]; simp [eqsN]
/-- A row more in a row of rows that is the call's own. -/
theorem rows_snoc {w w1 : World} {B g j c : Nat} {us : List Value} {ls : List (List Int)} {u : Value} {l : List Int} {o : Obj} (ho : w.ownsRow B 76 1 (.slice (some ⟨g, 0, none⟩) j c) j us) (hall : OwnAll w B us ls) (hu : OwnInts w B .i64 3 u l)
    (hf : ∀ (k : Nat) (v : Value) (b : Nat), us[k]? = some v → v.ownBlock = some b → u.ownBlock ≠ some b) (hg : (w.alloc o).grownBy w1 (some g)) : OwnAll w1 B (us ++ [u]) (ls ++ [l]) := by
  obtain ⟨c0, hc⟩ := own_block ho g (by simp [Value.ownBlock])
  have hk : Keeps (fun k => some k = some g) w w1 := ((Keeps.refl NoB w).alloc o).trans (Keeps.ofGrown hg) (fun _ _ h => h.elim) (fun _ _ h => h)
  refine (hall.snoc hu hf).keeps hk (fun k v b hv hb e => ?_)
  cases e
  exact own_ne ((hall.snoc hu hf).own k v hv) hc (by decide) hb

end Go.Proofs.Ytnnkfopopanfjaa
