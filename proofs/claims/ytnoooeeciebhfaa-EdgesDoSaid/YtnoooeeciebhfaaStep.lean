/- Steps of a region that draws its order: appends. No condition. -/
import Derived.Test.YtnoooeeciebhfaaRows2
import Derived.Deep.RegionHeld3
import Derived.Deep.AppendLies
import Derived.Deep.DrawnRows
set_option linter.unusedVariables false
namespace Go.Proofs.Ytnoooeeciebhfaa
open Go.RowKit

theorem step_appInts2 {P : Program} {w : World} {ops : Array Oper} {o : Oper} {a : Act} {K : Act → World → Prop} {Q : Exit → Act → World → Prop} {E : Prop} (hgd : o.guard = none) (s x : Operand) (t : TypeId)
    (ho : o.op = .call { callee := .builtin .append, args := #[s, x], argTypes := #[t, t] }) (base : Nat) (e : TypeId) (k : IntKind) (bytes : Nat) (ht : P.underlying t = some (.slice e))
    (hi : (P.info? e).map (fun i => (i.zero, i.size, i.bytes)) = some (some (.int k 0), 1, bytes)) (v : Value) (ys : List Int) (hs : a.eval s = v) (hown : OwnInts w base k e v ys) (A : Option Addr) (c : Nat) (xs : List Int)
    (hx : a.eval x = .slice A xs.length c) (hA : A = none → c = 0) (hat : IntsAt w k A xs) (hb : (ys.length + xs.length) * bytes ≤ 140737488355328) (hm : ys.length + xs.length ≤ 140737488355328) (hbase : base ≤ w.heap.size)
    (h : ∀ A' c' w', OwnInts w' base k e (.slice A' (ys ++ xs).length c') (ys ++ xs) → w.grownBy w' v.ownBlock → K (a.put o.dst (.slice A' (ys ++ xs).length c')) w') :
    if Region.wanted o (yielded ops a.tmps) = true then Oper.wp P o a w K Q else E := by
  have hw : Region.wanted o (yielded ops a.tmps) = true := by simp [Region.wanted, hgd]
  rw [if_pos hw]
  obtain ⟨i, i1, i2, i3, i4⟩ := info_parts hi
  cases A with
  | none =>
    have hn : xs = [] := by
      rcases Nat.eq_zero_or_pos xs.length with h0 | h0
      · exact List.length_eq_zero_iff.1 h0
      · obtain ⟨b, off, e, _⟩ := hat.get h0; cases e
    subst hn
    rw [hA rfl] at hx
    have hrun := run_append_owned_none (P := P) (w := w) base t o.type e i 1 ht i1 v ys.length _ hown
    unfold Oper.wp
    simp [execOp, ho, resolve, invoke, builtin, hs, hx, hrun, Result.andThen]
    obtain ⟨A', c', e', _⟩ := hown.reads
    have := h A' c' w (by rw [List.append_nil, ← e']; exact hown) ⟨rfl, rfl, rfl, Nat.le_refl _, fun _ _ _ => rfl⟩
    rw [List.append_nil, ← e'] at this
    exact this
  | some ad =>
    refine wp_append_own w s x t ho base e i (.int k 0) 1 bytes ht i1 i2 i3 i4 rfl (by decide) v ys.length (ys.map (Value.int k)) hs hown ad xs.length c (xs.map (Value.int k)) hx (by simp) ?_ (ints_oneCell k xs) (by unfold maxLen; omega) hb hbase ?_
    · intro j u hu
      rw [List.getElem?_map] at hu
      obtain ⟨y, hy, rfl⟩ := Option.map_eq_some_iff.1 hu
      obtain ⟨hj, hyj⟩ := List.getElem?_eq_some_iff.1 hy
      obtain ⟨b, off, e, hc⟩ := hat.get (by omega)
      cases e
      have := hc j hj
      rw [gi_eq xs j hj, hyj] at this
      unfold Addr.add
      split
      · rename_i e0; subst e0; simpa using this
      · exact this
    · intro v' w' h1 h2 h3
      have hO : OwnInts w' base k e v' (ys ++ xs) := by unfold OwnInts; simpa using h1
      obtain ⟨A', c', e', _⟩ := hO.reads
      subst e'
      exact h A' c' w' hO h2
theorem step_app1V2 {P : Program} {w : World} {ops : Array Oper} {o : Oper} {a : Act} {K : Act → World → Prop} {Q : Exit → Act → World → Prop} {E : Prop} (hgd : o.guard = none) (s x : Operand) (t : TypeId)
    (ho : o.op = .call { callee := .builtin .append, args := #[s, x], argTypes := #[t, t] }) (base : Nat) (e : TypeId) (z : Value) (bytes : Nat) (ht : P.underlying t = some (.slice e))
    (hi : (P.info? e).map (fun i => (i.zero, i.size, i.bytes)) = some (some z, 1, bytes)) (hz : z.cells.size = 1) (v : Value) (n : Nat) (xs : List Value) (hs : a.eval s = v) (hown : w.ownsRow base e 1 v n xs) (bx c : Nat) (y : Value) (hy : y.oneCell' = true)
    (hx : a.eval x = .slice (some ⟨bx, 0, none⟩) 1 c) (hcell : w.cell? ⟨bx, 0, none⟩ = some y) (hb : (n + 1) * bytes ≤ 140737488355328) (hm : n + 1 ≤ 140737488355328) (hbase : base ≤ w.heap.size)
    (h : ∀ g cap w', w'.ownsRow base e 1 (.slice (some ⟨g, 0, none⟩) (n + 1) cap) (n + 1) (xs ++ [y]) → w.grownBy w' v.ownBlock → (v.ownBlock = some g ∨ g = w.heap.size) → K (a.put o.dst (.slice (some ⟨g, 0, none⟩) (n + 1) cap)) w') :
    if Region.wanted o (yielded ops a.tmps) = true then Oper.wp P o a w K Q else E := by
  obtain ⟨i, i1, i2, i3, i4⟩ := info_parts hi
  refine step_append_lies (H := w.heap.size) (hH := rfl) (w := w) hgd s x t ho base e i z 1 bytes ht i1 i2 i3 i4 hz (by decide) v n xs hs hown ⟨bx, 0, none⟩ 1 c [y] hx rfl ?_ ?_ (by omega) (by unfold maxLen; omega) hb hbase ?_
  · intro j u hu
    cases j with
    | zero => simp at hu; subst hu; exact hcell
    | succ j => simp at hu
  · intro u hu; simp at hu; subst hu; exact hy
  · intro g cap w' h1 h2 h3 _
    exact h g cap w' h1 h2 h3
end Go.Proofs.Ytnoooeeciebhfaa
