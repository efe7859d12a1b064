/- An equation more, behind a guard. No condition. -/
import Derived.Test.YtkjaacpcnjakcaaEqsOwn
set_option linter.unusedVariables false
namespace Go.Proofs.Ytkjaacpcnjakcaa
open Go.RowKit

/-- The same, the operation behind a guard. -/
theorem wpList_app1EqG {w : World} {ops : Array Oper} {rest : List Oper} {o : Oper} {a : Act} {Q : Exit → Act → World → Prop} (hgd : Region.wanted o (yielded ops a.tmps) = true) (s x : Operand) (t : TypeId)
    (ho : o.op = .call { callee := .builtin .append, args := #[s, x], argTypes := #[t, t] }) (base : Nat) (ht : Try.prog.underlying t = some (.slice 69)) (v : Value) (es : List EqV) (hs : a.eval s = v) (hown : OwnEqs (fun _ => True) w base v es) (bx c : Nat) (u1 u2 : Value) (e : EqV)
    (hx : a.eval x = .slice (some ⟨bx, 0, none⟩) 1 c) (hc1 : w.cell? ⟨bx, 0, none⟩ = some u1) (hc2 : w.cell? ⟨bx, 1, none⟩ = some u2) (hp : PairIn (fun b => v.ownBlock ≠ some b) w u1 u2 e) (n : Nat) (hn : es.length = n) (hb : n + 1 ≤ 1073741824) (hbase : base ≤ w.heap.size)
    (h : ∀ A' c' w', OwnEqs (fun _ => True) w' base (.slice A' (n + 1) c') (es ++ [e]) → w.grownBy w' v.ownBlock → (∀ i, some i = v.ownBlock → base ≤ i) → wpList Try.prog ops Q rest (a.put o.dst (.slice A' (n + 1) c')) w') : wpList Try.prog ops Q (o :: rest) a w := by
  subst hn
  obtain ⟨i, i1, i2, i3, i4⟩ := info_parts info_eqn
  have hlo : ∀ i, some i = v.ownBlock → base ≤ i := fun i e => (hown.base_le i e.symm).1
  obtain ⟨us, hus, hpp⟩ := hown
  have hones := hp.ones
  refine wpList_step fun K hK => ?_
  rw [if_pos hgd]
  refine wp_append_at s x t ho base 69 i _ 2 48 ht i1 i2 i3 i4 rfl (by decide) v es.length us hs hus ⟨bx, 0, none⟩ 1 c [u1, u2] hx rfl (fun j u hj => ?_) (fun u hu => ?_) (by unfold maxLen; omega) (by omega) hbase ?_
  · match j, hj with
    | 0, hj => simp at hj; subst hj; exact hc1
    | 1, hj => simp at hj; subst hj; exact hc2
  · rcases List.mem_cons.1 hu with e1 | hu
    · rw [e1]; exact hones.1
    · rw [List.mem_singleton.1 hu]; exact hones.2
  · intro v' w' h1 h2 hat
    obtain ⟨A', c', e', _⟩ : ∃ A' c', v' = .slice A' (es.length + 1) c' ∧ True := by
      rcases h1.2 with ⟨rfl, h0⟩ | ⟨g, cap, cur, rfl, _⟩
      · omega
      · exact ⟨_, cap, rfl, trivial⟩
    subst e'
    refine hK _ _ (h A' c' w' ⟨us ++ [u1, u2], by rw [List.length_append]; exact h1, ?_⟩ h2 hlo)
    have key : ∀ (vs : List Value) (fs : List EqV), PairsIn (fun b => v.ownBlock ≠ some b) w vs fs → PairsIn (fun b => True ∧ (Value.slice A' (es.length + 1) c').ownBlock ≠ some b) w' vs fs := fun vs fs hv => by
      have h5 : PairsIn (fun b => v.ownBlock ≠ some b ∧ b < w.heap.size) w vs fs := hv.mono (fun b h1 h2 => ⟨h2, h1⟩)
      refine (h5.keeps (Keeps.ofGrown h2) (fun b hb e => hb.1 e.symm)).mono (fun b _ hb => ⟨trivial, fun e => ?_⟩)
      rcases hat with h6 | h6
      · exact hb.1 (by rw [← h6]; exact e)
      · have e7 := e.symm.trans h6
        injection e7 with e7
        have := hb.2
        omega
    exact (key us es (hpp.mono (fun b _ hb => hb.2))).append (key [u1, u2] [e] (PairsIn.one hp))
/-- The same, what they are made of in blocks of some. -/
theorem wpList_app1EqR {R : Nat → Prop} {w : World} {ops : Array Oper} {rest : List Oper} {o : Oper} {a : Act} {Q : Exit → Act → World → Prop} (hgd : o.guard = none) (s x : Operand) (t : TypeId)
    (ho : o.op = .call { callee := .builtin .append, args := #[s, x], argTypes := #[t, t] }) (base : Nat) (ht : Try.prog.underlying t = some (.slice 69)) (v : Value) (es : List EqV) (hs : a.eval s = v) (hown : OwnEqs R w base v es) (bx c : Nat) (u1 u2 : Value) (e : EqV)
    (hx : a.eval x = .slice (some ⟨bx, 0, none⟩) 1 c) (hc1 : w.cell? ⟨bx, 0, none⟩ = some u1) (hc2 : w.cell? ⟨bx, 1, none⟩ = some u2) (hp : PairIn (fun b => R b ∧ v.ownBlock ≠ some b) w u1 u2 e) (n : Nat) (hn : es.length = n) (hb : n + 1 ≤ 1073741824) (hbase : base ≤ w.heap.size)
    (h : ∀ A' c' w', OwnEqs R w' base (.slice A' (n + 1) c') (es ++ [e]) → w.grownBy w' v.ownBlock → ((Value.slice A' (n + 1) c').ownBlock = v.ownBlock ∨ (Value.slice A' (n + 1) c').ownBlock = some w.heap.size) → wpList Try.prog ops Q rest (a.put o.dst (.slice A' (n + 1) c')) w') : wpList Try.prog ops Q (o :: rest) a w := by
  subst hn
  obtain ⟨i, i1, i2, i3, i4⟩ := info_parts info_eqn
  obtain ⟨us, hus, hpp⟩ := hown
  have hones := hp.ones
  refine wpList_plain hgd fun K hK => wp_append_at s x t ho base 69 i _ 2 48 ht i1 i2 i3 i4 rfl (by decide) v es.length us hs hus ⟨bx, 0, none⟩ 1 c [u1, u2] hx rfl (fun j u hj => ?_) (fun u hu => ?_) (by unfold maxLen; omega) (by omega) hbase ?_
  · match j, hj with
    | 0, hj => simp at hj; subst hj; exact hc1
    | 1, hj => simp at hj; subst hj; exact hc2
  · rcases List.mem_cons.1 hu with e1 | hu
    · rw [e1]; exact hones.1
    · rw [List.mem_singleton.1 hu]; exact hones.2
  · intro v' w' h1 h2 hat
    obtain ⟨A', c', e', _⟩ : ∃ A' c', v' = .slice A' (es.length + 1) c' ∧ True := by
      rcases h1.2 with ⟨rfl, h0⟩ | ⟨g, cap, cur, rfl, _⟩
      · omega
      · exact ⟨_, cap, rfl, trivial⟩
    subst e'
    refine hK _ _ (h A' c' w' ⟨us ++ [u1, u2], by rw [List.length_append]; exact h1, ?_⟩ h2 hat)
    have key : ∀ (vs : List Value) (fs : List EqV), PairsIn (fun b => R b ∧ v.ownBlock ≠ some b) w vs fs → PairsIn (fun b => R b ∧ (Value.slice A' (es.length + 1) c').ownBlock ≠ some b) w' vs fs := fun vs fs hv => by
      have h5 : PairsIn (fun b => (R b ∧ v.ownBlock ≠ some b) ∧ b < w.heap.size) w vs fs := hv.mono (fun b h1 h2 => ⟨h2, h1⟩)
      refine (h5.keeps (Keeps.ofGrown h2) (fun b hb e => hb.1.2 e.symm)).mono (fun b _ hb => ⟨hb.1.1, fun e => ?_⟩)
      rcases hat with h6 | h6
      · exact hb.1.2 (by rw [← h6]; exact e)
      · have e7 := e.symm.trans h6
        injection e7 with e7
        have := hb.2
        omega
    exact (key us es hpp).append (key [u1, u2] [e] (PairsIn.one hp))
/-- Rows of unlike elements lie in two blocks. -/
theorem own_apart2 {w : World} {base base' : Nat} {e e' : TypeId} {s s' : Nat} {v v' : Value} {n n' : Nat} {xs xs' : List Value} (h : w.ownsRow base e s v n xs) (h' : w.ownsRow base' e' s' v' n' xs') (he : e ≠ e') : ∀ b, v.ownBlock = some b → v'.ownBlock ≠ some b := by
  intro b hb hb'
  obtain ⟨c1, h1⟩ := own_block h b hb
  obtain ⟨c2, h2⟩ := own_block h' b hb'
  rw [h1] at h2
  injection h2 with h2
  injection h2 with _ h2
  exact he h2
end Go.Proofs.Ytkjaacpcnjakcaa
