/- A slice that begins within a row that the call owns (a queue). No condition. -/
import Derived.Test.YtkjaacpcnjakcaaLib
import Derived.ArgAppend
set_option linter.unusedVariables false
namespace Go.Proofs.Ytkjaacpcnjakcaa
open Go.RowKit

def OwnTail (w : World) (base : Nat) (v : Value) (xs : List Int) : Prop :=
  (v = .slice none 0 0 ∧ xs = []) ∨ ∃ g p cap cur, v = .slice (some ⟨g, p, none⟩) xs.length cap ∧ base ≤ g ∧ w.heap[g]? = some (.cells cur 3) ∧ xs.length ≤ cap ∧ p + cap ≤ cur.size ∧ cap ≤ maxLen ∧ (cur.toList.drop p).take xs.length = xs.map (Value.int .i64)
theorem OwnTail.of {w : World} {base : Nat} {v : Value} {xs : List Int} (h : OwnInts w base .i64 3 v xs) : OwnTail w base v xs := by
  rcases h.2 with ⟨rfl, h0⟩ | ⟨g, cap, cur, rfl, hb, hg, h1, h2, h3, h4⟩
  · exact .inl ⟨rfl, List.length_eq_zero_iff.1 h0⟩
  · exact .inr ⟨g, 0, cap, cur, rfl, hb, hg, h1, by omega, h2, by simpa using h4⟩
theorem OwnTail.keeps {w w1 : World} {base : Nat} {v : Value} {xs : List Int} (h : OwnTail w base v xs) {S : Nat → Prop} (hk : Keeps S w w1) (hn : ∀ b, v.ownBlock = some b → ¬ S b) : OwnTail w1 base v xs := by
  rcases h with h | ⟨g, p, cap, cur, rfl, hb, hg, h1⟩
  · exact .inl h
  · exact .inr ⟨g, p, cap, cur, rfl, hb, hk.heap hg (hn g rfl), h1⟩
theorem OwnTail.base_le {w : World} {base : Nat} {v : Value} {xs : List Int} (h : OwnTail w base v xs) (b : Nat) (hb : v.ownBlock = some b) : base ≤ b ∧ b < w.heap.size := by
  rcases h with ⟨rfl, _⟩ | ⟨g, p, cap, cur, rfl, hg, hh, h1⟩
  · cases hb
  · have e : g = b := by simpa [Value.ownBlock] using hb
    subst e
    exact ⟨hg, (Array.getElem?_eq_some_iff.1 hh).1⟩
theorem OwnTail.lower {w : World} {base base' : Nat} {v : Value} {xs : List Int} (h : OwnTail w base v xs) (hb : base' ≤ base) : OwnTail w base' v xs := by
  rcases h with h | ⟨g, p, cap, cur, rfl, hg, r⟩
  · exact .inl h
  · exact .inr ⟨g, p, cap, cur, rfl, Nat.le_trans hb hg, r⟩
theorem OwnTail.front {w : World} {base g p n cap : Nat} {xs : List Int} (h : OwnTail w base (.slice (some ⟨g, p, none⟩) n cap) xs) {j : Nat} (hj : j < xs.length) : w.cell? ⟨g, p + j, none⟩ = some (.int .i64 (gi xs j)) := by
  rcases h with ⟨h, _⟩ | ⟨g', p', cap', cur, e, hb, hg, h1, h2, h3, h4⟩
  · cases h
  · injection e with e1 e2 e3
    injection e1 with e1
    injection e1 with e1 e4 _
    subst e1 e4 e2 e3
    have h5 := congrArg (fun l => l[j]?) h4
    simp only [List.getElem?_take, List.getElem?_drop, List.getElem?_map] at h5
    rw [if_pos hj] at h5
    unfold World.cell?
    simp [hg]
    simpa [gi, hj] using h5
/-- How it looks; and what is read of it. -/
theorem OwnTail.reads {w : World} {base : Nat} {v : Value} {xs : List Int} (h : OwnTail w base v xs) : ∃ A c, v = .slice A xs.length c ∧ xs.length ≤ c ∧ IntsAt w .i64 A xs := by
  rcases h with ⟨rfl, rfl⟩ | ⟨g, p, cap, cur, rfl, hb, hg, h1, h2, h3, h4⟩
  · exact ⟨none, 0, rfl, Nat.le_refl _, by simp, by simp⟩
  · exact ⟨_, _, rfl, h1, by unfold maxLen at h3; omega, fun _ => ⟨g, p, rfl, fun j hj => OwnTail.front (base := base) (n := xs.length) (cap := cap) (.inr ⟨g, p, cap, cur, rfl, hb, hg, h1, h2, h3, h4⟩) hj⟩⟩
theorem OwnTail.pop {w : World} {base g p n cap : Nat} {x : Int} {xs : List Int} (h : OwnTail w base (.slice (some ⟨g, p, none⟩) n cap) (x :: xs)) : OwnTail w base (.slice (if cap = 1 then some ⟨g, p, none⟩ else some ⟨g, p + 1, none⟩) (n - 1) (cap - 1)) xs := by
  rcases h with ⟨h, _⟩ | ⟨g', p', cap', cur, e, hb, hg, h1, h2, h3, h4⟩
  · cases h
  · injection e with e1 e2 e3
    injection e1 with e1
    injection e1 with e1 e4 _
    subst e1 e4 e2 e3
    simp only [List.length_cons] at h1 h4
    split
    · rename_i e
      subst e
      obtain rfl : xs = [] := List.length_eq_zero_iff.1 (by omega)
      exact .inr ⟨g, p, 0, cur, by simp, hb, hg, by simp, by omega, by omega, by simp⟩
    · refine .inr ⟨g, p + 1, cap - 1, cur, by simp, hb, hg, by omega, by omega, by omega, ?_⟩
      have h5 : ((cur.toList.drop p).take (xs.length + 1)).drop 1 = ((x :: xs).map (Value.int .i64)).drop 1 := by rw [h4]
      rw [List.drop_take, List.drop_drop] at h5
      simpa using h5
/-- 'q[1:]'. -/
theorem wpList_tail {P : Program} (w : World) {ops : Array Oper} {rest : List Oper} {o : Oper} {a : Act} {Q : Exit → Act → World → Prop} (hgd : o.guard = none) (s : Operand) (t : TypeId)
    (ho : o.op = .slice t s (some (.const (.int .i64 1))) none none) (ht : P.underlying t = some (.slice 3)) (hsz : ∀ w, (sizeOf 3).run P w = .ok 1 w) (base g p n cap : Nat) (x : Int) (xs : List Int)
    (hs : a.eval s = .slice (some ⟨g, p, none⟩) n cap) (h : OwnTail w base (.slice (some ⟨g, p, none⟩) n cap) (x :: xs))
    (hK : ∀ v', OwnTail w base v' xs → v'.ownBlock = some g → wpList P ops Q rest (a.put o.dst v') w) : wpList P ops Q (o :: rest) a w := by
  refine wpList_plain hgd fun K hK' => ?_
  have hl : n = xs.length + 1 ∧ xs.length + 1 ≤ cap := by
    rcases h with ⟨h, _⟩ | ⟨g', p', cap', cur, e, hb, hg, h1, h2, h3, h4⟩
    · cases h
    · injection e with e1 e2 e3
      subst e2 e3
      exact ⟨by simp, by simpa using h1⟩
  obtain ⟨rfl, hc⟩ := hl
  have hp := h.pop
  have hrun : (Instr.slice t (.slice (some ⟨g, p, none⟩) (xs.length + 1) cap) (some (.int .i64 1)) none none).run P w = .ok (.slice (if cap = 1 then some ⟨g, p, none⟩ else some ⟨g, p + 1, none⟩) (xs.length + 1 - 1) (cap - 1)) w := by
    have h1 : (1 : Int) ≤ (xs.length : Int) + 1 := by omega
    by_cases e : cap = 1
    · subst e; simp [go_sem, sliced, h1, hsz, run_slice_any, ht]
    · simp [go_sem, sliced, h1, hsz, run_slice_any, ht, e]
  have h0 : (Instr.sliceAt t (.slice (some ⟨g, p, none⟩) (xs.length + 1) cap) (some (.int .i64 1)) none none).run P w = .ok (.slice (if cap = 1 then some ⟨g, p, none⟩ else some ⟨g, p + 1, none⟩) (xs.length + 1 - 1) (cap - 1)) w := by
    rw [← hrun]; simp [Instr.sliceAt, run_underlying ht]
  unfold Oper.wp
  have hc1 : a.eval (.const (.int .i64 1)) = .int .i64 1 := rfl
  simp only [execOp, ho, hs, Option.map_some, Option.map_none, hc1, Sem.run_bind, h0, Result.andThen_ok, Sem.run_pure]
  exact hK' _ _ (hK _ hp (by split <;> rfl))
/-- 'append(q, y)'. -/
theorem wpList_tail_app {P : Program} (w : World) {ops : Array Oper} {rest : List Oper} {o : Oper} {a : Act} {Q : Exit → Act → World → Prop} (hgd : o.guard = none) (s x : Operand) (t : TypeId)
    (ho : o.op = .call { callee := .builtin .append, args := #[s, x], argTypes := #[t, t] }) (base : Nat) (ht : P.underlying t = some (.slice 3))
    (hi : (P.info? 3).map (fun i => (i.zero, i.size, i.bytes)) = some (some (.int .i64 0), 1, 8)) (v : Value) (xs : List Int) (hs : a.eval s = v) (hown : OwnTail w base v xs) (bx c : Nat) (y : Int)
    (hx : a.eval x = .slice (some ⟨bx, 0, none⟩) 1 c) (hcell : w.cell? ⟨bx, 0, none⟩ = some (.int .i64 y)) (hm : xs.length + 1 ≤ 1000000000) (hbase : base ≤ w.heap.size)
    (h : ∀ v' w', OwnTail w' base v' (xs ++ [y]) → w.grownBy w' v.ownBlock → (v'.ownBlock = v.ownBlock ∨ ∃ g, v'.ownBlock = some g ∧ w.heap.size ≤ g) → wpList P ops Q rest (a.put o.dst v') w') : wpList P ops Q (o :: rest) a w := by
  obtain ⟨i, i1, i2, i3, i4⟩ := info_parts hi
  have hnew : ∀ j u, [Value.int .i64 y][j]? = some u → w.cell? (Addr.add ⟨bx, 0, none⟩ j) = some u := by
    intro j u hu
    cases j with
    | zero => simp at hu; subst hu; exact hcell
    | succ j => simp at hu
  have h1c : ∀ u ∈ [Value.int .i64 y], u.oneCell' = true := by intro u hu; simp at hu; subst hu; rfl
  rcases hown with ⟨rfl, rfl⟩ | ⟨g, p, cap, cur, rfl, hb, hg, h1, h2, h3, h4⟩
  · refine wpList_append_grows w hgd s x t ho 3 i (.int .i64 0) 1 8 ht i1 i2 i3 i4 rfl (by decide) none 0 0 [] hs (fun _ => ⟨rfl, rfl⟩) rfl (by simp) ⟨bx, 0, none⟩ 1 c [.int .i64 y] hx rfl hnew h1c (by omega) (by unfold maxLen; omega) (by omega) ?_
    intro v' w' h1 h2
    have ho : OwnInts w' w.heap.size .i64 3 v' [y] := h1
    refine h v' w' ((OwnTail.of ho).lower hbase) h2 ?_
    rcases h1.2 with ⟨_, h0⟩ | ⟨g, cap, cur, rfl, hgb, _⟩
    · cases h0
    · exact .inr ⟨g, rfl, hgb⟩
  · refine wpList_append_arg w hgd s x t ho 3 i (.int .i64 0) 1 8 ht i1 i2 i3 i4 rfl (by decide) g p xs.length cap (xs.map (Value.int .i64)) hs (by simp) ?_ ⟨bx, 0, none⟩ 1 c [.int .i64 y] hx rfl hnew h1c ?_ (by unfold maxLen; omega) (by omega) ?_ ?_
    · intro j u hu
      have hj : j < xs.length := by
        have := (List.getElem?_eq_some_iff.1 hu).1
        simpa using this
      rw [OwnTail.front (base := base) (n := xs.length) (cap := cap) (.inr ⟨g, p, cap, cur, rfl, hb, hg, h1, h2, h3, h4⟩) hj]
      rw [← hu]; simp [gi, hj]
    · intro hr j hj
      obtain rfl : j = 0 := by simpa using hj
      have : p + xs.length < cur.size := by omega
      simp [World.cell?, World.frozen?, hg, this]
    · intro hr
      have hlt : p + xs.length < cur.size := by omega
      refine h _ _ (.inr ⟨g, p, cap, cur.setIfInBounds (p + xs.length) (.int .i64 y), by simp, hb, ?_, by simpa using hr, by simpa using h2, h3, ?_⟩) ?_ (.inl rfl)
      · show (w.heap.modify g _)[g]? = _
        rw [Array.getElem?_modify, if_pos rfl, hg]; simp
      · rw [Array.toList_setIfInBounds, List.length_append, List.map_append, ← h4]
        apply List.ext_getElem?
        intro j
        have h5 := congrArg (fun l => l[j]?) h4
        simp only [List.getElem?_take, List.getElem?_drop] at h5
        simp only [List.getElem?_take, List.getElem?_drop, List.length_singleton, List.getElem?_set]
        by_cases hj : j < xs.length
        · rw [if_pos (by omega), if_neg (by omega), List.getElem?_append_left (by simp; omega), List.getElem?_take, if_pos hj, List.getElem?_drop]
        · by_cases hj2 : j = xs.length
          · subst hj2
            rw [if_pos (by omega), if_pos rfl, if_pos (by simpa using hlt), List.getElem?_append_right (by simp; omega)]
            have e0 : min xs.length (cur.size - p) = xs.length := by omega
            simp [e0]
          · rw [if_neg (by omega), List.getElem?_eq_none (by simp only [List.length_append, List.length_take, List.length_drop, Array.length_toList, List.length_map, List.length_cons, List.length_nil]; omega)]
      · have := Keeps.one w g (p + xs.length * 1) (.int .i64 y)
        exact ⟨this.os, this.tape, this.output, this.size, fun i hi hne => this.block i hi (fun e => hne (by rw [e]; rfl))⟩
    · intro hr v' w' h1 h2
      have ho : OwnInts w' w.heap.size .i64 3 v' (xs ++ [y]) := by unfold OwnInts; simpa using h1
      refine h v' w' ((OwnTail.of ho).lower hbase) ⟨h2.os, h2.tape, h2.output, h2.size, fun i hi _ => h2.block i hi (by simp)⟩ ?_
      rcases h1.2 with ⟨_, h0⟩ | ⟨g, cap, cur, rfl, hgb, _⟩
      · omega
      · exact .inr ⟨g, rfl, hgb⟩
end Go.Proofs.Ytkjaacpcnjakcaa
