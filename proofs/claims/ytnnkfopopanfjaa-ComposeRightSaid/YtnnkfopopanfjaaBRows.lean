/- Lists of lists of bytes, more of them. No condition. -/
import Derived.Test.YtnnkfopopanfjaaEqsOwn
set_option linter.unusedVariables false
namespace Go.Proofs.Ytnnkfopopanfjaa
open Go.RowKit

theorem gr_cat (ls ms : List (List UInt8)) (j : Nat) : gr (ls ++ ms) j = if j < ls.length then gr ls j else gr ms (j - ls.length) := by
  unfold gr
  rw [List.getD_eq_getElem?_getD, List.getD_eq_getElem?_getD, List.getD_eq_getElem?_getD]
  split
  · rename_i h; rw [List.getElem?_append_left h]
  · rename_i h; rw [List.getElem?_append_right (by omega)]
theorem RowIn.one {R : Nat → Prop} {w : World} {u : Value} {l : List UInt8} (h : RowIn R w u l) : u.oneCell' = true := by
  obtain ⟨A, c, rfl, _⟩ := h; rfl
/-- More of them. -/
theorem wp_appRowsB {w : World} {o : Oper} {a : Act} {K : Act → World → Prop} {Q : Exit → Act → World → Prop} (s x : Operand) (t : TypeId) (R : Nat → Prop)
    (ho : o.op = .call { callee := .builtin .append, args := #[s, x], argTypes := #[t, t] }) (base : Nat) (ht : Try.prog.underlying t = some (.slice 25)) (v : Value) (ls : List (List UInt8)) (hs : a.eval s = v) (h : OwnRows R w base v ls)
    (A : Option Addr) (c : Nat) (ms : List (List UInt8)) (news : List Value) (hx : a.eval x = .slice A ms.length c) (hA : A = none → c = 0 ∧ ms = []) (hl : news.length = ms.length) (hc : ∀ ad, A = some ad → ∀ (j : Nat) (u : Value), news[j]? = some u → w.cell? (ad.add j) = some u)
    (hin : ∀ (j : Nat) (u : Value), news[j]? = some u → RowIn (fun b => R b ∧ v.ownBlock ≠ some b) w u (gr ms j)) (hm : ls.length + ms.length ≤ 1000000000) (hbase : base ≤ w.heap.size)
    (hK : ∀ v' w', OwnRows R w' base v' (ls ++ ms) → w.grownBy w' v.ownBlock → (v'.ownBlock = v.ownBlock ∨ v'.ownBlock = some w.heap.size) → K (a.put o.dst v') w') : o.wp Try.prog a w K Q := by
  obtain ⟨i, i1, i2, i3, i4⟩ := info_parts info_bytes
  cases A with
  | none =>
    obtain ⟨rfl, rfl⟩ := hA rfl
    have hrun := run_append_owned_none (P := Try.prog) (w := w) base t o.type 25 i 1 ht i1 v ls.length _ h.choose_spec.2.1
    have := hK v w (by rw [List.append_nil]; exact h) ⟨rfl, rfl, rfl, Nat.le_refl _, fun _ _ _ => rfl⟩ (.inl rfl)
    unfold Oper.wp
    simp [execOp, ho, resolve, invoke, builtin, hs, hx, hrun, Result.andThen]
    exact this
  | some ad =>
    obtain ⟨us, hul, hown, hr⟩ := h
    refine wp_append_at s x t ho base 25 i (.slice none 0 0) 1 24 ht i1 i2 i3 i4 rfl (by decide) v ls.length us hs hown ad ms.length c news hx (by omega) (hc ad rfl) (fun u hu => ?_) (by unfold maxLen; omega) (by omega) hbase ?_
    · obtain ⟨j, hj, rfl⟩ := List.getElem_of_mem hu
      exact (hin j _ (List.getElem?_eq_getElem hj)).one
    · intro v' w' h1 h2 h4
      refine hK v' w' ⟨us ++ news, by simp [hul, hl], by rw [List.length_append]; exact h1, fun j u hu => ?_⟩ h2 h4
      have key : ∀ (y : Value) (l : List UInt8), RowIn (fun b => R b ∧ v.ownBlock ≠ some b) w y l → RowIn (fun b => R b ∧ v'.ownBlock ≠ some b) w' y l := fun y l hy => by
        have hlt : RowIn (fun b => (R b ∧ v.ownBlock ≠ some b) ∧ b < w.heap.size) w y l := hy.mono (fun b h1 h2 => ⟨h2, h1⟩)
        refine (hlt.keeps (Keeps.ofGrown h2) (fun b hb e => hb.1.2 e.symm)).mono (fun b _ hb => ⟨hb.1.1, fun e => ?_⟩)
        rcases h4 with h5 | h5
        · exact hb.1.2 (h5.symm.trans e)
        · have := h5.symm.trans e
          injection this with this
          have := hb.2
          omega
      rw [gr_cat]
      by_cases hj : j < us.length
      · rw [List.getElem?_append_left hj] at hu
        rw [if_pos (by omega)]
        exact key u _ (hr j u hu)
      · rw [List.getElem?_append_right (by omega)] at hu
        rw [if_neg (by omega), ← hul]
        exact key u _ (hin _ u hu)
theorem wpList_appRowsBA {w : World} {ops : Array Oper} {rest : List Oper} {o : Oper} {a : Act} {Q : Exit → Act → World → Prop} (hgd : o.guard = none) (s x : Operand) (t : TypeId) (R : Nat → Prop)
    (ho : o.op = .call { callee := .builtin .append, args := #[s, x], argTypes := #[t, t] }) (base : Nat) (ht : Try.prog.underlying t = some (.slice 25)) (v : Value) (ls : List (List UInt8)) (hs : a.eval s = v) (h : OwnRows R w base v ls)
    (A : Option Addr) (c : Nat) (ms : List (List UInt8)) (news : List Value) (hx : a.eval x = .slice A ms.length c) (hA : A = none → c = 0 ∧ ms = []) (hl : news.length = ms.length) (hc : ∀ ad, A = some ad → ∀ (j : Nat) (u : Value), news[j]? = some u → w.cell? (ad.add j) = some u)
    (hin : ∀ (j : Nat) (u : Value), news[j]? = some u → RowIn (fun b => R b ∧ v.ownBlock ≠ some b) w u (gr ms j)) (hm : ls.length + ms.length ≤ 1000000000) (hbase : base ≤ w.heap.size)
    (hK : ∀ v' w', OwnRows R w' base v' (ls ++ ms) → w.grownBy w' v.ownBlock → (v'.ownBlock = v.ownBlock ∨ v'.ownBlock = some w.heap.size) → wpList Try.prog ops Q rest (a.put o.dst v') w') : wpList Try.prog ops Q (o :: rest) a w :=
  wpList_plain hgd fun K hK' => wp_appRowsB s x t R ho base ht v ls hs h A c ms news hx hA hl hc hin hm hbase (fun v' w' h1 h2 h3 => hK' _ _ (hK v' w' h1 h2 h3))
theorem step_appRowsB {w : World} {ops : Array Oper} {o : Oper} {a : Act} {K : Act → World → Prop} {Q : Exit → Act → World → Prop} {E : Prop} (hgd : o.guard = none) (s x : Operand) (t : TypeId) (R : Nat → Prop)
    (ho : o.op = .call { callee := .builtin .append, args := #[s, x], argTypes := #[t, t] }) (base : Nat) (ht : Try.prog.underlying t = some (.slice 25)) (v : Value) (ls : List (List UInt8)) (hs : a.eval s = v) (h : OwnRows R w base v ls)
    (A : Option Addr) (c : Nat) (ms : List (List UInt8)) (news : List Value) (hx : a.eval x = .slice A ms.length c) (hA : A = none → c = 0 ∧ ms = []) (hl : news.length = ms.length) (hc : ∀ ad, A = some ad → ∀ (j : Nat) (u : Value), news[j]? = some u → w.cell? (ad.add j) = some u)
    (hin : ∀ (j : Nat) (u : Value), news[j]? = some u → RowIn (fun b => R b ∧ v.ownBlock ≠ some b) w u (gr ms j)) (hm : ls.length + ms.length ≤ 1000000000) (hbase : base ≤ w.heap.size)
    (hK : ∀ v' w', OwnRows R w' base v' (ls ++ ms) → w.grownBy w' v.ownBlock → (v'.ownBlock = v.ownBlock ∨ v'.ownBlock = some w.heap.size) → K (a.put o.dst v') w') : if Region.wanted o (yielded ops a.tmps) = true then Oper.wp Try.prog o a w K Q else E := by
  have hw : Region.wanted o (yielded ops a.tmps) = true := by simp [Region.wanted, hgd]
  rw [if_pos hw]
  exact wp_appRowsB s x t R ho base ht v ls hs h A c ms news hx hA hl hc hin hm hbase hK
theorem wpList_appRowsB {w : World} {ops : Array Oper} {rest : List Oper} {o : Oper} {a : Act} {Q : Exit → Act → World → Prop} (hgd : o.guard = none) (s x : Operand) (t : TypeId) (R : Nat → Prop)
    (ho : o.op = .call { callee := .builtin .append, args := #[s, x], argTypes := #[t, t] }) (base : Nat) (ht : Try.prog.underlying t = some (.slice 25)) (v : Value) (ls : List (List UInt8)) (hs : a.eval s = v) (h : OwnRows R w base v ls)
    (ad : Addr) (c : Nat) (ms : List (List UInt8)) (news : List Value) (hx : a.eval x = .slice (some ad) ms.length c) (hl : news.length = ms.length) (hc : ∀ (j : Nat) (u : Value), news[j]? = some u → w.cell? (ad.add j) = some u)
    (hin : ∀ (j : Nat) (u : Value), news[j]? = some u → RowIn (fun b => R b ∧ v.ownBlock ≠ some b) w u (gr ms j)) (hm : ls.length + ms.length ≤ 1000000000) (hbase : base ≤ w.heap.size)
    (hK : ∀ v' w', OwnRows R w' base v' (ls ++ ms) → w.grownBy w' v.ownBlock → (v'.ownBlock = v.ownBlock ∨ v'.ownBlock = some w.heap.size) → wpList Try.prog ops Q rest (a.put o.dst v') w') : wpList Try.prog ops Q (o :: rest) a w :=
  wpList_appRowsBA hgd s x t R ho base ht v ls hs h (some ad) c ms news hx (fun e => by cases e) hl (fun ad' e => by cases e; exact hc) hin hm hbase hK
/-- One more, just laid. -/
theorem wpList_app1RowB {w : World} {ops : Array Oper} {rest : List Oper} {o : Oper} {a : Act} {Q : Exit → Act → World → Prop} (hgd : o.guard = none) (s x : Operand) (t : TypeId) (R : Nat → Prop)
    (ho : o.op = .call { callee := .builtin .append, args := #[s, x], argTypes := #[t, t] }) (base : Nat) (ht : Try.prog.underlying t = some (.slice 25)) (v : Value) (ls : List (List UInt8)) (hs : a.eval s = v) (h : OwnRows R w base v ls)
    (bx c : Nat) (u : Value) (l : List UInt8) (hx : a.eval x = .slice (some ⟨bx, 0, none⟩) 1 c) (hc : w.cell? ⟨bx, 0, none⟩ = some u) (hin : RowIn (fun b => R b ∧ v.ownBlock ≠ some b) w u l) (hm : ls.length + 1 ≤ 1000000000) (hbase : base ≤ w.heap.size)
    (hK : ∀ v' w', OwnRows R w' base v' (ls ++ [l]) → w.grownBy w' v.ownBlock → (v'.ownBlock = v.ownBlock ∨ v'.ownBlock = some w.heap.size) → wpList Try.prog ops Q rest (a.put o.dst v') w') : wpList Try.prog ops Q (o :: rest) a w := by
  refine wpList_appRowsB hgd s x t R ho base ht v ls hs h ⟨bx, 0, none⟩ c [l] [u] hx rfl (fun j y hy => ?_) (fun j y hy => ?_) hm hbase hK
  · cases j with
    | zero => simp at hy; subst hy; exact hc
    | succ j => simp at hy
  · cases j with
    | zero => simp at hy; subst hy; exact hin
    | succ j => simp at hy
theorem add_plainB (b off j : Nat) : Addr.add ⟨b, off, none⟩ j = ⟨b, off + j, none⟩ := by
  unfold Addr.add
  split
  · rename_i e0; subst e0; rfl
  · rfl
/-- Lists that are read, cell by cell. -/
theorem RowsIn.cellsB {R : Nat → Prop} {w : World} {A : Option Addr} {ms : List (List UInt8)} (h : RowsIn R w A ms) : ∃ news : List Value, news.length = ms.length ∧ (∀ ad, A = some ad → ∀ (j : Nat) (u : Value), news[j]? = some u → w.cell? (ad.add j) = some u) ∧ ∀ (j : Nat) (u : Value), news[j]? = some u → RowIn R w u (gr ms j) := by
  rcases Nat.eq_zero_or_pos ms.length with h0 | h0
  · exact ⟨[], by simp [h0], fun _ _ j u hu => by simp at hu, fun j u hu => by simp at hu⟩
  · obtain ⟨b, off, rfl, _, hc⟩ := h.2 h0
    have f := fun j => Classical.choose_spec (show ∃ u : Value, j < ms.length → w.cell? ⟨b, off + j, none⟩ = some u ∧ RowIn R w u (gr ms j) from by
      by_cases hj : j < ms.length
      · obtain ⟨u, hu⟩ := hc j hj
        exact ⟨u, fun _ => hu⟩
      · exact ⟨undef, fun h => absurd h hj⟩)
    refine ⟨(List.range ms.length).map (fun j => Classical.choose (show ∃ u : Value, j < ms.length → w.cell? ⟨b, off + j, none⟩ = some u ∧ RowIn R w u (gr ms j) from by
      by_cases hj : j < ms.length
      · obtain ⟨u, hu⟩ := hc j hj
        exact ⟨u, fun _ => hu⟩
      · exact ⟨undef, fun h => absurd h hj⟩)), by simp, fun ad e j u hu => ?_, fun j u hu => ?_⟩
    · cases e
      rw [List.getElem?_map] at hu
      obtain ⟨i, hi, rfl⟩ := Option.map_eq_some_iff.1 hu
      obtain ⟨hj, rfl⟩ := List.getElem?_eq_some_iff.1 hi
      rw [List.getElem_range]
      have := (f j (by simpa using hj)).1
      rw [show (Addr.add ⟨b, off, none⟩ j) = ⟨b, off + j, none⟩ from add_plainB b off j]
      exact this
    · rw [List.getElem?_map] at hu
      obtain ⟨i, hi, rfl⟩ := Option.map_eq_some_iff.1 hu
      obtain ⟨hj, rfl⟩ := List.getElem?_eq_some_iff.1 hi
      rw [List.getElem_range]
      exact (f j (by simpa using hj)).2
theorem OwnRows.formB {R : Nat → Prop} {w : World} {base : Nat} {v : Value} {ls : List (List UInt8)} (h : OwnRows R w base v ls) (h0 : 0 < ls.length) : ∃ g c, v = .slice (some ⟨g, 0, none⟩) ls.length c := by
  obtain ⟨us, hl, hown, hr⟩ := h
  rcases hown.2 with ⟨_, h1⟩ | ⟨g, cap, cur, e, _⟩
  · omega
  · exact ⟨g, cap, e⟩
theorem OwnRows.lit1 {R : Nat → Prop} {w : World} {base : Nat} {u : Value} {l : List UInt8} (h : RowIn R w u l) (hR : ∀ b, R b → b < w.heap.size) (hb : base ≤ w.heap.size) : OwnRows R (w.alloc (.cells #[u] 25)) base (.slice (some ⟨w.heap.size, 0, none⟩) 1 1) [l] := by
  refine ⟨[u], rfl, ⟨rfl, .inr ⟨w.heap.size, 1, #[u], rfl, hb, heap_alloc_new w _, Nat.le_refl _, by unfold maxLen; omega, rfl, rfl⟩⟩, fun j y hy => ?_⟩
  cases j with
  | zero =>
    simp at hy
    subst hy
    exact (h.keeps ((Keeps.refl NoB w).alloc _) (fun _ _ h => h)).mono (fun b _ hb => ⟨hb, fun e => by have := hR b hb; simp [Value.ownBlock] at e; omega⟩)
  | succ j => simp at hy
end Go.Proofs.Ytnnkfopopanfjaa
