/- Lists of lists of numbers: the row that holds them is the call's own. No condition. -/
import Derived.Test.YtkjaacpcnjakcaaEqsOwn
set_option linter.unusedVariables false
namespace Go.Proofs.Ytkjaacpcnjakcaa
open Go.RowKit

theorem info_nums : (Try.prog.info? 27).map (fun i => (i.zero, i.size, i.bytes)) = some (some (.slice none 0 0), 1, 24) := by kernel_rfl
def OwnNRows (R : Nat → Prop) (w : World) (base : Nat) (v : Value) (ls : List (List Int)) : Prop :=
  ∃ us : List Value, us.length = ls.length ∧ w.ownsRow base 27 1 v ls.length us ∧ ∀ (j : Nat) (u : Value), us[j]? = some u → NumsIn (fun b => R b ∧ v.ownBlock ≠ some b) w u (gl ls j)
theorem OwnNRows.nil (R : Nat → Prop) (w : World) (base : Nat) : OwnNRows R w base (.slice none 0 0) [] := ⟨[], rfl, World.ownsRow_nil w base _ 1, fun j u hu => by simp at hu⟩
theorem OwnNRows.base_le {R : Nat → Prop} {w : World} {base : Nat} {v : Value} {ls : List (List Int)} (h : OwnNRows R w base v ls) (b : Nat) (hb : v.ownBlock = some b) : base ≤ b ∧ b < w.heap.size := by
  obtain ⟨us, hl, hown, hr⟩ := h
  exact World.ownsRow.lt hown b hb
theorem OwnNRows.keeps {R S : Nat → Prop} {w w1 : World} {base : Nat} {v : Value} {ls : List (List Int)} (h : OwnNRows R w base v ls) (hk : Keeps S w w1) (hR : ∀ b, R b → ¬ S b) (hv : ∀ b, v.ownBlock = some b → ¬ S b) : OwnNRows R w1 base v ls := by
  obtain ⟨us, hl, hown, hr⟩ := h
  exact ⟨us, hl, own_keeps hown hk hv, fun j u hu => (hr j u hu).keeps hk (fun b hb => hR b hb.1)⟩
theorem OwnNRows.kept {R : Nat → Prop} {w w1 : World} {base : Nat} {v : Value} {ls : List (List Int)} (h : OwnNRows R w base v ls) (hk : Keeps NoB w w1) : OwnNRows R w1 base v ls := h.keeps hk (fun _ _ h => h) (fun _ _ h => h)
theorem OwnNRows.mono {R R' : Nat → Prop} {w : World} {base : Nat} {v : Value} {ls : List (List Int)} (h : OwnNRows R w base v ls) (hr : ∀ b, b < w.heap.size → R b → R' b) : OwnNRows R' w base v ls := by
  obtain ⟨us, hl, hown, h3⟩ := h
  exact ⟨us, hl, hown, fun j u hu => (h3 j u hu).mono (fun b h1 h2 => ⟨hr b h1 h2.1, h2.2⟩)⟩
theorem NumsIn.rowAt {R : Nat → Prop} {w : World} {u : Value} {l : List Int} (h : NumsIn R w u l) : RowAt w u l := by
  obtain ⟨A, c, h1, h2, h3, h4⟩ := h
  exact ⟨A, c, h1, h2, h3, h4.1⟩
theorem OwnNRows.reads {R : Nat → Prop} {w : World} {base : Nat} {v : Value} {ls : List (List Int)} (h : OwnNRows R w base v ls) : ∃ A c, v = .slice A ls.length c ∧ ls.length ≤ c ∧ (A = none → c = 0) ∧ RowsAt w A ls := by
  obtain ⟨us, hl, hown, hr⟩ := h
  obtain ⟨A, c, rfl, h1, h2, h3⟩ := own_form hown
  refine ⟨A, c, rfl, h1, h2, h3, fun h0 => ?_⟩
  rcases hown.2 with ⟨e, h4⟩ | ⟨g, cap, cur, e, hb, hg, h5, h6, h7, h8⟩
  · omega
  · injection e with e1 e2 e3
    subst e1 e3
    refine ⟨g, 0, rfl, fun j hj => ?_⟩
    obtain ⟨u, hu⟩ : ∃ u, us[j]? = some u := ⟨us[j]'(by omega), List.getElem?_eq_getElem _⟩
    have hc := own_cell hown hu
    exact ⟨u, by rw [Nat.zero_add]; exact hc, (hr j u hu).rowAt⟩
theorem gl_append (ls ms : List (List Int)) (j : Nat) : gl (ls ++ ms) j = if j < ls.length then gl ls j else gl ms (j - ls.length) := by
  unfold gl
  rw [List.getD_eq_getElem?_getD, List.getD_eq_getElem?_getD, List.getD_eq_getElem?_getD]
  split
  · rename_i h; rw [List.getElem?_append_left h]
  · rename_i h; rw [List.getElem?_append_right (by omega)]
theorem NumsIn.one {R : Nat → Prop} {w : World} {u : Value} {l : List Int} (h : NumsIn R w u l) : u.oneCell' = true := by
  obtain ⟨A, c, rfl, _⟩ := h; rfl
/-- More of them. -/
theorem wp_appRows {w : World} {o : Oper} {a : Act} {K : Act → World → Prop} {Q : Exit → Act → World → Prop} (s x : Operand) (t : TypeId) (R : Nat → Prop)
    (ho : o.op = .call { callee := .builtin .append, args := #[s, x], argTypes := #[t, t] }) (base : Nat) (ht : Try.prog.underlying t = some (.slice 27)) (v : Value) (ls : List (List Int)) (hs : a.eval s = v) (h : OwnNRows R w base v ls)
    (A : Option Addr) (c : Nat) (ms : List (List Int)) (news : List Value) (hx : a.eval x = .slice A ms.length c) (hA : A = none → c = 0 ∧ ms = []) (hl : news.length = ms.length) (hc : ∀ ad, A = some ad → ∀ (j : Nat) (u : Value), news[j]? = some u → w.cell? (ad.add j) = some u)
    (hin : ∀ (j : Nat) (u : Value), news[j]? = some u → NumsIn (fun b => R b ∧ v.ownBlock ≠ some b) w u (gl ms j)) (hm : ls.length + ms.length ≤ 1000000000) (hbase : base ≤ w.heap.size)
    (hK : ∀ v' w', OwnNRows R w' base v' (ls ++ ms) → w.grownBy w' v.ownBlock → (v'.ownBlock = v.ownBlock ∨ v'.ownBlock = some w.heap.size) → K (a.put o.dst v') w') : o.wp Try.prog a w K Q := by
  obtain ⟨i, i1, i2, i3, i4⟩ := info_parts info_nums
  cases A with
  | none =>
    obtain ⟨rfl, rfl⟩ := hA rfl
    have hrun := run_append_owned_none (P := Try.prog) (w := w) base t o.type 27 i 1 ht i1 v ls.length _ h.choose_spec.2.1
    have := hK v w (by rw [List.append_nil]; exact h) ⟨rfl, rfl, rfl, Nat.le_refl _, fun _ _ _ => rfl⟩ (.inl rfl)
    unfold Oper.wp
    simp [execOp, ho, resolve, invoke, builtin, hs, hx, hrun, Result.andThen]
    exact this
  | some ad =>
    obtain ⟨us, hul, hown, hr⟩ := h
    refine wp_append_at s x t ho base 27 i (.slice none 0 0) 1 24 ht i1 i2 i3 i4 rfl (by decide) v ls.length us hs hown ad ms.length c news hx (by omega) (hc ad rfl) (fun u hu => ?_) (by unfold maxLen; omega) (by omega) hbase ?_
    · obtain ⟨j, hj, rfl⟩ := List.getElem_of_mem hu
      exact (hin j _ (List.getElem?_eq_getElem hj)).one
    · intro v' w' h1 h2 h4
      refine hK v' w' ⟨us ++ news, by simp [hul, hl], by rw [List.length_append]; exact h1, fun j u hu => ?_⟩ h2 h4
      have key : ∀ (y : Value) (l : List Int), NumsIn (fun b => R b ∧ v.ownBlock ≠ some b) w y l → NumsIn (fun b => R b ∧ v'.ownBlock ≠ some b) w' y l := fun y l hy => by
        have hlt : NumsIn (fun b => (R b ∧ v.ownBlock ≠ some b) ∧ b < w.heap.size) w y l := hy.mono (fun b h1 h2 => ⟨h2, h1⟩)
        refine (hlt.keeps (Keeps.ofGrown h2) (fun b hb e => hb.1.2 e.symm)).mono (fun b _ hb => ⟨hb.1.1, fun e => ?_⟩)
        rcases h4 with h5 | h5
        · exact hb.1.2 (h5.symm.trans e)
        · have := h5.symm.trans e
          injection this with this
          have := hb.2
          omega
      rw [gl_append]
      by_cases hj : j < us.length
      · rw [List.getElem?_append_left hj] at hu
        rw [if_pos (by omega)]
        exact key u _ (hr j u hu)
      · rw [List.getElem?_append_right (by omega)] at hu
        rw [if_neg (by omega), ← hul]
        exact key u _ (hin _ u hu)
theorem wpList_appRowsA {w : World} {ops : Array Oper} {rest : List Oper} {o : Oper} {a : Act} {Q : Exit → Act → World → Prop} (hgd : o.guard = none) (s x : Operand) (t : TypeId) (R : Nat → Prop)
    (ho : o.op = .call { callee := .builtin .append, args := #[s, x], argTypes := #[t, t] }) (base : Nat) (ht : Try.prog.underlying t = some (.slice 27)) (v : Value) (ls : List (List Int)) (hs : a.eval s = v) (h : OwnNRows R w base v ls)
    (A : Option Addr) (c : Nat) (ms : List (List Int)) (news : List Value) (hx : a.eval x = .slice A ms.length c) (hA : A = none → c = 0 ∧ ms = []) (hl : news.length = ms.length) (hc : ∀ ad, A = some ad → ∀ (j : Nat) (u : Value), news[j]? = some u → w.cell? (ad.add j) = some u)
    (hin : ∀ (j : Nat) (u : Value), news[j]? = some u → NumsIn (fun b => R b ∧ v.ownBlock ≠ some b) w u (gl ms j)) (hm : ls.length + ms.length ≤ 1000000000) (hbase : base ≤ w.heap.size)
    (hK : ∀ v' w', OwnNRows R w' base v' (ls ++ ms) → w.grownBy w' v.ownBlock → (v'.ownBlock = v.ownBlock ∨ v'.ownBlock = some w.heap.size) → wpList Try.prog ops Q rest (a.put o.dst v') w') : wpList Try.prog ops Q (o :: rest) a w :=
  wpList_plain hgd fun K hK' => wp_appRows s x t R ho base ht v ls hs h A c ms news hx hA hl hc hin hm hbase (fun v' w' h1 h2 h3 => hK' _ _ (hK v' w' h1 h2 h3))
theorem step_appRows {w : World} {ops : Array Oper} {o : Oper} {a : Act} {K : Act → World → Prop} {Q : Exit → Act → World → Prop} {E : Prop} (hgd : o.guard = none) (s x : Operand) (t : TypeId) (R : Nat → Prop)
    (ho : o.op = .call { callee := .builtin .append, args := #[s, x], argTypes := #[t, t] }) (base : Nat) (ht : Try.prog.underlying t = some (.slice 27)) (v : Value) (ls : List (List Int)) (hs : a.eval s = v) (h : OwnNRows R w base v ls)
    (A : Option Addr) (c : Nat) (ms : List (List Int)) (news : List Value) (hx : a.eval x = .slice A ms.length c) (hA : A = none → c = 0 ∧ ms = []) (hl : news.length = ms.length) (hc : ∀ ad, A = some ad → ∀ (j : Nat) (u : Value), news[j]? = some u → w.cell? (ad.add j) = some u)
    (hin : ∀ (j : Nat) (u : Value), news[j]? = some u → NumsIn (fun b => R b ∧ v.ownBlock ≠ some b) w u (gl ms j)) (hm : ls.length + ms.length ≤ 1000000000) (hbase : base ≤ w.heap.size)
    (hK : ∀ v' w', OwnNRows R w' base v' (ls ++ ms) → w.grownBy w' v.ownBlock → (v'.ownBlock = v.ownBlock ∨ v'.ownBlock = some w.heap.size) → K (a.put o.dst v') w') : if Region.wanted o (yielded ops a.tmps) = true then Oper.wp Try.prog o a w K Q else E := by
  have hw : Region.wanted o (yielded ops a.tmps) = true := by simp [Region.wanted, hgd]
  rw [if_pos hw]
  exact wp_appRows s x t R ho base ht v ls hs h A c ms news hx hA hl hc hin hm hbase hK
theorem wpList_appRows {w : World} {ops : Array Oper} {rest : List Oper} {o : Oper} {a : Act} {Q : Exit → Act → World → Prop} (hgd : o.guard = none) (s x : Operand) (t : TypeId) (R : Nat → Prop)
    (ho : o.op = .call { callee := .builtin .append, args := #[s, x], argTypes := #[t, t] }) (base : Nat) (ht : Try.prog.underlying t = some (.slice 27)) (v : Value) (ls : List (List Int)) (hs : a.eval s = v) (h : OwnNRows R w base v ls)
    (ad : Addr) (c : Nat) (ms : List (List Int)) (news : List Value) (hx : a.eval x = .slice (some ad) ms.length c) (hl : news.length = ms.length) (hc : ∀ (j : Nat) (u : Value), news[j]? = some u → w.cell? (ad.add j) = some u)
    (hin : ∀ (j : Nat) (u : Value), news[j]? = some u → NumsIn (fun b => R b ∧ v.ownBlock ≠ some b) w u (gl ms j)) (hm : ls.length + ms.length ≤ 1000000000) (hbase : base ≤ w.heap.size)
    (hK : ∀ v' w', OwnNRows R w' base v' (ls ++ ms) → w.grownBy w' v.ownBlock → (v'.ownBlock = v.ownBlock ∨ v'.ownBlock = some w.heap.size) → wpList Try.prog ops Q rest (a.put o.dst v') w') : wpList Try.prog ops Q (o :: rest) a w :=
  wpList_appRowsA hgd s x t R ho base ht v ls hs h (some ad) c ms news hx (fun e => by cases e) hl (fun ad' e => by cases e; exact hc) hin hm hbase hK
theorem add_plain (b off j : Nat) : Addr.add ⟨b, off, none⟩ j = ⟨b, off + j, none⟩ := by
  unfold Addr.add
  split
  · rename_i e0; subst e0; rfl
  · rfl
/-- Lists that are read, cell by cell. -/
theorem RowsAt.cells {w : World} {A : Option Addr} {ms : List (List Int)} (h : RowsAt w A ms) : ∃ news : List Value, news.length = ms.length ∧ (∀ ad, A = some ad → ∀ (j : Nat) (u : Value), news[j]? = some u → w.cell? (ad.add j) = some u) ∧ ∀ (j : Nat) (u : Value), news[j]? = some u → NumsIn (fun b => b < w.heap.size) w u (gl ms j) := by
  rcases Nat.eq_zero_or_pos ms.length with h0 | h0
  · exact ⟨[], by simp [h0], fun _ _ j u hu => by simp at hu, fun j u hu => by simp at hu⟩
  · obtain ⟨b, off, rfl, hc⟩ := h.2 h0
    have f := fun j => Classical.choose_spec (show ∃ u : Value, j < ms.length → w.cell? ⟨b, off + j, none⟩ = some u ∧ RowAt w u (gl ms j) from by
      by_cases hj : j < ms.length
      · obtain ⟨u, hu⟩ := hc j hj
        exact ⟨u, fun _ => hu⟩
      · exact ⟨undef, fun h => absurd h hj⟩)
    refine ⟨(List.range ms.length).map (fun j => Classical.choose (show ∃ u : Value, j < ms.length → w.cell? ⟨b, off + j, none⟩ = some u ∧ RowAt w u (gl ms j) from by
      by_cases hj : j < ms.length
      · obtain ⟨u, hu⟩ := hc j hj
        exact ⟨u, fun _ => hu⟩
      · exact ⟨undef, fun h => absurd h hj⟩)), by simp, fun ad e j u hu => ?_, fun j u hu => ?_⟩
    · cases e
      rw [List.getElem?_map] at hu
      obtain ⟨i, hi, rfl⟩ := Option.map_eq_some_iff.1 hu
      obtain ⟨hj, rfl⟩ := List.getElem?_eq_some_iff.1 hi
      rw [List.getElem_range]
      have := (f j (by simpa using hj)).1
      rw [show (Addr.add ⟨b, off, none⟩ j) = ⟨b, off + j, none⟩ from add_plain b off j]
      exact this
    · rw [List.getElem?_map] at hu
      obtain ⟨i, hi, rfl⟩ := Option.map_eq_some_iff.1 hu
      obtain ⟨hj, rfl⟩ := List.getElem?_eq_some_iff.1 hi
      rw [List.getElem_range]
      obtain ⟨A', c', h1, h2, h3, h4⟩ := (f j (by simpa using hj)).2
      exact ⟨A', c', h1, h2, h3, h4, h4.lt⟩
/-- One more, just laid. -/
theorem wpList_app1Row {w : World} {ops : Array Oper} {rest : List Oper} {o : Oper} {a : Act} {Q : Exit → Act → World → Prop} (hgd : o.guard = none) (s x : Operand) (t : TypeId) (R : Nat → Prop)
    (ho : o.op = .call { callee := .builtin .append, args := #[s, x], argTypes := #[t, t] }) (base : Nat) (ht : Try.prog.underlying t = some (.slice 27)) (v : Value) (ls : List (List Int)) (hs : a.eval s = v) (h : OwnNRows R w base v ls)
    (bx c : Nat) (u : Value) (l : List Int) (hx : a.eval x = .slice (some ⟨bx, 0, none⟩) 1 c) (hc : w.cell? ⟨bx, 0, none⟩ = some u) (hin : NumsIn (fun b => R b ∧ v.ownBlock ≠ some b) w u l) (hm : ls.length + 1 ≤ 1000000000) (hbase : base ≤ w.heap.size)
    (hK : ∀ v' w', OwnNRows R w' base v' (ls ++ [l]) → w.grownBy w' v.ownBlock → (v'.ownBlock = v.ownBlock ∨ v'.ownBlock = some w.heap.size) → wpList Try.prog ops Q rest (a.put o.dst v') w') : wpList Try.prog ops Q (o :: rest) a w := by
  refine wpList_appRows hgd s x t R ho base ht v ls hs h ⟨bx, 0, none⟩ c [l] [u] hx rfl (fun j y hy => ?_) (fun j y hy => ?_) hm hbase hK
  · cases j with
    | zero => simp at hy; subst hy; exact hc
    | succ j => simp at hy
  · cases j with
    | zero => simp at hy; subst hy; exact hin
    | succ j => simp at hy
end Go.Proofs.Ytkjaacpcnjakcaa
