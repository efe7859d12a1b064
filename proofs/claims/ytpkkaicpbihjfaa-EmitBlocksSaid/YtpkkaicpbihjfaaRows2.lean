/- Rows of rows of the call's own: lists that are written, each in a row of its own. No program's walk; no condition. -/
import Derived.Test.YtpkkaicpbihjfaaRef
import Derived.Laws.AppendOwnNone
import Derived.Deep.AppendLies
set_option linter.unusedVariables false
namespace Go.Proofs.Ytpkkaicpbihjfaa
open Go.RowKit

/-- The list at a place; none behind it. -/
def gl (ls : List (List Int)) (j : Nat) : List Int := ls.getD j []
theorem gl_eq (ls : List (List Int)) (j : Nat) (h : j < ls.length) : gl ls j = ls[j] := by simp [gl, h]
theorem gl_set (ls : List (List Int)) (j k : Nat) (l : List Int) : gl (ls.set j l) k = if k = j ∧ j < ls.length then l else gl ls k := by
  unfold gl
  rw [List.getD_eq_getElem?_getD, List.getD_eq_getElem?_getD, List.getElem?_set]
  by_cases h : j = k
  · subst h
    by_cases h2 : j < ls.length
    · simp [h2]
    · simp [h2]
  · rw [if_neg h, if_neg (fun e => h e.1.symm)]
theorem gl_snoc (ls : List (List Int)) (l : List Int) (k : Nat) : gl (ls ++ [l]) k = if k = ls.length then l else gl ls k := by
  unfold gl
  rw [List.getD_eq_getElem?_getD, List.getD_eq_getElem?_getD, List.getElem?_append]
  by_cases h : k < ls.length
  · rw [if_pos h, if_neg (by omega)]
  · rw [if_neg h]
    by_cases h2 : k = ls.length
    · subst h2; simp
    · rw [if_neg h2, List.getElem?_eq_none (by simp; omega), List.getElem?_eq_none (by omega)]

theorem own_block {w : World} {base : Nat} {e : TypeId} {size n : Nat} {v : Value} {xs : List Value} (h : w.ownsRow base e size v n xs) (k : Nat) (hk : v.ownBlock = some k) : ∃ cells, w.heap[k]? = some (.cells cells e (0, 0)) := by
  rcases h.2 with ⟨rfl, _⟩ | ⟨g, cap, cur, rfl, hg, hh, r⟩
  · simp [Value.ownBlock] at hk
  · have : g = k := by simpa [Value.ownBlock] using hk
    subst this
    exact ⟨cur, hh⟩
/-- A block of another type is none of an owned row. -/
theorem own_ne {w : World} {base : Nat} {e T : TypeId} {size n : Nat} {v : Value} {xs : List Value} (h : w.ownsRow base e size v n xs) {k : Nat} {cells : Array Value} {fr : Nat × Nat} (hk : w.heap[k]? = some (.cells cells T fr)) (hT : e ≠ T) : v.ownBlock ≠ some k := by
  intro hb
  obtain ⟨cells', hc⟩ := own_block h k hb
  rw [hk] at hc
  injection hc with hc
  injection hc with _ hc
  exact hT hc.symm
theorem own_keeps {w w1 : World} {base : Nat} {e : TypeId} {size n : Nat} {v : Value} {xs : List Value} (h : w.ownsRow base e size v n xs) {S : Nat → Prop} (hk : Keeps S w w1) (hn : ∀ b, v.ownBlock = some b → ¬ S b) : w1.ownsRow base e size v n xs := by
  refine ⟨h.1, ?_⟩
  rcases h.2 with h2 | ⟨g, cap, cur, rfl, hg, hh, r⟩
  · exact .inl h2
  · exact .inr ⟨g, cap, cur, rfl, hg, hk.heap hh (hn g (by simp [Value.ownBlock])), r⟩
theorem own_set {w : World} {base : Nat} {e : TypeId} {g n c m : Nat} {xs : List Value} (h : w.ownsRow base e 1 (.slice (some ⟨g, 0, none⟩) n c) m xs) {j : Nat} (y : Value) : (w.setCell ⟨g, j, none⟩ y).ownsRow base e 1 (.slice (some ⟨g, 0, none⟩) n c) m (xs.set j y) := by
  refine ⟨by rw [List.length_set]; exact h.1, ?_⟩
  rcases h.2 with ⟨h1, _⟩ | ⟨g', cap, cur, h1, hb, hg, h2, h3, h4, h5⟩
  · cases h1
  · cases h1
    refine .inr ⟨g, c, cur.setIfInBounds j y, rfl, hb, ?_, h2, h3, by simp [h4], ?_⟩
    · show (w.heap.modify g _)[g]? = _
      rw [Array.getElem?_modify, if_pos rfl, hg]; rfl
    · rw [Array.toList_setIfInBounds, List.take_set, h5]
theorem own_cell {w : World} {base : Nat} {e : TypeId} {g n c m : Nat} {xs : List Value} (h : w.ownsRow base e 1 (.slice (some ⟨g, 0, none⟩) n c) m xs) {j : Nat} {u : Value} (hj : xs[j]? = some u) : w.cell? ⟨g, j, none⟩ = some u := by
  have := World.ownsRow.cells h (g := g) (by simp [Value.ownBlock]) j u hj
  unfold Addr.add at this
  split at this
  · rename_i e0; subst e0; simpa using this
  · simpa using this
theorem own_free {w : World} {base : Nat} {e : TypeId} {g n c m : Nat} {xs : List Value} (h : w.ownsRow base e 1 (.slice (some ⟨g, 0, none⟩) n c) m xs) (j : Nat) : w.frozen? ⟨g, j, none⟩ = false := by
  rcases h.2 with ⟨h1, _⟩ | ⟨g', cap, cur, h1, _, hg, _⟩
  · cases h1
  · cases h1; simp [World.frozen?, hg]

/-- Rows of the call's own, each with its list, no two in one block. -/
structure OwnAll (w : World) (B : Nat) (us : List Value) (ls : List (List Int)) : Prop where
  len : us.length = ls.length
  own : ∀ j u, us[j]? = some u → OwnInts w B .i64 3 u (gl ls j)
  apart : ∀ (j k : Nat) (u v : Value) (b : Nat), us[j]? = some u → us[k]? = some v → j ≠ k → u.ownBlock = some b → v.ownBlock ≠ some b
theorem OwnAll.keeps {w w1 : World} {B : Nat} {us : List Value} {ls : List (List Int)} (h : OwnAll w B us ls) {S : Nat → Prop} (hk : Keeps S w w1) (hn : ∀ (j : Nat) (u : Value) (b : Nat), us[j]? = some u → u.ownBlock = some b → ¬ S b) : OwnAll w1 B us ls :=
  ⟨h.len, fun j u hu => (h.own j u hu).keeps hk (fun b hb => hn j u b hu hb), h.apart⟩
theorem OwnAll.kept {w w1 : World} {B : Nat} {us : List Value} {ls : List (List Int)} (h : OwnAll w B us ls) (hk : Keeps NoB w w1) : OwnAll w1 B us ls := h.keeps hk (fun _ _ _ _ _ h => h)
theorem OwnAll.nils (w : World) (B n : Nat) : OwnAll w B (List.replicate n (.slice none 0 0)) (List.replicate n []) := by
  refine ⟨by simp, fun j u hu => ?_, fun j k u v b hu hv hjk hb => ?_⟩
  · rw [List.getElem?_replicate] at hu
    split at hu
    · cases hu
      have : gl (List.replicate n []) j = [] := by unfold gl; rw [List.getD_eq_getElem?_getD, List.getElem?_replicate]; split <;> rfl
      rw [this]; exact OwnInts.nil w B .i64 _
    · cases hu
  · rw [List.getElem?_replicate] at hu
    split at hu
    · cases hu; simp [Value.ownBlock] at hb
    · cases hu
theorem OwnAll.lt {w : World} {B : Nat} {us : List Value} {ls : List (List Int)} (h : OwnAll w B us ls) (j : Nat) (u : Value) (b : Nat) (hu : us[j]? = some u) (hb : u.ownBlock = some b) : B ≤ b ∧ b < w.heap.size := (h.own j u hu).base_le b hb
/-- One more, in a block that is new. -/
theorem OwnAll.snoc {w : World} {B : Nat} {us : List Value} {ls : List (List Int)} (h : OwnAll w B us ls) {u : Value} {l : List Int} (hu : OwnInts w B .i64 3 u l) (hn : ∀ (j : Nat) (v : Value) (b : Nat), us[j]? = some v → v.ownBlock = some b → u.ownBlock ≠ some b) : OwnAll w B (us ++ [u]) (ls ++ [l]) := by
  refine ⟨by simp [h.len], fun j v hv => ?_, fun j k x y b hx hy hjk hb => ?_⟩
  · rw [gl_snoc]
    rw [List.getElem?_append] at hv
    split at hv
    · rename_i hj
      rw [if_neg (by have := h.len; omega)]; exact h.own j v hv
    · rename_i hj
      have hjl : j < (us ++ [u]).length := by
        rcases Nat.lt_or_ge j (us ++ [u]).length with h1 | h1
        · exact h1
        · rw [List.getElem?_eq_none (by simp at h1 ⊢; omega)] at hv; cases hv
      have hj2 : j = us.length := by simp at hjl; omega
      subst hj2
      simp at hv; subst hv
      rw [if_pos h.len]; exact hu
  · rw [List.getElem?_append] at hx hy
    split at hx
    · split at hy
      · exact h.apart j k x y b hx hy hjk hb
      · rename_i h1 h2
        have : y = u := by
          rcases Nat.lt_or_ge (k - us.length) 1 with h3 | h3
          · rw [show k - us.length = 0 by omega] at hy; simpa using hy.symm
          · rw [List.getElem?_eq_none (by simpa using h3)] at hy; cases hy
        subst this
        exact hn j x b hx hb
    · rename_i h1
      have : x = u ∧ j = us.length := by
        rcases Nat.lt_or_ge (j - us.length) 1 with h3 | h3
        · rw [show j - us.length = 0 by omega] at hx
          exact ⟨by simpa using hx.symm, by omega⟩
        · rw [List.getElem?_eq_none (by simpa using h3)] at hx; cases hx
      obtain ⟨rfl, hj⟩ := this
      split at hy
      · intro hb2; exact hn k y b hy hb2 hb
      · rename_i h2
        rcases Nat.lt_or_ge (k - us.length) 1 with h3 | h3
        · exact absurd (show j = k by omega) hjk
        · rw [List.getElem?_eq_none (by simpa using h3)] at hy; cases hy
/-- One row is another one now: its own block's, or a new one's. -/
theorem OwnAll.set {w w1 : World} {B j : Nat} {us : List Value} {ls : List (List Int)} (h : OwnAll w B us ls) {u u' : Value} {l : List Int} (hj : us[j]? = some u) (hk : Keeps (fun k => some k = u.ownBlock) w w1) (hu : OwnInts w1 B .i64 3 u' l) (hb : ∀ b, u'.ownBlock = some b → u.ownBlock = some b ∨ w.heap.size ≤ b) :
    OwnAll w1 B (us.set j u') (ls.set j l) := by
  have hjl : j < us.length := (List.getElem?_eq_some_iff.1 hj).1
  refine ⟨by simp [h.len], fun k v hv => ?_, fun k m x y b hx hy hkm hbx => ?_⟩
  · rw [gl_set]
    rw [List.getElem?_set] at hv
    split at hv
    · rename_i e; subst e
      (try simp only [hjl, if_true] at hv); cases hv
      rw [if_pos ⟨rfl, by rw [← h.len]; exact hjl⟩]; exact hu
    · rename_i e
      rw [if_neg (fun e2 => e e2.1.symm)]
      exact (h.own k v hv).keeps hk (fun b hb2 hb3 => h.apart j k u v b hj hv (fun e2 => e e2) hb3.symm hb2)
  · rw [List.getElem?_set] at hx hy
    split at hx
    · rename_i e; subst e
      (try simp only [hjl, if_true] at hx); cases hx
      rw [if_neg hkm] at hy
      intro hby
      rcases hb b hbx with h1 | h1
      · exact h.apart j m u y b hj hy hkm h1 hby
      · have := (h.lt m y b hy hby).2; omega
    · rename_i e
      split at hy
      · rename_i e2; subst e2
        (try simp only [hjl, if_true] at hy); cases hy
        intro hby
        rcases hb b hby with h1 | h1
        · exact h.apart j k u x b hj hx (fun e3 => e e3) h1 hbx
        · have := (h.lt k x b hx hbx).2; omega
      · exact h.apart k m x y b hx hy hkm hbx

/-- A row that is read, as a cell tells it. -/
def RowAt (w : World) (u : Value) (l : List Int) : Prop := ∃ A c, u = .slice A l.length c ∧ l.length ≤ c ∧ (A = none → c = 0) ∧ IntsAt w .i64 A l
/-- Rows that are read. -/
def RowsAt (w : World) (A : Option Addr) (ls : List (List Int)) : Prop :=
  ls.length ≤ 9223372036854775807 ∧ (0 < ls.length → ∃ b off, A = some ⟨b, off, none⟩ ∧ ∀ j, j < ls.length → ∃ u, w.cell? ⟨b, off + j, none⟩ = some u ∧ RowAt w u (gl ls j))
theorem OwnInts.row {w : World} {base : Nat} {e : TypeId} {v : Value} {xs : List Int} (h : OwnInts w base .i64 e v xs) : RowAt w v xs := by
  obtain ⟨A, c, hv, h1, h2⟩ := h.reads
  refine ⟨A, c, hv, h1, fun hA => ?_, h2⟩
  rcases h.2 with ⟨h3, _⟩ | ⟨g, cap, cur, h3, _⟩
  · rw [hv] at h3; injection h3
  · rw [hv, hA] at h3; injection h3 with h4 _ _; cases h4
/-- 'append(v, xs...)', v the call's own, whatever xs is. -/
theorem wpList_appInts {P : Program} (w : World) {ops : Array Oper} {rest : List Oper} {o : Oper} {a : Act} {Q : Exit → Act → World → Prop} (hgd : o.guard = none) (s x : Operand) (t : TypeId)
    (ho : o.op = .call { callee := .builtin .append, args := #[s, x], argTypes := #[t, t] }) (base : Nat) (e : TypeId) (k : IntKind) (bytes : Nat) (ht : P.underlying t = some (.slice e))
    (hi : (P.info? e).map (fun i => (i.zero, i.size, i.bytes)) = some (some (.int k 0), 1, bytes)) (v : Value) (ys : List Int) (hs : a.eval s = v) (hown : OwnInts w base k e v ys) (A : Option Addr) (c : Nat) (xs : List Int)
    (hx : a.eval x = .slice A xs.length c) (hA : A = none → c = 0) (hat : IntsAt w k A xs) (hb : (ys.length + xs.length) * bytes ≤ 140737488355328) (hm : ys.length + xs.length ≤ 140737488355328) (hbase : base ≤ w.heap.size)
    (h : ∀ v' w', OwnInts w' base k e v' (ys ++ xs) → w.grownBy w' v.ownBlock → wpList P ops Q rest (a.put o.dst v') w') : wpList P ops Q (o :: rest) a w := by
  obtain ⟨i, i1, i2, i3, i4⟩ := info_parts hi
  cases A with
  | none =>
    have hn : xs = [] := by
      rcases Nat.eq_zero_or_pos xs.length with h0 | h0
      · exact List.length_eq_zero_iff.1 h0
      · obtain ⟨b, off, e, _⟩ := hat.get h0; cases e
    subst hn
    rw [hA rfl] at hx
    refine wpList_append_own_none hgd s x t ho base e i 1 ht i1 v ys.length _ hs hown hx (h v w ?_ ⟨rfl, rfl, rfl, Nat.le_refl _, fun _ _ _ => rfl⟩)
    rw [List.append_nil]; exact hown
  | some ad =>
    refine wpList_append_own w hgd s x t ho base e i (.int k 0) 1 bytes ht i1 i2 i3 i4 rfl (by decide) v ys.length (ys.map (Value.int k)) hs hown ad xs.length c (xs.map (Value.int k)) hx (by simp) ?_ (ints_oneCell k xs) (by unfold maxLen; omega) hb hbase ?_
    · intro j u hu
      rw [List.getElem?_map] at hu
      obtain ⟨y, hy, rfl⟩ := Option.map_eq_some_iff.1 hu
      obtain ⟨hj, hyj⟩ := List.getElem?_eq_some_iff.1 hy
      obtain ⟨b, off, e, hc⟩ := hat.get (by omega)
      cases e
      have := hc j hj
      rw [gi_eq xs j hj, hyj] at this
      unfold Addr.add
      split
      · rename_i e0; subst e0; simpa using this
      · exact this
    · intro v' w' h1 h2 h3
      refine h v' w' ?_ h2
      unfold OwnInts
      simpa using h1
/-- 'append(v, u)' of one cell of whatever kind, v the call's own; and where it lies. -/
theorem wpList_app1V {P : Program} (w : World) {ops : Array Oper} {rest : List Oper} {o : Oper} {a : Act} {Q : Exit → Act → World → Prop} (hgd : o.guard = none) (s x : Operand) (t : TypeId)
    (ho : o.op = .call { callee := .builtin .append, args := #[s, x], argTypes := #[t, t] }) (base : Nat) (e : TypeId) (z : Value) (bytes : Nat) (ht : P.underlying t = some (.slice e))
    (hi : (P.info? e).map (fun i => (i.zero, i.size, i.bytes)) = some (some z, 1, bytes)) (hz : z.cells.size = 1) (v : Value) (n : Nat) (xs : List Value) (hs : a.eval s = v) (hown : w.ownsRow base e 1 v n xs) (bx c : Nat) (y : Value) (hy : y.oneCell' = true)
    (hx : a.eval x = .slice (some ⟨bx, 0, none⟩) 1 c) (hcell : w.cell? ⟨bx, 0, none⟩ = some y) (hb : (n + 1) * bytes ≤ 140737488355328) (hm : n + 1 ≤ 140737488355328) (hbase : base ≤ w.heap.size)
    (h : ∀ g cap w', w'.ownsRow base e 1 (.slice (some ⟨g, 0, none⟩) (n + 1) cap) (n + 1) (xs ++ [y]) → w.grownBy w' v.ownBlock → (v.ownBlock = some g ∨ g = w.heap.size) → wpList P ops Q rest (a.put o.dst (.slice (some ⟨g, 0, none⟩) (n + 1) cap)) w') : wpList P ops Q (o :: rest) a w := by
  obtain ⟨i, i1, i2, i3, i4⟩ := info_parts hi
  refine wpList_append_lies (H := w.heap.size) (hH := rfl) (w := w) hgd s x t ho base e i z 1 bytes ht i1 i2 i3 i4 hz (by decide) v n xs hs hown ⟨bx, 0, none⟩ 1 c [y] hx rfl ?_ ?_ (by omega) (by unfold maxLen; omega) hb hbase ?_
  · intro j u hu
    cases j with
    | zero => simp at hu; subst hu; exact hcell
    | succ j => simp at hu
  · intro u hu; simp at hu; subst hu; exact hy
  · intro g cap w' h1 h2 h3 _
    exact h g cap w' h1 h2 h3
/-- 'append(v, y)' at a step of a region that draws its order. -/
theorem step_app1 {P : Program} {w : World} {ops : Array Oper} {o : Oper} {a : Act} {K : Act → World → Prop} {Q : Exit → Act → World → Prop} {E : Prop} (hgd : o.guard = none) (s x : Operand) (t : TypeId)
    (ho : o.op = .call { callee := .builtin .append, args := #[s, x], argTypes := #[t, t] }) (base : Nat) (e : TypeId) (k : IntKind) (bytes : Nat) (ht : P.underlying t = some (.slice e))
    (hi : (P.info? e).map (fun i => (i.zero, i.size, i.bytes)) = some (some (.int k 0), 1, bytes)) (v : Value) (xs : List Int) (hs : a.eval s = v) (hown : OwnInts w base k e v xs) (bx c : Nat) (y : Int)
    (hx : a.eval x = .slice (some ⟨bx, 0, none⟩) 1 c) (hcell : w.cell? ⟨bx, 0, none⟩ = some (.int k y)) (hb : (xs.length + 1) * bytes ≤ 140737488355328) (hm : xs.length + 1 ≤ 140737488355328) (hbase : base ≤ w.heap.size)
    (h : ∀ g cap w', OwnInts w' base k e (.slice (some ⟨g, 0, none⟩) (xs.length + 1) cap) (xs ++ [y]) → w.grownBy w' v.ownBlock → (v.ownBlock = some g ∨ g = w.heap.size) → K (a.put o.dst (.slice (some ⟨g, 0, none⟩) (xs.length + 1) cap)) w') :
    if Region.wanted o (yielded ops a.tmps) = true then Oper.wp P o a w K Q else E := by
  obtain ⟨i, i1, i2, i3, i4⟩ := info_parts hi
  refine step_append_lies (H := w.heap.size) (hH := rfl) (w := w) hgd s x t ho base e i (.int k 0) 1 bytes ht i1 i2 i3 i4 rfl (by decide) v xs.length (xs.map (Value.int k)) hs hown ⟨bx, 0, none⟩ 1 c [.int k y] hx rfl ?_ ?_ (by omega) (by unfold maxLen; omega) hb hbase ?_
  · intro j u hu
    cases j with
    | zero => simp at hu; subst hu; exact hcell
    | succ j => simp at hu
  · intro u hu; simp at hu; subst hu; rfl
  · intro g cap w' h1 h2 h3 _
    refine h g cap w' ?_ h2 h3
    have : OwnInts w' base k e (.slice (some ⟨g, 0, none⟩) (xs.length + 1) cap) (xs ++ [y]) := by
      unfold OwnInts
      simpa using h1
    exact this
theorem RowAt.kept {w w1 : World} {u : Value} {l : List Int} (h : RowAt w u l) (hk : Keeps NoB w w1) : RowAt w1 u l := by
  obtain ⟨A, c, e, h1, h0, h2⟩ := h
  exact ⟨A, c, e, h1, h0, h2.kept hk⟩
theorem RowsAt.kept {w w1 : World} {A : Option Addr} {ls : List (List Int)} (h : RowsAt w A ls) (hk : Keeps NoB w w1) : RowsAt w1 A ls := by
  refine ⟨h.1, fun h0 => ?_⟩
  obtain ⟨b, off, e, hc⟩ := h.2 h0
  refine ⟨b, off, e, fun j hj => ?_⟩
  obtain ⟨u, h1, h2⟩ := hc j hj
  exact ⟨u, hk.cell h1 (fun h => h), h2.kept hk⟩
theorem OwnAll.rows {w : World} {B g n c : Nat} {base : Nat} {e : TypeId} {us : List Value} {ls : List (List Int)} (h : OwnAll w B us ls) (hr : w.ownsRow base e 1 (.slice (some ⟨g, 0, none⟩) n c) us.length us) (hl : ls.length ≤ 9223372036854775807) : RowsAt w (some ⟨g, 0, none⟩) ls := by
  refine ⟨hl, fun _ => ⟨g, 0, rfl, fun j hj => ?_⟩⟩
  have hj' : j < us.length := by rw [h.len]; exact hj
  have hu : us[j]? = some us[j] := List.getElem?_eq_getElem hj'
  refine ⟨us[j], by rw [Nat.zero_add]; exact own_cell hr hu, ?_⟩
  exact (h.own j _ hu).row
/-- What is read at a world stays so where other blocks turn: its own all lie below a bound. -/
def Stays (H : Nat) (w : World) (P : World → Prop) : Prop := H ≤ w.heap.size ∧ ∀ w', (∀ k, k < H → w'.heap[k]? = w.heap[k]?) → P w'
theorem Stays.now {H : Nat} {w : World} {P : World → Prop} (h : Stays H w P) : P w := h.2 w (fun _ _ => rfl)
theorem Stays.keeps {H : Nat} {w w1 : World} {P : World → Prop} (h : Stays H w P) {S : Nat → Prop} (hk : Keeps S w w1) (hn : ∀ k, k < H → ¬ S k) : Stays H w1 P :=
  ⟨Nat.le_trans h.1 hk.size, fun w' hw' => h.2 w' (fun k hl => (hw' k hl).trans (hk.block k (Nat.lt_of_lt_of_le hl h.1) (hn k hl)))⟩
theorem Stays.kept {H : Nat} {w w1 : World} {P : World → Prop} (h : Stays H w P) (hk : Keeps NoB w w1) : Stays H w1 P := h.keeps hk (fun _ _ h => h)
theorem cell_same {w w' : World} (hw : ∀ k, k < w.heap.size → w'.heap[k]? = w.heap[k]?) {a : Addr} {v : Value} (hc : w.cell? a = some v) : w'.cell? a = some v :=
  (World.cell?_of_block (hw a.block (World.block_lt_of_cell? w a hc))).trans hc
theorem IntsAt.same {w w' : World} {k : IntKind} {A : Option Addr} {xs : List Int} (h : IntsAt w k A xs) (hw : ∀ k, k < w.heap.size → w'.heap[k]? = w.heap[k]?) : IntsAt w' k A xs :=
  ⟨h.1, fun h0 => by
    obtain ⟨b, off, e, hc⟩ := h.2 h0
    exact ⟨b, off, e, fun j hj => cell_same hw (hc j hj)⟩⟩
theorem RowAt.same {w w' : World} {u : Value} {l : List Int} (h : RowAt w u l) (hw : ∀ k, k < w.heap.size → w'.heap[k]? = w.heap[k]?) : RowAt w' u l := by
  obtain ⟨A, c, e, h1, h0, h2⟩ := h
  exact ⟨A, c, e, h1, h0, h2.same hw⟩
theorem RowsAt.same {w w' : World} {A : Option Addr} {ls : List (List Int)} (h : RowsAt w A ls) (hw : ∀ k, k < w.heap.size → w'.heap[k]? = w.heap[k]?) : RowsAt w' A ls := by
  refine ⟨h.1, fun h0 => ?_⟩
  obtain ⟨b, off, e, hc⟩ := h.2 h0
  refine ⟨b, off, e, fun j hj => ?_⟩
  obtain ⟨u, h1, h2⟩ := hc j hj
  exact ⟨u, cell_same hw h1, h2.same hw⟩
end Go.Proofs.Ytpkkaicpbihjfaa
