/- Small words and lemmas that all texts of this seat share: what is kept, lists of numbers that are read, lists that the call owns. No condition. -/
import Derived.Test.YtpkkaicpbihjfaaProg
import Derived.WalkKit
import Derived.WalkSpells
import Derived.WalkLawsBesides
import Derived.BigQuiet
import Derived.Deep.QuietTactic
import Derived.Deep.LoopGhost
set_option linter.unusedVariables false
namespace Go.Proofs.Ytpkkaicpbihjfaa
open Go.RowKit

/-- Of the blocks that were there none has turned but those in S; the streams are as they were. -/
structure Keeps (S : Nat → Prop) (w w' : World) : Prop where
  os : w'.os = w.os
  tape : w'.tape = w.tape
  output : w'.output = w.output
  size : w.heap.size ≤ w'.heap.size
  block : ∀ k, k < w.heap.size → ¬ S k → w'.heap[k]? = w.heap[k]?
def NoB : Nat → Prop := fun _ => False
theorem Keeps.refl (S : Nat → Prop) (w : World) : Keeps S w w := ⟨rfl, rfl, rfl, Nat.le_refl _, fun _ _ _ => rfl⟩
theorem Keeps.trans {S T U : Nat → Prop} {a b c : World} (h : Keeps S a b) (k : Keeps T b c) (hS : ∀ i, i < a.heap.size → S i → U i) (hT : ∀ i, i < a.heap.size → T i → U i) : Keeps U a c :=
  ⟨k.os.trans h.os, k.tape.trans h.tape, k.output.trans h.output, Nat.le_trans h.size k.size, fun i hi hn =>
    (k.block i (Nat.lt_of_lt_of_le hi h.size) (fun ht => hn (hT i hi ht))).trans (h.block i hi (fun hs => hn (hS i hi hs)))⟩
/-- Then a step that turns nothing, or new blocks alone. -/
theorem Keeps.then {S T : Nat → Prop} {a b c : World} (h : Keeps S a b) (k : Keeps T b c) (hT : ∀ i, T i → i < a.heap.size → S i) : Keeps S a c :=
  h.trans k (fun _ _ h => h) (fun i hi ht => hT i ht hi)
theorem Keeps.fresh {S : Nat → Prop} {a b c : World} (h : Keeps S a b) (k : Keeps NoB b c) : Keeps S a c := h.then k (fun _ h _ => h.elim)
theorem Keeps.mono {S T : Nat → Prop} {a b : World} (h : Keeps S a b) (hT : ∀ i, S i → i < a.heap.size → T i) : Keeps T a b :=
  ⟨h.os, h.tape, h.output, h.size, fun i hi hn => h.block i hi (fun hs => hn (hT i hs hi))⟩
theorem Keeps.drewN {S : Nat → Prop} {a b : World} (h : Keeps S a b) (n : Nat) : Keeps S a (b.drewN n) := ⟨h.os, h.tape, h.output, h.size, h.block⟩
theorem Keeps.drew {S : Nat → Prop} {a b : World} (h : Keeps S a b) : Keeps S a b.drew := ⟨h.os, h.tape, h.output, h.size, h.block⟩
theorem Keeps.below {w w' : World} (h : Keeps NoB w w') : Below w.heap.size w w' := ⟨h.os, h.tape, h.output, h.size, fun k hk => h.block k hk (fun x => x)⟩
theorem Keeps.ofBelow {S : Nat → Prop} {w w' : World} (h : Below w.heap.size w w') : Keeps S w w' := ⟨h.os, h.tape, h.output, h.size, fun k hk _ => h.block k hk⟩
theorem Keeps.alloc {S : Nat → Prop} {a b : World} (h : Keeps S a b) (o : Obj) : Keeps S a (b.alloc o) :=
  h.fresh ⟨rfl, rfl, rfl, by simp, fun k hk _ => Below.heap_alloc _ _ _ hk⟩
theorem Keeps.ofGrown {w w' : World} {g : Option Nat} (h : w.grownBy w' g) : Keeps (fun k => some k = g) w w' := ⟨h.os, h.tape, h.output, h.size, fun k hk hn => h.block k hk hn⟩
theorem Keeps.grown {S : Nat → Prop} {a b c : World} {g : Option Nat} (h : Keeps S a b) (k : b.grownBy c g) (hg : ∀ i, some i = g → i < a.heap.size → S i) : Keeps S a c := h.then (Keeps.ofGrown k) hg
theorem Keeps.setCell {S : Nat → Prop} {a b : World} (h : Keeps S a b) {p : Addr} (hp : p.block < a.heap.size → S p.block) (u : Value) : Keeps S a (b.setCell p u) :=
  h.then (T := fun k => k = p.block) ⟨rfl, rfl, rfl, by simp [World.setCell], fun k _ hn => Below.heap_setCell _ _ _ _ hn⟩ (fun i e hi => by subst e; exact hp hi)
theorem Keeps.one (w : World) (g o : Nat) (u : Value) : Keeps (· = g) w (w.setCell ⟨g, o, none⟩ u) := (Keeps.refl (· = g) w).setCell (p := ⟨g, o, none⟩) (fun _ => rfl) u
theorem Keeps.grownBy {w w' : World} (h : Keeps NoB w w') (g : Option Nat) : w.grownBy w' g := ⟨h.os, h.tape, h.output, h.size, fun k hk _ => h.block k hk (fun x => x)⟩
theorem Keeps.cell {S : Nat → Prop} {w w1 : World} (h : Keeps S w w1) {a : Addr} {v : Value} (hc : w.cell? a = some v) (hn : ¬ S a.block) : w1.cell? a = some v :=
  (World.cell?_of_block (h.block a.block (World.block_lt_of_cell? w a hc) hn)).trans hc
theorem Keeps.heap {S : Nat → Prop} {w w1 : World} (h : Keeps S w w1) {k : Nat} {o : Obj} (hk : w.heap[k]? = some o) (hn : ¬ S k) : w1.heap[k]? = some o :=
  (h.block k (Array.getElem?_eq_some_iff.1 hk).1 hn).trans hk
theorem lt_of_heap {w : World} {k : Nat} {o : Obj} (h : w.heap[k]? = some o) : k < w.heap.size := (Array.getElem?_eq_some_iff.1 h).1

theorem hid {p : Prop} (h : p) : Hid p := h
/-- The number at a place of a list; 0 behind it. -/
def gi (xs : List Int) (j : Nat) : Int := xs.getD j 0
theorem gi_eq (xs : List Int) (j : Nat) (h : j < xs.length) : gi xs j = xs[j] := by simp [gi, h]
theorem gi_mem (xs : List Int) (j : Nat) (h : j < xs.length) : gi xs j ∈ xs := by rw [gi_eq xs j h]; exact List.getElem_mem h
theorem getD_mem {α : Type} (xs : List α) (d : α) {k : Nat} (h : k < xs.length) : xs.getD k d ∈ xs := by
  rw [List.getD_eq_getElem?_getD, List.getElem?_eq_getElem h]; exact List.getElem_mem h
/-- A list of numbers that is read at an address. -/
def IntsAt (w : World) (k : IntKind) (A : Option Addr) (xs : List Int) : Prop :=
  xs.length ≤ 9223372036854775807 ∧ (0 < xs.length → ∃ b off, A = some ⟨b, off, none⟩ ∧ ∀ j, j < xs.length → w.cell? ⟨b, off + j, none⟩ = some (.int k (gi xs j)))
theorem IntsAt.len {w : World} {k : IntKind} {A : Option Addr} {xs : List Int} (h : IntsAt w k A xs) : xs.length ≤ 9223372036854775807 := h.1
theorem IntsAt.get {w : World} {k : IntKind} {A : Option Addr} {xs : List Int} (h : IntsAt w k A xs) (hn : 0 < xs.length) : ∃ b off, A = some ⟨b, off, none⟩ ∧ ∀ j, j < xs.length → w.cell? ⟨b, off + j, none⟩ = some (.int k (gi xs j)) := h.2 hn
theorem IntsAt.keeps {w w1 : World} {k : IntKind} {A : Option Addr} {xs : List Int} (h : IntsAt w k A xs) {S : Nat → Prop} (hk : Keeps S w w1) (hn : ∀ b off, A = some ⟨b, off, none⟩ → 0 < xs.length → ¬ S b) : IntsAt w1 k A xs :=
  ⟨h.1, fun h0 => by
    obtain ⟨b, off, e, hc⟩ := h.2 h0
    exact ⟨b, off, e, fun j hj => hk.cell (hc j hj) (hn b off e h0)⟩⟩
theorem IntsAt.kept {w w1 : World} {k : IntKind} {A : Option Addr} {xs : List Int} (h : IntsAt w k A xs) (hk : Keeps NoB w w1) : IntsAt w1 k A xs := h.keeps hk (fun _ _ _ _ h => h)
/-- Where it lies the block was there. -/
theorem IntsAt.lt {w : World} {k : IntKind} {A : Option Addr} {xs : List Int} (h : IntsAt w k A xs) : ∀ b off, A = some ⟨b, off, none⟩ → 0 < xs.length → b < w.heap.size := fun b off e h0 => by
  obtain ⟨b', off', e', hc⟩ := h.2 h0
  obtain ⟨rfl, rfl⟩ : b' = b ∧ off' = off := by rw [e'] at e; simpa using e
  exact World.block_lt_of_cell? w _ (hc 0 h0)

theorem IntsAt.ofBlock {w : World} {b : Nat} {e : TypeId} {fr : Nat × Nat} {k : IntKind} (xs : List Int) (h : w.heap[b]? = some (.cells (xs.map (Value.int k)).toArray e fr)) (hl : xs.length ≤ 9223372036854775807) : IntsAt w k (some ⟨b, 0, none⟩) xs :=
  ⟨hl, fun _ => ⟨b, 0, rfl, fun j hj => by simp [World.cell?, h, gi, hj]⟩⟩
/-- A list of numbers of the call's own, as a slice value tells it. -/
def OwnInts (w : World) (base : Nat) (k : IntKind) (e : TypeId) (v : Value) (xs : List Int) : Prop := w.ownsRow base e 1 v xs.length (xs.map (Value.int k))
theorem OwnInts.reads {w : World} {base : Nat} {k : IntKind} {e : TypeId} {v : Value} {xs : List Int} (h : OwnInts w base k e v xs) : ∃ A c, v = .slice A xs.length c ∧ xs.length ≤ c ∧ IntsAt w k A xs := by
  rcases h.2 with ⟨rfl, h0⟩ | ⟨g, cap, cur, rfl, hb, hg, h1, h2, h3, h4⟩
  · exact ⟨none, 0, by rw [h0], by omega, by omega, fun h => by omega⟩
  · refine ⟨_, cap, rfl, h1, by unfold maxLen at h2; omega, fun _ => ⟨g, 0, rfl, fun j hj => ?_⟩⟩
    have := World.ownsRow.cells (show w.ownsRow base e 1 _ xs.length (xs.map (Value.int k)) from h) (g := g) (by simp [Value.ownBlock]) j (.int k (gi xs j)) (by simp [gi, hj])
    unfold Addr.add at this
    split at this
    · rename_i e0; subst e0; simpa using this
    · simpa using this
theorem OwnInts.kept {w w1 : World} {base : Nat} {k : IntKind} {e : TypeId} {v : Value} {xs : List Int} (h : OwnInts w base k e v xs) (hk : Keeps NoB w w1) : OwnInts w1 base k e v xs :=
  World.ownsRow.kept h (hk.grownBy none) (by cases hv : v.ownBlock <;> simp)
theorem OwnInts.nil (w : World) (base : Nat) (k : IntKind) (e : TypeId) : OwnInts w base k e (.slice none 0 0) [] := World.ownsRow_nil w base e 1
theorem OwnInts.keeps {w w1 : World} {base : Nat} {k : IntKind} {e : TypeId} {v : Value} {xs : List Int} (h : OwnInts w base k e v xs) {S : Nat → Prop} (hk : Keeps S w w1) (hn : ∀ b, v.ownBlock = some b → ¬ S b) : OwnInts w1 base k e v xs := by
  refine ⟨h.1, ?_⟩
  rcases h.2 with h2 | ⟨g, cap, cur, rfl, hg, hh, r⟩
  · exact .inl h2
  · exact .inr ⟨g, cap, cur, rfl, hg, hk.heap hh (hn g (by simp [Value.ownBlock])), r⟩
theorem OwnInts.alloc {w : World} {base : Nat} {k : IntKind} {e : TypeId} {v : Value} {xs : List Int} (h : OwnInts w base k e v xs) (o : Obj) : OwnInts (w.alloc o) base k e v xs := World.ownsRow.alloc h o
theorem OwnInts.drewN {w : World} {base : Nat} {k : IntKind} {e : TypeId} {v : Value} {xs : List Int} (h : OwnInts w base k e v xs) (n : Nat) : OwnInts (w.drewN n) base k e v xs := h
theorem OwnInts.base_le {w : World} {base : Nat} {k : IntKind} {e : TypeId} {v : Value} {xs : List Int} (h : OwnInts w base k e v xs) (b : Nat) (hb : v.ownBlock = some b) : base ≤ b ∧ b < w.heap.size := World.ownsRow.lt h b hb
theorem OwnInts.lower {w : World} {base base' : Nat} {k : IntKind} {e : TypeId} {v : Value} {xs : List Int} (h : OwnInts w base k e v xs) (hb : base' ≤ base) : OwnInts w base' k e v xs := by
  refine ⟨h.1, ?_⟩
  rcases h.2 with h2 | ⟨g, cap, cur, rfl, hg, hh, r⟩
  · exact .inl h2
  · exact .inr ⟨g, cap, cur, rfl, Nat.le_trans hb hg, hh, r⟩
/-- A list of the call's own, its cells: one is written. -/
theorem OwnInts.cell {w : World} {base : Nat} {k : IntKind} {e : TypeId} {g n c : Nat} {xs : List Int} (h : OwnInts w base k e (.slice (some ⟨g, 0, none⟩) n c) xs) {j : Nat} (hj : j < xs.length) : w.cell? ⟨g, j, none⟩ = some (.int k (gi xs j)) := by
  have := World.ownsRow.cells (show w.ownsRow base e 1 _ xs.length (xs.map (Value.int k)) from h) (g := g) (by simp [Value.ownBlock]) j (.int k (gi xs j)) (by simp [gi, hj])
  unfold Addr.add at this
  split at this
  · rename_i e0; subst e0; simpa using this
  · simpa using this
theorem OwnInts.free {w : World} {base : Nat} {k : IntKind} {e : TypeId} {g n c : Nat} {xs : List Int} (h : OwnInts w base k e (.slice (some ⟨g, 0, none⟩) n c) xs) (j : Nat) : w.frozen? ⟨g, j, none⟩ = false := by
  rcases h.2 with ⟨h1, _⟩ | ⟨g', cap, cur, h1, _, hg, _⟩
  · cases h1
  · cases h1; simp [World.frozen?, hg]
theorem OwnInts.set {w : World} {base : Nat} {k : IntKind} {e : TypeId} {g n c : Nat} {xs : List Int} (h : OwnInts w base k e (.slice (some ⟨g, 0, none⟩) n c) xs) {j : Nat} (hj : j < xs.length) (y : Int) : OwnInts (w.setCell ⟨g, j, none⟩ (.int k y)) base k e (.slice (some ⟨g, 0, none⟩) n c) (xs.set j y) := by
  refine ⟨by simp, ?_⟩
  rcases h.2 with ⟨h1, _⟩ | ⟨g', cap, cur, h1, hb, hg, h2, h3, h4, h5⟩
  · cases h1
  · cases h1
    refine .inr ⟨g, c, cur.setIfInBounds j (.int k y), by rw [List.length_set], hb, ?_, by rw [List.length_set]; exact h2, h3, by simp [h4], ?_⟩
    · show (w.heap.modify g _)[g]? = _
      rw [Array.getElem?_modify, if_pos rfl, hg]; rfl
    · rw [List.length_set, Array.toList_setIfInBounds, List.take_set, h5, List.map_set]
theorem Keeps.own {S : Nat → Prop} {a b c : World} {base : Nat} {k : IntKind} {e : TypeId} {v : Value} {xs : List Int} (h : Keeps S a b) (ho : OwnInts b base k e v xs) (hg : b.grownBy c v.ownBlock) (hb : a.heap.size ≤ base) : Keeps S a c :=
  h.grown hg (fun i hi hlt => absurd (ho.base_le i hi.symm).1 (by omega))
/-- '[]int{}'. -/
theorem OwnInts.empty (w : World) (base : Nat) (k : IntKind) (e : TypeId) (hb : base ≤ w.heap.size) : OwnInts (w.alloc (.cells #[] e)) base k e (.slice (some ⟨w.heap.size, 0, none⟩) 0 0) [] :=
  World.ownsRow_made w #[] 0 hb (Nat.zero_le _) rfl
theorem cell_one (w : World) (u : Value) (e : TypeId) : (w.alloc (.cells #[u] e)).cell? ⟨w.heap.size, 0, none⟩ = some u := by
  unfold World.cell?; rw [heap_alloc_new]; rfl
/-- 'append(v, y)', v the call's own. -/
theorem wpList_app1 {P : Program} (w : World) {ops : Array Oper} {rest : List Oper} {o : Oper} {a : Act} {Q : Exit → Act → World → Prop} (hgd : o.guard = none) (s x : Operand) (t : TypeId)
    (ho : o.op = .call { callee := .builtin .append, args := #[s, x], argTypes := #[t, t] }) (base : Nat) (e : TypeId) (k : IntKind) (bytes : Nat) (ht : P.underlying t = some (.slice e))
    (hi : (P.info? e).map (fun i => (i.zero, i.size, i.bytes)) = some (some (.int k 0), 1, bytes)) (v : Value) (xs : List Int) (hs : a.eval s = v) (hown : OwnInts w base k e v xs) (bx c : Nat) (y : Int)
    (hx : a.eval x = .slice (some ⟨bx, 0, none⟩) 1 c) (hcell : w.cell? ⟨bx, 0, none⟩ = some (.int k y)) (hb : (xs.length + 1) * bytes ≤ 140737488355328) (hm : xs.length + 1 ≤ 140737488355328) (hbase : base ≤ w.heap.size)
    (h : ∀ v' w', OwnInts w' base k e v' (xs ++ [y]) → w.grownBy w' v.ownBlock → v' ≠ .slice none 0 0 → wpList P ops Q rest (a.put o.dst v') w') : wpList P ops Q (o :: rest) a w := by
  obtain ⟨i, i1, i2, i3, i4⟩ := info_parts hi
  refine wpList_append_own w hgd s x t ho base e i (.int k 0) 1 bytes ht i1 i2 i3 i4 rfl (by decide) v xs.length (xs.map (Value.int k)) hs hown ⟨bx, 0, none⟩ 1 c [.int k y] hx rfl ?_ ?_ (by unfold maxLen; omega) hb hbase ?_
  · intro j u hu
    cases j with
    | zero => simp at hu; subst hu; exact hcell
    | succ j => simp at hu
  · intro u hu; simp at hu; subst hu; rfl
  · intro v' w' h1 h2 h3
    refine h v' w' ?_ h2 (fun e => by have := (h3.1 e).2; omega)
    have : OwnInts w' base k e v' (xs ++ [y]) := by
      unfold OwnInts
      simpa using h1
    exact this
end Go.Proofs.Ytpkkaicpbihjfaa
