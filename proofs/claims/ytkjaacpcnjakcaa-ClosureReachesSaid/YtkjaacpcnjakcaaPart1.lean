/- Texts of this claim, part 1 of 3, one behind the other: what each proves, and its conditions, stands ahead of it. -/
import Derived.Test.YtkjaacpcnjakcaaProg
import Derived.WalkKit
import Derived.WalkSpells
import Derived.WalkLawsBesides
import Derived.BigQuiet
import Derived.Deep.QuietTactic
import Derived.Deep.LoopGhost
import Derived.Laws.BitsAllLaws
import Derived.Laws.Bits64
import Derived.Test.YtkjaacpcnjakcaaRows
import Derived.ProofKit
import Derived.OpenShut
import Derived.ShutString
import Derived.ChangeOld
import Derived.Below
import Derived.SizedLaws
import Derived.Lib.SmallJoins
import Derived.Laws.AppendOwnNone
import Derived.Deep.AppendLies
import Derived.Laws.CopyOwn
import Derived.Lib.SlBytesRow
import Derived.Lib.BufferRead
import Derived.Shelf.Sort.Plain
import Derived.Ground.Names2Prog
import Derived.Shelf.Slices.SearchI
import Derived.Shelf.Slices.In.SortNone
import Derived.Shelf.Slices.Empties
import Derived.Sort.Grow
import Derived.RangeFuncNested
import Derived.RangeFuncBound
import Derived.RangeFuncBox
import Derived.RangeFuncCalls
import Derived.RangeFuncLeaves
import Derived.Shelf.Abstract
import Derived.Shelf.RegionOpen
import Derived.OwnWalkIn
import Derived.TacticsInMore
import Derived.LoopNIn
import Derived.LoopIn
import Derived.Maps.AppendAt
import Derived.Laws.Rows
/- Small words and lemmas that all texts of this seat share: what is kept, lists of numbers that are read, lists that the call owns. No condition. -/
set_option linter.unusedVariables false
namespace Go.Proofs.Ytkjaacpcnjakcaa
open Go.RowKit

/-- Of the blocks that were there none has turned but those in S; the streams are as they were. -/
structure Keeps (S : Nat → Prop) (w w' : World) : Prop where
  os : w'.os = w.os
  tape : w'.tape = w.tape
  output : w'.output = w.output
  size : w.heap.size ≤ w'.heap.size
  block : ∀ k, k < w.heap.size → ¬ S k → w'.heap[k]? = w.heap[k]?
def NoB : Nat → Prop := fun _ => False
theorem Keeps.refl (S : Nat → Prop) (w : World) : Keeps S w w := ⟨rfl, rfl, rfl, Nat.le_refl _, fun _ _ _ => rfl⟩
theorem Keeps.trans {S T U : Nat → Prop} {a b c : World} (h : Keeps S a b) (k : Keeps T b c) (hS : ∀ i, i < a.heap.size → S i → U i) (hT : ∀ i, i < a.heap.size → T i → U i) : Keeps U a c :=
  ⟨k.os.trans h.os, k.tape.trans h.tape, k.output.trans h.output, Nat.le_trans h.size k.size, fun i hi hn =>
    (k.block i (Nat.lt_of_lt_of_le hi h.size) (fun ht => hn (hT i hi ht))).trans (h.block i hi (fun hs => hn (hS i hi hs)))⟩
/-- Then a step that turns nothing, or new blocks alone. -/
theorem Keeps.then {S T : Nat → Prop} {a b c : World} (h : Keeps S a b) (k : Keeps T b c) (hT : ∀ i, T i → i < a.heap.size → S i) : Keeps S a c :=
  h.trans k (fun _ _ h => h) (fun i hi ht => hT i ht hi)
theorem Keeps.fresh {S : Nat → Prop} {a b c : World} (h : Keeps S a b) (k : Keeps NoB b c) : Keeps S a c := h.then k (fun _ h _ => h.elim)
theorem Keeps.mono {S T : Nat → Prop} {a b : World} (h : Keeps S a b) (hT : ∀ i, S i → i < a.heap.size → T i) : Keeps T a b :=
  ⟨h.os, h.tape, h.output, h.size, fun i hi hn => h.block i hi (fun hs => hn (hT i hs hi))⟩
theorem Keeps.drewN {S : Nat → Prop} {a b : World} (h : Keeps S a b) (n : Nat) : Keeps S a (b.drewN n) := ⟨h.os, h.tape, h.output, h.size, h.block⟩
theorem Keeps.drew {S : Nat → Prop} {a b : World} (h : Keeps S a b) : Keeps S a b.drew := ⟨h.os, h.tape, h.output, h.size, h.block⟩
theorem Keeps.below {w w' : World} (h : Keeps NoB w w') : Below w.heap.size w w' := ⟨h.os, h.tape, h.output, h.size, fun k hk => h.block k hk (fun x => x)⟩
theorem Keeps.ofBelow {S : Nat → Prop} {w w' : World} (h : Below w.heap.size w w') : Keeps S w w' := ⟨h.os, h.tape, h.output, h.size, fun k hk _ => h.block k hk⟩
theorem Keeps.alloc {S : Nat → Prop} {a b : World} (h : Keeps S a b) (o : Obj) : Keeps S a (b.alloc o) :=
  h.fresh ⟨rfl, rfl, rfl, by simp, fun k hk _ => Below.heap_alloc _ _ _ hk⟩
theorem Keeps.ofGrown {w w' : World} {g : Option Nat} (h : w.grownBy w' g) : Keeps (fun k => some k = g) w w' := ⟨h.os, h.tape, h.output, h.size, fun k hk hn => h.block k hk hn⟩
theorem Keeps.grown {S : Nat → Prop} {a b c : World} {g : Option Nat} (h : Keeps S a b) (k : b.grownBy c g) (hg : ∀ i, some i = g → i < a.heap.size → S i) : Keeps S a c := h.then (Keeps.ofGrown k) hg
theorem Keeps.setCell {S : Nat → Prop} {a b : World} (h : Keeps S a b) {p : Addr} (hp : p.block < a.heap.size → S p.block) (u : Value) : Keeps S a (b.setCell p u) :=
  h.then (T := fun k => k = p.block) ⟨rfl, rfl, rfl, by simp [World.setCell], fun k _ hn => Below.heap_setCell _ _ _ _ hn⟩ (fun i e hi => by subst e; exact hp hi)
theorem Keeps.one (w : World) (g o : Nat) (u : Value) : Keeps (· = g) w (w.setCell ⟨g, o, none⟩ u) := (Keeps.refl (· = g) w).setCell (p := ⟨g, o, none⟩) (fun _ => rfl) u
theorem Keeps.grownBy {w w' : World} (h : Keeps NoB w w') (g : Option Nat) : w.grownBy w' g := ⟨h.os, h.tape, h.output, h.size, fun k hk _ => h.block k hk (fun x => x)⟩
theorem Keeps.cell {S : Nat → Prop} {w w1 : World} (h : Keeps S w w1) {a : Addr} {v : Value} (hc : w.cell? a = some v) (hn : ¬ S a.block) : w1.cell? a = some v :=
  (World.cell?_of_block (h.block a.block (World.block_lt_of_cell? w a hc) hn)).trans hc
theorem Keeps.heap {S : Nat → Prop} {w w1 : World} (h : Keeps S w w1) {k : Nat} {o : Obj} (hk : w.heap[k]? = some o) (hn : ¬ S k) : w1.heap[k]? = some o :=
  (h.block k (Array.getElem?_eq_some_iff.1 hk).1 hn).trans hk
theorem lt_of_heap {w : World} {k : Nat} {o : Obj} (h : w.heap[k]? = some o) : k < w.heap.size := (Array.getElem?_eq_some_iff.1 h).1

theorem hid {p : Prop} (h : p) : Hid p := h
/-- The number at a place of a list; 0 behind it. -/
def gi (xs : List Int) (j : Nat) : Int := xs.getD j 0
theorem gi_eq (xs : List Int) (j : Nat) (h : j < xs.length) : gi xs j = xs[j] := by simp [gi, h]
theorem gi_mem (xs : List Int) (j : Nat) (h : j < xs.length) : gi xs j ∈ xs := by rw [gi_eq xs j h]; exact List.getElem_mem h
theorem getD_mem {α : Type} (xs : List α) (d : α) {k : Nat} (h : k < xs.length) : xs.getD k d ∈ xs := by
  rw [List.getD_eq_getElem?_getD, List.getElem?_eq_getElem h]; exact List.getElem_mem h
/-- A list of numbers that is read at an address. -/
def IntsAt (w : World) (k : IntKind) (A : Option Addr) (xs : List Int) : Prop :=
  xs.length ≤ 9223372036854775807 ∧ (0 < xs.length → ∃ b off, A = some ⟨b, off, none⟩ ∧ ∀ j, j < xs.length → w.cell? ⟨b, off + j, none⟩ = some (.int k (gi xs j)))
theorem IntsAt.len {w : World} {k : IntKind} {A : Option Addr} {xs : List Int} (h : IntsAt w k A xs) : xs.length ≤ 9223372036854775807 := h.1
theorem IntsAt.get {w : World} {k : IntKind} {A : Option Addr} {xs : List Int} (h : IntsAt w k A xs) (hn : 0 < xs.length) : ∃ b off, A = some ⟨b, off, none⟩ ∧ ∀ j, j < xs.length → w.cell? ⟨b, off + j, none⟩ = some (.int k (gi xs j)) := h.2 hn
theorem IntsAt.keeps {w w1 : World} {k : IntKind} {A : Option Addr} {xs : List Int} (h : IntsAt w k A xs) {S : Nat → Prop} (hk : Keeps S w w1) (hn : ∀ b off, A = some ⟨b, off, none⟩ → 0 < xs.length → ¬ S b) : IntsAt w1 k A xs :=
  ⟨h.1, fun h0 => by
    obtain ⟨b, off, e, hc⟩ := h.2 h0
    exact ⟨b, off, e, fun j hj => hk.cell (hc j hj) (hn b off e h0)⟩⟩
theorem IntsAt.kept {w w1 : World} {k : IntKind} {A : Option Addr} {xs : List Int} (h : IntsAt w k A xs) (hk : Keeps NoB w w1) : IntsAt w1 k A xs := h.keeps hk (fun _ _ _ _ h => h)
/-- Where it lies the block was there. -/
theorem IntsAt.lt {w : World} {k : IntKind} {A : Option Addr} {xs : List Int} (h : IntsAt w k A xs) : ∀ b off, A = some ⟨b, off, none⟩ → 0 < xs.length → b < w.heap.size := fun b off e h0 => by
  obtain ⟨b', off', e', hc⟩ := h.2 h0
  obtain ⟨rfl, rfl⟩ : b' = b ∧ off' = off := by rw [e'] at e; simpa using e
  exact World.block_lt_of_cell? w _ (hc 0 h0)

theorem IntsAt.ofBlock {w : World} {b : Nat} {e : TypeId} {fr : Nat × Nat} {k : IntKind} (xs : List Int) (h : w.heap[b]? = some (.cells (xs.map (Value.int k)).toArray e fr)) (hl : xs.length ≤ 9223372036854775807) : IntsAt w k (some ⟨b, 0, none⟩) xs :=
  ⟨hl, fun _ => ⟨b, 0, rfl, fun j hj => by simp [World.cell?, h, gi, hj]⟩⟩
/-- A list of numbers of the call's own, as a slice value tells it. -/
def OwnInts (w : World) (base : Nat) (k : IntKind) (e : TypeId) (v : Value) (xs : List Int) : Prop := w.ownsRow base e 1 v xs.length (xs.map (Value.int k))
theorem OwnInts.reads {w : World} {base : Nat} {k : IntKind} {e : TypeId} {v : Value} {xs : List Int} (h : OwnInts w base k e v xs) : ∃ A c, v = .slice A xs.length c ∧ xs.length ≤ c ∧ IntsAt w k A xs := by
  rcases h.2 with ⟨rfl, h0⟩ | ⟨g, cap, cur, rfl, hb, hg, h1, h2, h3, h4⟩
  · exact ⟨none, 0, by rw [h0], by omega, by omega, fun h => by omega⟩
  · refine ⟨_, cap, rfl, h1, by unfold maxLen at h2; omega, fun _ => ⟨g, 0, rfl, fun j hj => ?_⟩⟩
    have := World.ownsRow.cells (show w.ownsRow base e 1 _ xs.length (xs.map (Value.int k)) from h) (g := g) (by simp [Value.ownBlock]) j (.int k (gi xs j)) (by simp [gi, hj])
    unfold Addr.add at this
    split at this
    · rename_i e0; subst e0; simpa using this
    · simpa using this
theorem OwnInts.kept {w w1 : World} {base : Nat} {k : IntKind} {e : TypeId} {v : Value} {xs : List Int} (h : OwnInts w base k e v xs) (hk : Keeps NoB w w1) : OwnInts w1 base k e v xs :=
  World.ownsRow.kept h (hk.grownBy none) (by cases hv : v.ownBlock <;> simp)
theorem OwnInts.nil (w : World) (base : Nat) (k : IntKind) (e : TypeId) : OwnInts w base k e (.slice none 0 0) [] := World.ownsRow_nil w base e 1
theorem OwnInts.keeps {w w1 : World} {base : Nat} {k : IntKind} {e : TypeId} {v : Value} {xs : List Int} (h : OwnInts w base k e v xs) {S : Nat → Prop} (hk : Keeps S w w1) (hn : ∀ b, v.ownBlock = some b → ¬ S b) : OwnInts w1 base k e v xs := by
  refine ⟨h.1, ?_⟩
  rcases h.2 with h2 | ⟨g, cap, cur, rfl, hg, hh, r⟩
  · exact .inl h2
  · exact .inr ⟨g, cap, cur, rfl, hg, hk.heap hh (hn g (by simp [Value.ownBlock])), r⟩
theorem OwnInts.alloc {w : World} {base : Nat} {k : IntKind} {e : TypeId} {v : Value} {xs : List Int} (h : OwnInts w base k e v xs) (o : Obj) : OwnInts (w.alloc o) base k e v xs := World.ownsRow.alloc h o
theorem OwnInts.drewN {w : World} {base : Nat} {k : IntKind} {e : TypeId} {v : Value} {xs : List Int} (h : OwnInts w base k e v xs) (n : Nat) : OwnInts (w.drewN n) base k e v xs := h
theorem OwnInts.base_le {w : World} {base : Nat} {k : IntKind} {e : TypeId} {v : Value} {xs : List Int} (h : OwnInts w base k e v xs) (b : Nat) (hb : v.ownBlock = some b) : base ≤ b ∧ b < w.heap.size := World.ownsRow.lt h b hb
theorem OwnInts.lower {w : World} {base base' : Nat} {k : IntKind} {e : TypeId} {v : Value} {xs : List Int} (h : OwnInts w base k e v xs) (hb : base' ≤ base) : OwnInts w base' k e v xs := by
  refine ⟨h.1, ?_⟩
  rcases h.2 with h2 | ⟨g, cap, cur, rfl, hg, hh, r⟩
  · exact .inl h2
  · exact .inr ⟨g, cap, cur, rfl, Nat.le_trans hb hg, hh, r⟩
/-- A list of the call's own, its cells: one is written. -/
theorem OwnInts.cell {w : World} {base : Nat} {k : IntKind} {e : TypeId} {g n c : Nat} {xs : List Int} (h : OwnInts w base k e (.slice (some ⟨g, 0, none⟩) n c) xs) {j : Nat} (hj : j < xs.length) : w.cell? ⟨g, j, none⟩ = some (.int k (gi xs j)) := by
  have := World.ownsRow.cells (show w.ownsRow base e 1 _ xs.length (xs.map (Value.int k)) from h) (g := g) (by simp [Value.ownBlock]) j (.int k (gi xs j)) (by simp [gi, hj])
  unfold Addr.add at this
  split at this
  · rename_i e0; subst e0; simpa using this
  · simpa using this
theorem OwnInts.free {w : World} {base : Nat} {k : IntKind} {e : TypeId} {g n c : Nat} {xs : List Int} (h : OwnInts w base k e (.slice (some ⟨g, 0, none⟩) n c) xs) (j : Nat) : w.frozen? ⟨g, j, none⟩ = false := by
  rcases h.2 with ⟨h1, _⟩ | ⟨g', cap, cur, h1, _, hg, _⟩
  · cases h1
  · cases h1; simp [World.frozen?, hg]
theorem OwnInts.set {w : World} {base : Nat} {k : IntKind} {e : TypeId} {g n c : Nat} {xs : List Int} (h : OwnInts w base k e (.slice (some ⟨g, 0, none⟩) n c) xs) {j : Nat} (hj : j < xs.length) (y : Int) : OwnInts (w.setCell ⟨g, j, none⟩ (.int k y)) base k e (.slice (some ⟨g, 0, none⟩) n c) (xs.set j y) := by
  refine ⟨by simp, ?_⟩
  rcases h.2 with ⟨h1, _⟩ | ⟨g', cap, cur, h1, hb, hg, h2, h3, h4, h5⟩
  · cases h1
  · cases h1
    refine .inr ⟨g, c, cur.setIfInBounds j (.int k y), by rw [List.length_set], hb, ?_, by rw [List.length_set]; exact h2, h3, by simp [h4], ?_⟩
    · show (w.heap.modify g _)[g]? = _
      rw [Array.getElem?_modify, if_pos rfl, hg]; rfl
    · rw [List.length_set, Array.toList_setIfInBounds, List.take_set, h5, List.map_set]
theorem Keeps.own {S : Nat → Prop} {a b c : World} {base : Nat} {k : IntKind} {e : TypeId} {v : Value} {xs : List Int} (h : Keeps S a b) (ho : OwnInts b base k e v xs) (hg : b.grownBy c v.ownBlock) (hb : a.heap.size ≤ base) : Keeps S a c :=
  h.grown hg (fun i hi hlt => absurd (ho.base_le i hi.symm).1 (by omega))
/-- '[]int{}'. -/
theorem OwnInts.empty (w : World) (base : Nat) (k : IntKind) (e : TypeId) (hb : base ≤ w.heap.size) : OwnInts (w.alloc (.cells #[] e)) base k e (.slice (some ⟨w.heap.size, 0, none⟩) 0 0) [] :=
  World.ownsRow_made w #[] 0 hb (Nat.zero_le _) rfl
theorem cell_one (w : World) (u : Value) (e : TypeId) : (w.alloc (.cells #[u] e)).cell? ⟨w.heap.size, 0, none⟩ = some u := by
  unfold World.cell?; rw [heap_alloc_new]; rfl
/-- 'append(v, y)', v the call's own. -/
theorem wpList_app1 {P : Program} (w : World) {ops : Array Oper} {rest : List Oper} {o : Oper} {a : Act} {Q : Exit → Act → World → Prop} (hgd : o.guard = none) (s x : Operand) (t : TypeId)
    (ho : o.op = .call { callee := .builtin .append, args := #[s, x], argTypes := #[t, t] }) (base : Nat) (e : TypeId) (k : IntKind) (bytes : Nat) (ht : P.underlying t = some (.slice e))
    (hi : (P.info? e).map (fun i => (i.zero, i.size, i.bytes)) = some (some (.int k 0), 1, bytes)) (v : Value) (xs : List Int) (hs : a.eval s = v) (hown : OwnInts w base k e v xs) (bx c : Nat) (y : Int)
    (hx : a.eval x = .slice (some ⟨bx, 0, none⟩) 1 c) (hcell : w.cell? ⟨bx, 0, none⟩ = some (.int k y)) (hb : (xs.length + 1) * bytes ≤ 140737488355328) (hm : xs.length + 1 ≤ 140737488355328) (hbase : base ≤ w.heap.size)
    (h : ∀ v' w', OwnInts w' base k e v' (xs ++ [y]) → w.grownBy w' v.ownBlock → v' ≠ .slice none 0 0 → wpList P ops Q rest (a.put o.dst v') w') : wpList P ops Q (o :: rest) a w := by
  obtain ⟨i, i1, i2, i3, i4⟩ := info_parts hi
  refine wpList_append_own w hgd s x t ho base e i (.int k 0) 1 bytes ht i1 i2 i3 i4 rfl (by decide) v xs.length (xs.map (Value.int k)) hs hown ⟨bx, 0, none⟩ 1 c [.int k y] hx rfl ?_ ?_ (by unfold maxLen; omega) hb hbase ?_
  · intro j u hu
    cases j with
    | zero => simp at hu; subst hu; exact hcell
    | succ j => simp at hu
  · intro u hu; simp at hu; subst hu; rfl
  · intro v' w' h1 h2 h3
    refine h v' w' ?_ h2 (fun e => by have := (h3.1 e).2; omega)
    have : OwnInts w' base k e v' (xs ++ [y]) := by
      unfold OwnInts
      simpa using h1
    exact this
end Go.Proofs.Ytkjaacpcnjakcaa
/- The draws as plain numbers: the mixing, the state's steps, a number below another. No program in sight; no condition. -/
set_option linter.unusedVariables false
namespace Go.Proofs.Ytkjaacpcnjakcaa
open Go.RowKit

def M64 : Nat := 18446744073709551616
/-- A number of 64 bits, well mixed: how it is reckoned. -/
def mixR (z : Nat) : Nat :=
  let a := ((z ^^^ z / 1073741824) * 13787848793156543929) % 18446744073709551616
  let b := ((a ^^^ a / 134217728) * 10723151780598845931) % 18446744073709551616
  b ^^^ b / 2147483648
theorem xor_lt64 {a b : Nat} (ha : a < 18446744073709551616) (hb : b < 18446744073709551616) : a ^^^ b < 18446744073709551616 := Nat.xor_lt_two_pow (n := 64) ha hb
/-- Both functions behind a name that the kernel doesn't open (it would count great numbers one by one). -/
theorem draws_ex : ∃ p : (Nat → Nat) × (Nat → Nat), (∀ z, p.1 z = mixR z) ∧ ∀ s, p.2 s = (s + 11400714819323198485) % 18446744073709551616 := ⟨(mixR, fun s => (s + 11400714819323198485) % 18446744073709551616), fun _ => rfl, fun _ => rfl⟩
/-- A number of 64 bits, well mixed. -/
noncomputable def mixN : Nat → Nat := (Classical.choose draws_ex).1
theorem mixN_def (z : Nat) : mixN z = mixR z := (Classical.choose_spec draws_ex).1 z
theorem mixN_lt (z : Nat) : mixN z < 18446744073709551616 := by
  rw [mixN_def]
  unfold mixR
  simp only
  generalize h : ((_ : Nat) * 10723151780598845931) % 18446744073709551616 = b
  have hb : b < 18446744073709551616 := by rw [← h]; exact Nat.mod_lt _ (by omega)
  exact xor_lt64 hb (Nat.lt_of_le_of_lt (Nat.div_le_self _ _) hb)

theorem cast64 : ((18446744073709551616 : Nat) : Int) = 18446744073709551616 := rfl
theorem cast_mulmod (a c : Nat) : IntKind.u64.wrap ((a : Int) * (c : Int)) = ((a * c % 18446744073709551616 : Nat) : Int) := by
  rw [IntKind.wrap_u64, Int.natCast_emod, Int.natCast_mul, cast64]
theorem wrap_tdiv (x c : Nat) (h : x < 18446744073709551616) : IntKind.u64.wrap (((x : Nat) : Int).tdiv (c : Int)) = ((x / c : Nat) : Int) := by
  rw [Int.tdiv_eq_ediv_of_nonneg (by omega), IntKind.wrap_u64, ← Int.natCast_ediv, ← cast64, ← Int.natCast_emod]
  rw [Nat.mod_eq_of_lt (Nat.lt_of_le_of_lt (Nat.div_le_self _ _) h)]
theorem mix_eq (z : Nat) (h : z < 18446744073709551616) :
    (bits BinOp.xor IntKind.u64 (IntKind.u64.wrap (bits BinOp.xor IntKind.u64 (IntKind.u64.wrap (bits BinOp.xor IntKind.u64 (z : Int) ((z : Int) / 1073741824) * 13787848793156543929)) (IntKind.u64.wrap (bits BinOp.xor IntKind.u64 (z : Int) ((z : Int) / 1073741824) * 13787848793156543929) / 134217728) * 10723151780598845931))
      (IntKind.u64.wrap (bits BinOp.xor IntKind.u64 (IntKind.u64.wrap (bits BinOp.xor IntKind.u64 (z : Int) ((z : Int) / 1073741824) * 13787848793156543929)) (IntKind.u64.wrap (bits BinOp.xor IntKind.u64 (z : Int) ((z : Int) / 1073741824) * 13787848793156543929) / 134217728) * 10723151780598845931) / 2147483648)) = ((mixN z : Nat) : Int) := by
  have e1 : bits BinOp.xor IntKind.u64 (z : Int) ((z : Int) / 1073741824) = ((z ^^^ z / 1073741824 : Nat) : Int) := xorShift_u64 z 1073741824 h
  have e2 : IntKind.u64.wrap (((z ^^^ z / 1073741824 : Nat) : Int) * 13787848793156543929) = (((z ^^^ z / 1073741824) * 13787848793156543929 % 18446744073709551616 : Nat) : Int) := cast_mulmod _ 13787848793156543929
  rw [e1, e2]
  generalize ha : (z ^^^ z / 1073741824) * 13787848793156543929 % 18446744073709551616 = a
  have ha' : a < 18446744073709551616 := by rw [← ha]; exact Nat.mod_lt _ (by omega)
  have e3 : bits BinOp.xor IntKind.u64 (a : Int) ((a : Int) / 134217728) = ((a ^^^ a / 134217728 : Nat) : Int) := xorShift_u64 a 134217728 ha'
  have e4 : IntKind.u64.wrap (((a ^^^ a / 134217728 : Nat) : Int) * 10723151780598845931) = (((a ^^^ a / 134217728) * 10723151780598845931 % 18446744073709551616 : Nat) : Int) := cast_mulmod _ 10723151780598845931
  rw [e3, e4]
  generalize hb : (a ^^^ a / 134217728) * 10723151780598845931 % 18446744073709551616 = b
  have hb' : b < 18446744073709551616 := by rw [← hb]; exact Nat.mod_lt _ (by omega)
  have e5 : bits BinOp.xor IntKind.u64 (b : Int) ((b : Int) / 2147483648) = ((b ^^^ b / 2147483648 : Nat) : Int) := xorShift_u64 b 2147483648 hb'
  rw [e5]
  rw [mixN_def]
  unfold mixR
  simp only [ha, hb]
theorem mix_eq' (z : Nat) (h : z < 18446744073709551616) :
    (bits BinOp.xor IntKind.u64 (IntKind.u64.wrap (bits BinOp.xor IntKind.u64 (IntKind.u64.wrap (bits BinOp.xor IntKind.u64 (z : Int) ((z : Int) / 1073741824) * 13787848793156543929)) (IntKind.u64.wrap ((IntKind.u64.wrap (bits BinOp.xor IntKind.u64 (z : Int) ((z : Int) / 1073741824) * 13787848793156543929)).tdiv 134217728)) * 10723151780598845931))
      (IntKind.u64.wrap ((IntKind.u64.wrap (bits BinOp.xor IntKind.u64 (IntKind.u64.wrap (bits BinOp.xor IntKind.u64 (z : Int) ((z : Int) / 1073741824) * 13787848793156543929)) (IntKind.u64.wrap ((IntKind.u64.wrap (bits BinOp.xor IntKind.u64 (z : Int) ((z : Int) / 1073741824) * 13787848793156543929)).tdiv 134217728)) * 10723151780598845931)).tdiv 2147483648))) = ((mixN z : Nat) : Int) := by
  have e1 : bits BinOp.xor IntKind.u64 (z : Int) ((z : Int) / 1073741824) = ((z ^^^ z / 1073741824 : Nat) : Int) := xorShift_u64 z 1073741824 h
  have e2 : IntKind.u64.wrap (((z ^^^ z / 1073741824 : Nat) : Int) * 13787848793156543929) = (((z ^^^ z / 1073741824) * 13787848793156543929 % 18446744073709551616 : Nat) : Int) := cast_mulmod _ 13787848793156543929
  rw [e1, e2]
  generalize ha : (z ^^^ z / 1073741824) * 13787848793156543929 % 18446744073709551616 = a
  have ha' : a < 18446744073709551616 := by rw [← ha]; exact Nat.mod_lt _ (by omega)
  have t1 : IntKind.u64.wrap ((a : Int).tdiv 134217728) = ((a / 134217728 : Nat) : Int) := wrap_tdiv a 134217728 ha'
  rw [t1]
  have e3 : bits BinOp.xor IntKind.u64 (a : Int) ((a / 134217728 : Nat) : Int) = ((a ^^^ a / 134217728 : Nat) : Int) := by
    have := xorShift_u64 a 134217728 ha'
    rw [← this, Int.natCast_ediv]
  have e4 : IntKind.u64.wrap (((a ^^^ a / 134217728 : Nat) : Int) * 10723151780598845931) = (((a ^^^ a / 134217728) * 10723151780598845931 % 18446744073709551616 : Nat) : Int) := cast_mulmod _ 10723151780598845931
  rw [e3, e4]
  generalize hb : (a ^^^ a / 134217728) * 10723151780598845931 % 18446744073709551616 = b
  have hb' : b < 18446744073709551616 := by rw [← hb]; exact Nat.mod_lt _ (by omega)
  have t2 : IntKind.u64.wrap ((b : Int).tdiv 2147483648) = ((b / 2147483648 : Nat) : Int) := wrap_tdiv b 2147483648 hb'
  rw [t2]
  have e5 : bits BinOp.xor IntKind.u64 (b : Int) ((b / 2147483648 : Nat) : Int) = ((b ^^^ b / 2147483648 : Nat) : Int) := by
    have := xorShift_u64 b 2147483648 hb'
    rw [← this, Int.natCast_ediv]
  rw [e5]
  rw [mixN_def]
  unfold mixR
  simp only [ha, hb]

/-- The state behind a number that is drawn; the number. -/
noncomputable def nxS : Nat → Nat := (Classical.choose draws_ex).2
theorem nxS_def (s : Nat) : nxS s = (s + 11400714819323198485) % 18446744073709551616 := (Classical.choose_spec draws_ex).2 s
noncomputable def nxV (s : Nat) : Nat := mixN (nxS s)
theorem nxS_lt (s : Nat) : nxS s < 18446744073709551616 := by rw [nxS_def]; exact Nat.mod_lt _ (by omega)
theorem nxV_lt (s : Nat) : nxV s < 18446744073709551616 := mixN_lt _
theorem nxS_eq (s : Nat) : IntKind.u64.wrap ((s : Int) + 11400714819323198485) = ((nxS s : Nat) : Int) := by
  rw [IntKind.wrap_u64, nxS_def]; rw [Int.natCast_emod, Int.natCast_add, cast64]; rfl
/-- Seeds, one behind the other. -/
noncomputable def seedStep (s x : Nat) : Nat := mixN (nxS s ^^^ x)
noncomputable def seedN (l : List Nat) : Nat := l.foldl seedStep 0
theorem seedStep_lt (s x : Nat) : seedStep s x < 18446744073709551616 := mixN_lt _
/-- Draws again, at most so often, until the number isn't among the few. -/
noncomputable def tries (few : Nat) : Nat → Nat → Nat × Nat
  | 0, s => (nxS s, nxV s)
  | k + 1, s => if nxV s < few then tries few k (nxS s) else (nxS s, nxV s)
def fewN (n : Nat) : Nat := (18446744073709551616 - n) % n
theorem few_eq (n : Nat) (h1 : 1 ≤ n) (h2 : n ≤ 9223372036854775807) : (IntKind.u64.wrap (-(n : Int))).tmod (n : Int) = ((fewN n : Nat) : Int) := by
  have e : IntKind.u64.wrap (-(n : Int)) = ((18446744073709551616 - n : Nat) : Int) := by rw [IntKind.wrap_u64]; omega
  rw [e]; unfold fewN; rfl
theorem few_eq' (n : Nat) (h1 : 1 ≤ n) (h2 : n ≤ 9223372036854775807) : (IntKind.u64.wrap (18446744073709551615 % (n : Int) + 1)).tmod (n : Int) = ((fewN n : Nat) : Int) := by
  have hm := Nat.mod_lt 18446744073709551615 (show 0 < n by omega)
  have e0 : (18446744073709551615 : Int) % (n : Int) = ((18446744073709551615 % n : Nat) : Int) := by rw [Int.natCast_emod]; rfl
  have e : IntKind.u64.wrap (18446744073709551615 % (n : Int) + 1) = ((18446744073709551615 % n + 1 : Nat) : Int) := by
    rw [IntKind.wrap_u64, e0]; omega
  rw [e]
  show (((18446744073709551615 % n + 1) % n : Nat) : Int) = _
  have e2 : fewN n = (18446744073709551615 + 1) % n := by
    unfold fewN
    have h3 : (18446744073709551616 : Nat) = (18446744073709551616 - n) + n := by omega
    have h4 : (18446744073709551616 - n + n) % n = (18446744073709551616 - n) % n := Nat.add_mod_right _ _
    rw [← h4, ← h3]
  rw [e2, Nat.add_mod, Nat.add_mod 18446744073709551615 1 n, Nat.mod_mod]
theorem rem_eq (x n : Nat) (h1 : 1 ≤ n) (h2 : n ≤ 9223372036854775807) : wrap64 ((x : Int) % (n : Int)) = ((x % n : Nat) : Int) := by
  have := Nat.mod_lt x (show 0 < n by omega)
  rw [← Int.natCast_emod]
  unfold wrap64; omega
/-- A number below n: the state behind it, and the number. -/
noncomputable def belowN (s n : Nat) : Nat × Nat := if n = 0 then (s, 0) else ((tries (fewN n) 15 s).1, (tries (fewN n) 15 s).2 % n)
theorem tries_zero (few s : Nat) : tries few 0 s = (nxS s, nxV s) := rfl
theorem tries_succ (few k s : Nat) : tries few (k + 1) s = if nxV s < few then tries few k (nxS s) else (nxS s, nxV s) := rfl
theorem tries_le (few k s : Nat) (h : ¬ nxV s < few) : tries few k s = (nxS s, nxV s) := by
  cases k with
  | zero => rfl
  | succ k => rw [tries_succ, if_neg h]
theorem tries_bound (few k B : Nat) (h1 : ∀ s, nxS s < B) (h2 : ∀ s, nxV s < B) : ∀ s, (tries few k s).1 < B ∧ (tries few k s).2 < B := by
  induction k with
  | zero => intro s; rw [tries_zero]; exact ⟨h1 s, h2 s⟩
  | succ k ih =>
    intro s
    rw [tries_succ]
    by_cases h : nxV s < few
    · rw [if_pos h]; exact ih _
    · rw [if_neg h]; exact ⟨h1 s, h2 s⟩
theorem belowN_zero (s : Nat) : belowN s 0 = (s, 0) := by unfold belowN; rw [if_pos rfl]
theorem belowN_pos (s n : Nat) (h : 0 < n) : belowN s n = ((tries (fewN n) 15 s).1, (tries (fewN n) 15 s).2 % n) := by unfold belowN; rw [if_neg (by omega)]
theorem belowN_bound (s n B : Nat) (h1 : ∀ s, nxS s < B) (h2 : ∀ s, nxV s < B) (hs : s < B) : (belowN s n).1 < B := by
  rcases Nat.eq_zero_or_pos n with rfl | h
  · rw [belowN_zero]; exact hs
  · rw [belowN_pos s n h]
    generalize ht : tries (fewN n) 15 s = t
    have := (tries_bound (fewN n) 15 B h1 h2 s).1
    rw [ht] at this
    exact this
theorem belowN_lt (s n : Nat) (hs : s < 18446744073709551616) : (belowN s n).1 < 18446744073709551616 := belowN_bound s n _ nxS_lt nxV_lt hs
theorem belowN_below (s n : Nat) (hn : 0 < n) : (belowN s n).2 < n := by
  unfold belowN; rw [if_neg (by omega)]; exact Nat.mod_lt _ hn
end Go.Proofs.Ytkjaacpcnjakcaa
/- The draws: the walks of package rng and of its reference. No condition but that numbers are of their kinds. -/
set_option linter.unusedVariables false
namespace Go.Proofs.Ytkjaacpcnjakcaa
open Go.RowKit

/-- Numbers of 64 bits that are read. -/
def NatsAt (w : World) (A : Option Addr) (xs : List Nat) : Prop := IntsAt w .u64 A (xs.map (fun n : Nat => (n : Int))) ∧ ∀ x ∈ xs, x < 18446744073709551616
theorem gi_map (xs : List Nat) (j : Nat) (h : j < xs.length) : gi (xs.map (fun n : Nat => (n : Int))) j = ((xs.getD j 0 : Nat) : Int) := by
  simp [gi, h]
theorem seed_take (xs : List Nat) (k : Nat) (h : k < xs.length) : seedN (xs.take (k + 1)) = seedStep (seedN (xs.take k)) (xs.getD k 0) := by
  unfold seedN
  rw [List.take_succ_eq_append_getElem h, List.foldl_append]
  simp [h]
theorem seedN_lt (xs : List Nat) : seedN xs < 18446744073709551616 := by
  rcases Nat.eq_zero_or_pos xs.length with h | h
  · rw [List.length_eq_zero_iff.1 h]; exact Nat.lt_of_lt_of_le (show seedN [] < 1 from Nat.zero_lt_one) (by omega)
  · have := seed_take xs (xs.length - 1) (by omega)
    rw [show xs.length - 1 + 1 = xs.length by omega, List.take_length] at this
    rw [this]; exact seedStep_lt _ _
theorem xorsum_eq (s x : Nat) (hx : x < 18446744073709551616) : bits BinOp.xor IntKind.u64 (IntKind.u64.wrap ((s : Int) + 11400714819323198485)) (x : Int) = ((nxS s ^^^ x : Nat) : Int) := by
  rw [nxS_eq]; exact u64_xor_nat _ _ (nxS_lt s) hx
end Go.Proofs.Ytkjaacpcnjakcaa
/- From what came in to this seat's words: slices of numbers. -/
set_option linter.unusedVariables false
namespace Go.Proofs.Ytkjaacpcnjakcaa
open Go.ChangeShapes Go.WideShapes Go.ChangeAt Go.RowKit

theorem own0 : ownKnob Try.prog.godebug = none := by kernel_rfl
theorem laidOut0 : laidOutB Try.prog = true := by kernel_rfl
def IsRow (k : IntKind) (w : World) (a : Option Addr) (len cap : Nat) (zs : List Int) : Prop :=
  (a = none ∧ len = 0 ∧ cap = 0 ∧ zs = []) ∨
  ∃ x, a = some x ∧ len ≤ cap ∧ cap ≤ maxLen ∧ zs.length = cap ∧ (∀ i, i < zs.length → w.cell? (x.add i) = some (.int k (zs.getD i 0))) ∧ ∀ n ∈ zs, (Lit.int k n).wf = true
theorem IsRow.ints {k : IntKind} {w : World} {a : Option Addr} {len cap : Nat} {zs : List Int} (h : IsRow k w a len cap zs) : ∃ xs : List Int, len = xs.length ∧ xs.length ≤ cap ∧ IntsAt w k a xs ∧ ∀ n ∈ xs, (Lit.int k n).wf = true := by
  rcases h with ⟨rfl, rfl, rfl, rfl⟩ | ⟨x, rfl, hl, hm, hz, hc, hw⟩
  · exact ⟨[], rfl, Nat.le_refl _, ⟨by simp, fun h => by simp at h⟩, by simp⟩
  · have hlen : (zs.take len).length = len := by rw [List.length_take]; omega
    refine ⟨zs.take len, hlen.symm, by omega, ⟨by unfold maxLen at hm; omega, fun h0 => ?_⟩, fun n hn => hw n (List.mem_of_mem_take hn)⟩
    obtain ⟨b, off, spot⟩ := x
    have hs : spot = none := by
      have := hc 0 (by omega)
      simpa [Addr.add] using World.cell?_spot this
    subst hs
    refine ⟨b, off, rfl, fun j hj => ?_⟩
    have h1 := hc j (by omega)
    have h2 : gi (zs.take len) j = zs.getD j 0 := by
      rw [hlen] at hj
      simp [gi, hj]
    rw [h2]
    unfold Addr.add at h1
    split at h1
    · rename_i e; subst e; simpa using h1
    · simpa using h1
/-- A field (or a cell) that is a slice of numbers. -/
theorem cell_ints {H : Type} {enc : TypeId × Value → H} {W : World} {base : Nat} {sp : Nat → Bool} {held : Bool} {n : Nat} {T E : TypeId} {k : IntKind} {v : Value} {y : DataW H × List MemPlace} (ht : Try.prog.underlying T = some (.slice E)) (he : Try.prog.underlying E = some (.int k)) (hc : Try.prog.cellsOf E = 1)
    (hsp : ∀ b, sp b = true) (h : DataW.trod enc Try.prog W base sp held n T [v] = some y) : ∃ (xs : List Int) (a : Option Addr) (cap : Nat), v = .slice a xs.length cap ∧ xs.length ≤ cap ∧ IntsAt W k a xs ∧ ∀ n ∈ xs, (Lit.int k n).wf = true := by
  rcases open_ints ht he hc h with ⟨hcs, _⟩ | ⟨x, l, c, zs, hcs, _, hl, hm, hz, _, hcell, hwz⟩
  · have : v = .slice none 0 0 := by simpa using hcs
    subst this
    exact ⟨[], none, 0, rfl, Nat.le_refl _, ⟨by simp, fun h => by simp at h⟩, by simp⟩
  · have : v = .slice (some x) l c := by simpa using hcs
    subst this
    rw [hsp, if_pos rfl] at hz
    obtain ⟨xs, rfl, h1, h2, h3⟩ := IsRow.ints (k := k) (w := W) (a := some x) (len := l) (cap := c) (zs := zs) (.inr ⟨x, rfl, hl, hm, hz, hcell, hwz⟩)
    exact ⟨xs, _, _, rfl, h1, h2, h3⟩
theorem cell_int {H : Type} {enc : TypeId × Value → H} {W : World} {base : Nat} {sp : Nat → Bool} {held : Bool} {n : Nat} {T : TypeId} {k : IntKind} {v : Value} {y : DataW H × List MemPlace} (ht : Try.prog.underlying T = some (.int k))
    (h : DataW.trod enc Try.prog W base sp held n T [v] = some y) : ∃ x : Int, v = .int k x ∧ (Lit.int k x).wf = true := by
  obtain ⟨x, hcs, _, hw⟩ := DataW.trod_int ht h
  exact ⟨x, by simpa using hcs, hw⟩
theorem wf_u64_bounds {n : Int} (h : (Lit.int .u64 n).wf = true) : 0 ≤ n ∧ n < 18446744073709551616 := by
  have := Go.bounds_u64 h
  omega
theorem wf_i64_bounds {n : Int} (h : (Lit.int .i64 n).wf = true) : -9223372036854775808 ≤ n ∧ n ≤ 9223372036854775807 := by
  have := Go.bounds_i64 h
  omega
theorem NatsAt.ofInts {w : World} {a : Option Addr} {xs : List Int} (h : IntsAt w .u64 a xs) (hw : ∀ n ∈ xs, (Lit.int .u64 n).wf = true) : ∃ ns : List Nat, xs.length = ns.length ∧ NatsAt w a ns := by
  have e : xs = (xs.map Int.toNat).map (fun n : Nat => (n : Int)) := by
    rw [List.map_map]
    conv => lhs; rw [← List.map_id xs]
    apply List.map_congr_left
    intro n hn
    have := (wf_u64_bounds (hw n hn)).1
    simp; omega
  refine ⟨xs.map Int.toNat, by simp, by rw [← e]; exact h, fun x hx => ?_⟩
  obtain ⟨n, hn, rfl⟩ := List.mem_map.1 hx
  have := wf_u64_bounds (hw n hn)
  omega
end Go.Proofs.Ytkjaacpcnjakcaa
/- The references' draws, lists that rise, and samples: their walks. Conditions: numbers are of their kinds; lengths bounded where lists grow. -/
set_option linter.unusedVariables false
namespace Go.Proofs.Ytkjaacpcnjakcaa
open Go.RowKit

theorem has_step (xs : List Int) (n : Int) (k : Nat) (h : k < xs.length) : decide (n ∈ xs.take (k + 1)) = (decide (n ∈ xs.take k) || (gi xs k == n)) := by
  rw [List.take_succ_eq_append_getElem h, gi_eq xs k h]
  rw [Bool.eq_iff_iff]
  simp only [List.mem_append, List.mem_singleton, Bool.or_eq_true, decide_eq_true_eq, beq_iff_eq]
  constructor
  · rintro (h | h)
    · exact .inl h
    · exact .inr h.symm
  · rintro (h | h)
    · exact .inl h
    · exact .inr h.symm
set_option maxHeartbeats 400000 in
theorem has_calls (xs : List Int) (n : Int) (A : Option Addr) (c : Nat) (w : World) (h : IntsAt w .i64 A xs) :
    Calls Try.prog 17 #[.slice A xs.length c, .int .i64 n] w fun e w' => e = .returned (.bool (decide (n ∈ xs))) ∧ Keeps NoB w w' := by
  have hlen := h.len
  have HA := hid h
  clear h
  go_enter Try.func17, Try.ntmps17
  go_wp2_with fail
  go_loopw [5] (fun v5 wr => ∃ k : Nat, k ≤ xs.length ∧ v5 = .int .i64 k ∧ Hid (¬ n ∈ xs.take k) ∧ Hid (Keeps NoB w wr)) (fun v5 _ => xs.length - (intOf v5).toNat)
  case atStart => exact ⟨0, Nat.zero_le _, rfl, by simp [Hid], Keeps.refl _ w⟩
  case round =>
    obtain ⟨k, hk, rfl, HN, HK⟩ := hrel
    by_cases hlt : k < xs.length
    · obtain ⟨b, off, rfl, h1⟩ := HA.out.get (by omega)
      have c1 : wr.cell? ⟨b, off + k, none⟩ = some (.int .i64 (gi xs k)) := HK.out.cell (h1 k hlt) (fun h => h)
      clear h1
      have hs := has_step xs n k hlt
      rw [decide_eq_false HN.out, Bool.false_or] at hs
      by_cases he : gi xs k = n
      · have hd : (gi xs k == n) = true := by simp [he]
        have hin := hid (show n ∈ xs from by rw [← he]; exact gi_mem xs k hlt)
        clear hs he
        go_wp2_with fail
        go_ret
        exact ⟨congrArg (fun x => Ending.returned (.bool x)) (decide_eq_true hin.out).symm, HK.out⟩
      · have hd : (gi xs k == n) = false := by simp [he]
        have hs2 := hid (of_decide_eq_false (hs.trans hd))
        clear hs he
        go_wp2_with fail
        go_roundw
        case rel => exact ⟨k + 1, by omega, by go_num, hs2, HK⟩
        case measure => simp [intOf]; omega
    · obtain rfl : k = xs.length := by omega
      have hin := HN.out
      rw [List.take_length] at hin
      have hin := hid hin
      go_wp2_with fail
      go_ret
      exact ⟨congrArg (fun x => Ending.returned (.bool x)) (decide_eq_false hin.out).symm, HK.out⟩

theorem drop_gi (xs : List Int) (k : Nat) (h : k < xs.length) : xs.drop k = gi xs k :: xs.drop (k + 1) := by
  rw [gi_eq xs k h]; exact List.drop_eq_getElem_cons h
/-- A number put among some that rise. -/
def ins (n : Int) : List Int → List Int
  | [] => [n]
  | x :: r => if n < x then n :: x :: r else x :: ins n r
theorem ins_length (n : Int) (xs : List Int) : (ins n xs).length = xs.length + 1 := by
  induction xs with
  | nil => rfl
  | cons x r ih => unfold ins; split <;> simp [ih]
theorem info_int : (Try.prog.info? 3).map (fun i => (i.zero, i.size, i.bytes)) = some (some (.int .i64 0), 1, 8) := by kernel_rfl
set_option maxHeartbeats 400000 in
theorem insert_calls (xs : List Int) (n : Int) (A : Option Addr) (c : Nat) (w : World) (h : IntsAt w .i64 A xs) (hb : xs.length ≤ 1073741824) :
    Calls Try.prog 42 #[.slice A xs.length c, .int .i64 n] w fun e w' => ∃ v, e = .returned v ∧ OwnInts w' w.heap.size .i64 3 v (ins n xs) ∧ Keeps NoB w w' := by
  have HA := hid h
  clear h
  have hu := Try.underlying27
  go_enter Try.func42, Try.ntmps42
  go_wp2_with fail
  go_loopw [5, 6, 7] (fun v5 v6 v7 wr => ∃ (k : Nat) (ys : List Int) (b : Bool), k ≤ xs.length ∧ v7 = .int .i64 k ∧ v6 = .bool b ∧ ys.length ≤ k + 1 ∧ (b = false → ys.length ≤ k) ∧ OwnInts wr w.heap.size .i64 3 v5 ys ∧ Hid (ins n xs = ys ++ (if b then xs.drop k else ins n (xs.drop k))) ∧ Hid (Keeps NoB w wr)) (fun _ _ v7 _ => xs.length - (intOf v7).toNat)
  case atStart => exact ⟨0, [], false, Nat.zero_le _, rfl, rfl, by simp, by simp, OwnInts.empty w _ _ _ (Nat.le_refl _), rfl, (Keeps.refl _ w).alloc _⟩
  case round =>
    obtain ⟨k, ys, b, hk, rfl, rfl, hy1, hy2, hown, HI, HK⟩ := hrel
    have hsz := HK.out.size
    by_cases hlt : k < xs.length
    · obtain ⟨b0, off, rfl, h1⟩ := HA.out.get (by omega)
      have c1 : wr.cell? ⟨b0, off + k, none⟩ = some (.int .i64 (gi xs k)) := HK.out.cell (h1 k hlt) (fun h => h)
      have H1 := hid (h1 k hlt)
      clear h1
      have hdr := hid (drop_gi xs k hlt)
      cases b with
      | true =>
        go_wp2_with (at_builtin; refine wpList_app1 _ rfl _ _ 27 rfl w.heap.size 3 .i64 8 hu info_int _ _ rfl (OwnInts.alloc (by assumption) _) _ _ _ rfl (cell_one _ _ _) (by first | omega | (simp only [List.length_append, List.length_cons, List.length_nil]; omega)) (by first | omega | (simp only [List.length_append, List.length_cons, List.length_nil]; omega)) (by simp; omega) ?_; intro v1 w1 hown1 hgr1 _)
        go_roundw
        case rel => exact ⟨k + 1, ys ++ [gi xs k], true, by omega, by go_num, rfl, by simp; omega, by simp, hown1, hid (by rw [HI.out, hdr.out]; simp), (HK.out.alloc _).own (hown.alloc _) hgr1 (Nat.le_refl _)⟩
        case measure => simp [intOf]; omega
      | false =>
        have hy3 := hy2 rfl
        clear hy2
        by_cases hn : n < gi xs k
        · have hd : decide (n < gi xs k) = true := decide_eq_true hn
          have tok1 : True := trivial
          go_wp2_with (first
            | (at_builtin; have _t := tok1; go_must (refine wpList_app1 _ rfl _ _ 27 rfl w.heap.size 3 .i64 8 hu info_int _ _ rfl (hown.alloc _) _ _ _ rfl (cell_one _ _ _) (by omega) (by omega) (by simp; omega) ?_); intro v1 w1 hown1 hgr1 _; clear tok1 _t; have HK1 := hid ((HK.out.alloc _).own (hown.alloc _) hgr1 (Nat.le_refl _)); have c2 := HK1.out.cell H1.out (fun h => h); have hsz1 := HK1.out.size)
            | (at_builtin; go_must (refine wpList_app1 _ rfl _ _ 27 rfl w.heap.size 3 .i64 8 hu info_int _ _ rfl (hown1.alloc _) _ _ _ rfl (cell_one _ _ _) (by first | omega | (simp only [List.length_append, List.length_cons, List.length_nil]; omega)) (by first | omega | (simp only [List.length_append, List.length_cons, List.length_nil]; omega)) (by simp; omega) ?_); intro v2 w2 hown2 hgr2 _))
          go_roundw
          case rel => exact ⟨k + 1, ys ++ [n] ++ [gi xs k], true, by omega, by go_num, rfl, by simp; omega, by simp, hown2, hid (by rw [HI.out, hdr.out]; simp [ins, hn]), (HK1.out.alloc _).own (hown1.alloc _) hgr2 (Nat.le_refl _)⟩
          case measure => simp [intOf]; omega
        · have hd : decide (n < gi xs k) = false := decide_eq_false hn
          have hn := hid hn
          go_wp2_with (at_builtin; refine wpList_app1 _ rfl _ _ 27 rfl w.heap.size 3 .i64 8 hu info_int _ _ rfl (OwnInts.alloc (by assumption) _) _ _ _ rfl (cell_one _ _ _) (by first | omega | (simp only [List.length_append, List.length_cons, List.length_nil]; omega)) (by first | omega | (simp only [List.length_append, List.length_cons, List.length_nil]; omega)) (by simp; omega) ?_; intro v1 w1 hown1 hgr1 _)
          go_roundw
          case rel => exact ⟨k + 1, ys ++ [gi xs k], false, by omega, by go_num, rfl, by simp; omega, by simp; omega, hown1, hid (by rw [HI.out, hdr.out]; simp [ins, hn.out]), (HK.out.alloc _).own (hown.alloc _) hgr1 (Nat.le_refl _)⟩
          case measure => simp [intOf]; omega
    · obtain rfl : k = xs.length := by omega
      cases b with
      | true =>
        go_wp2_with fail
        go_ret
        refine ⟨_, rfl, ?_, HK.out⟩
        have := HI.out
        simp only [List.drop_length, if_true, List.append_nil] at this
        rw [this]; exact hown
      | false =>
        have hy3 := hy2 rfl
        clear hy2
        go_wp2_with (at_builtin; refine wpList_app1 _ rfl _ _ 27 rfl w.heap.size 3 .i64 8 hu info_int _ _ rfl (OwnInts.alloc (by assumption) _) _ _ _ rfl (cell_one _ _ _) (by first | omega | (simp only [List.length_append, List.length_cons, List.length_nil]; omega)) (by first | omega | (simp only [List.length_append, List.length_cons, List.length_nil]; omega)) (by simp; omega) ?_; intro v1 w1 hown1 hgr1 _)
        go_ret
        refine ⟨_, rfl, ?_, (HK.out.alloc _).own (hown.alloc _) hgr1 (Nat.le_refl _)⟩
        have := HI.out
        rw [List.drop_length] at this
        rw [this]; exact hown1
end Go.Proofs.Ytkjaacpcnjakcaa
/- Rows of rows of the call's own: lists that are written, each in a row of its own. No program's walk; no condition. -/
set_option linter.unusedVariables false
namespace Go.Proofs.Ytkjaacpcnjakcaa
open Go.RowKit

/-- The list at a place; none behind it. -/
def gl (ls : List (List Int)) (j : Nat) : List Int := ls.getD j []
theorem gl_eq (ls : List (List Int)) (j : Nat) (h : j < ls.length) : gl ls j = ls[j] := by simp [gl, h]
theorem gl_set (ls : List (List Int)) (j k : Nat) (l : List Int) : gl (ls.set j l) k = if k = j ∧ j < ls.length then l else gl ls k := by
  unfold gl
  rw [List.getD_eq_getElem?_getD, List.getD_eq_getElem?_getD, List.getElem?_set]
  by_cases h : j = k
  · subst h
    by_cases h2 : j < ls.length
    · simp [h2]
    · simp [h2]
  · rw [if_neg h, if_neg (fun e => h e.1.symm)]
theorem gl_snoc (ls : List (List Int)) (l : List Int) (k : Nat) : gl (ls ++ [l]) k = if k = ls.length then l else gl ls k := by
  unfold gl
  rw [List.getD_eq_getElem?_getD, List.getD_eq_getElem?_getD, List.getElem?_append]
  by_cases h : k < ls.length
  · rw [if_pos h, if_neg (by omega)]
  · rw [if_neg h]
    by_cases h2 : k = ls.length
    · subst h2; simp
    · rw [if_neg h2, List.getElem?_eq_none (by simp; omega), List.getElem?_eq_none (by omega)]

theorem own_block {w : World} {base : Nat} {e : TypeId} {size n : Nat} {v : Value} {xs : List Value} (h : w.ownsRow base e size v n xs) (k : Nat) (hk : v.ownBlock = some k) : ∃ cells, w.heap[k]? = some (.cells cells e (0, 0)) := by
  rcases h.2 with ⟨rfl, _⟩ | ⟨g, cap, cur, rfl, hg, hh, r⟩
  · simp [Value.ownBlock] at hk
  · have : g = k := by simpa [Value.ownBlock] using hk
    subst this
    exact ⟨cur, hh⟩
/-- A block of another type is none of an owned row. -/
theorem own_ne {w : World} {base : Nat} {e T : TypeId} {size n : Nat} {v : Value} {xs : List Value} (h : w.ownsRow base e size v n xs) {k : Nat} {cells : Array Value} {fr : Nat × Nat} (hk : w.heap[k]? = some (.cells cells T fr)) (hT : e ≠ T) : v.ownBlock ≠ some k := by
  intro hb
  obtain ⟨cells', hc⟩ := own_block h k hb
  rw [hk] at hc
  injection hc with hc
  injection hc with _ hc
  exact hT hc.symm
theorem own_keeps {w w1 : World} {base : Nat} {e : TypeId} {size n : Nat} {v : Value} {xs : List Value} (h : w.ownsRow base e size v n xs) {S : Nat → Prop} (hk : Keeps S w w1) (hn : ∀ b, v.ownBlock = some b → ¬ S b) : w1.ownsRow base e size v n xs := by
  refine ⟨h.1, ?_⟩
  rcases h.2 with h2 | ⟨g, cap, cur, rfl, hg, hh, r⟩
  · exact .inl h2
  · exact .inr ⟨g, cap, cur, rfl, hg, hk.heap hh (hn g (by simp [Value.ownBlock])), r⟩
theorem own_set {w : World} {base : Nat} {e : TypeId} {g n c m : Nat} {xs : List Value} (h : w.ownsRow base e 1 (.slice (some ⟨g, 0, none⟩) n c) m xs) {j : Nat} (y : Value) : (w.setCell ⟨g, j, none⟩ y).ownsRow base e 1 (.slice (some ⟨g, 0, none⟩) n c) m (xs.set j y) := by
  refine ⟨by rw [List.length_set]; exact h.1, ?_⟩
  rcases h.2 with ⟨h1, _⟩ | ⟨g', cap, cur, h1, hb, hg, h2, h3, h4, h5⟩
  · cases h1
  · cases h1
    refine .inr ⟨g, c, cur.setIfInBounds j y, rfl, hb, ?_, h2, h3, by simp [h4], ?_⟩
    · show (w.heap.modify g _)[g]? = _
      rw [Array.getElem?_modify, if_pos rfl, hg]; rfl
    · rw [Array.toList_setIfInBounds, List.take_set, h5]
theorem own_cell {w : World} {base : Nat} {e : TypeId} {g n c m : Nat} {xs : List Value} (h : w.ownsRow base e 1 (.slice (some ⟨g, 0, none⟩) n c) m xs) {j : Nat} {u : Value} (hj : xs[j]? = some u) : w.cell? ⟨g, j, none⟩ = some u := by
  have := World.ownsRow.cells h (g := g) (by simp [Value.ownBlock]) j u hj
  unfold Addr.add at this
  split at this
  · rename_i e0; subst e0; simpa using this
  · simpa using this
theorem own_free {w : World} {base : Nat} {e : TypeId} {g n c m : Nat} {xs : List Value} (h : w.ownsRow base e 1 (.slice (some ⟨g, 0, none⟩) n c) m xs) (j : Nat) : w.frozen? ⟨g, j, none⟩ = false := by
  rcases h.2 with ⟨h1, _⟩ | ⟨g', cap, cur, h1, _, hg, _⟩
  · cases h1
  · cases h1; simp [World.frozen?, hg]

/-- Rows of the call's own, each with its list, no two in one block. -/
structure OwnAll (w : World) (B : Nat) (us : List Value) (ls : List (List Int)) : Prop where
  len : us.length = ls.length
  own : ∀ j u, us[j]? = some u → OwnInts w B .i64 3 u (gl ls j)
  apart : ∀ (j k : Nat) (u v : Value) (b : Nat), us[j]? = some u → us[k]? = some v → j ≠ k → u.ownBlock = some b → v.ownBlock ≠ some b
theorem OwnAll.keeps {w w1 : World} {B : Nat} {us : List Value} {ls : List (List Int)} (h : OwnAll w B us ls) {S : Nat → Prop} (hk : Keeps S w w1) (hn : ∀ (j : Nat) (u : Value) (b : Nat), us[j]? = some u → u.ownBlock = some b → ¬ S b) : OwnAll w1 B us ls :=
  ⟨h.len, fun j u hu => (h.own j u hu).keeps hk (fun b hb => hn j u b hu hb), h.apart⟩
theorem OwnAll.kept {w w1 : World} {B : Nat} {us : List Value} {ls : List (List Int)} (h : OwnAll w B us ls) (hk : Keeps NoB w w1) : OwnAll w1 B us ls := h.keeps hk (fun _ _ _ _ _ h => h)
theorem OwnAll.nils (w : World) (B n : Nat) : OwnAll w B (List.replicate n (.slice none 0 0)) (List.replicate n []) := by
  refine ⟨by simp, fun j u hu => ?_, fun j k u v b hu hv hjk hb => ?_⟩
  · rw [List.getElem?_replicate] at hu
    split at hu
    · cases hu
      have : gl (List.replicate n []) j = [] := by unfold gl; rw [List.getD_eq_getElem?_getD, List.getElem?_replicate]; split <;> rfl
      rw [this]; exact OwnInts.nil w B .i64 _
    · cases hu
  · rw [List.getElem?_replicate] at hu
    split at hu
    · cases hu; simp [Value.ownBlock] at hb
    · cases hu
theorem OwnAll.lt {w : World} {B : Nat} {us : List Value} {ls : List (List Int)} (h : OwnAll w B us ls) (j : Nat) (u : Value) (b : Nat) (hu : us[j]? = some u) (hb : u.ownBlock = some b) : B ≤ b ∧ b < w.heap.size := (h.own j u hu).base_le b hb
/-- One more, in a block that is new. -/
theorem OwnAll.snoc {w : World} {B : Nat} {us : List Value} {ls : List (List Int)} (h : OwnAll w B us ls) {u : Value} {l : List Int} (hu : OwnInts w B .i64 3 u l) (hn : ∀ (j : Nat) (v : Value) (b : Nat), us[j]? = some v → v.ownBlock = some b → u.ownBlock ≠ some b) : OwnAll w B (us ++ [u]) (ls ++ [l]) := by
  refine ⟨by simp [h.len], fun j v hv => ?_, fun j k x y b hx hy hjk hb => ?_⟩
  · rw [gl_snoc]
    rw [List.getElem?_append] at hv
    split at hv
    · rename_i hj
      rw [if_neg (by have := h.len; omega)]; exact h.own j v hv
    · rename_i hj
      have hjl : j < (us ++ [u]).length := by
        rcases Nat.lt_or_ge j (us ++ [u]).length with h1 | h1
        · exact h1
        · rw [List.getElem?_eq_none (by simp at h1 ⊢; omega)] at hv; cases hv
      have hj2 : j = us.length := by simp at hjl; omega
      subst hj2
      simp at hv; subst hv
      rw [if_pos h.len]; exact hu
  · rw [List.getElem?_append] at hx hy
    split at hx
    · split at hy
      · exact h.apart j k x y b hx hy hjk hb
      · rename_i h1 h2
        have : y = u := by
          rcases Nat.lt_or_ge (k - us.length) 1 with h3 | h3
          · rw [show k - us.length = 0 by omega] at hy; simpa using hy.symm
          · rw [List.getElem?_eq_none (by simpa using h3)] at hy; cases hy
        subst this
        exact hn j x b hx hb
    · rename_i h1
      have : x = u ∧ j = us.length := by
        rcases Nat.lt_or_ge (j - us.length) 1 with h3 | h3
        · rw [show j - us.length = 0 by omega] at hx
          exact ⟨by simpa using hx.symm, by omega⟩
        · rw [List.getElem?_eq_none (by simpa using h3)] at hx; cases hx
      obtain ⟨rfl, hj⟩ := this
      split at hy
      · intro hb2; exact hn k y b hy hb2 hb
      · rename_i h2
        rcases Nat.lt_or_ge (k - us.length) 1 with h3 | h3
        · exact absurd (show j = k by omega) hjk
        · rw [List.getElem?_eq_none (by simpa using h3)] at hy; cases hy
/-- One row is another one now: its own block's, or a new one's. -/
theorem OwnAll.set {w w1 : World} {B j : Nat} {us : List Value} {ls : List (List Int)} (h : OwnAll w B us ls) {u u' : Value} {l : List Int} (hj : us[j]? = some u) (hk : Keeps (fun k => some k = u.ownBlock) w w1) (hu : OwnInts w1 B .i64 3 u' l) (hb : ∀ b, u'.ownBlock = some b → u.ownBlock = some b ∨ w.heap.size ≤ b) :
    OwnAll w1 B (us.set j u') (ls.set j l) := by
  have hjl : j < us.length := (List.getElem?_eq_some_iff.1 hj).1
  refine ⟨by simp [h.len], fun k v hv => ?_, fun k m x y b hx hy hkm hbx => ?_⟩
  · rw [gl_set]
    rw [List.getElem?_set] at hv
    split at hv
    · rename_i e; subst e
      (try simp only [hjl, if_true] at hv); cases hv
      rw [if_pos ⟨rfl, by rw [← h.len]; exact hjl⟩]; exact hu
    · rename_i e
      rw [if_neg (fun e2 => e e2.1.symm)]
      exact (h.own k v hv).keeps hk (fun b hb2 hb3 => h.apart j k u v b hj hv (fun e2 => e e2) hb3.symm hb2)
  · rw [List.getElem?_set] at hx hy
    split at hx
    · rename_i e; subst e
      (try simp only [hjl, if_true] at hx); cases hx
      rw [if_neg hkm] at hy
      intro hby
      rcases hb b hbx with h1 | h1
      · exact h.apart j m u y b hj hy hkm h1 hby
      · have := (h.lt m y b hy hby).2; omega
    · rename_i e
      split at hy
      · rename_i e2; subst e2
        (try simp only [hjl, if_true] at hy); cases hy
        intro hby
        rcases hb b hby with h1 | h1
        · exact h.apart j k u x b hj hx (fun e3 => e e3) h1 hbx
        · have := (h.lt k x b hx hbx).2; omega
      · exact h.apart k m x y b hx hy hkm hbx

/-- A row that is read, as a cell tells it. -/
def RowAt (w : World) (u : Value) (l : List Int) : Prop := ∃ A c, u = .slice A l.length c ∧ l.length ≤ c ∧ (A = none → c = 0) ∧ IntsAt w .i64 A l
/-- Rows that are read. -/
def RowsAt (w : World) (A : Option Addr) (ls : List (List Int)) : Prop :=
  ls.length ≤ 9223372036854775807 ∧ (0 < ls.length → ∃ b off, A = some ⟨b, off, none⟩ ∧ ∀ j, j < ls.length → ∃ u, w.cell? ⟨b, off + j, none⟩ = some u ∧ RowAt w u (gl ls j))
theorem OwnInts.row {w : World} {base : Nat} {e : TypeId} {v : Value} {xs : List Int} (h : OwnInts w base .i64 e v xs) : RowAt w v xs := by
  obtain ⟨A, c, hv, h1, h2⟩ := h.reads
  refine ⟨A, c, hv, h1, fun hA => ?_, h2⟩
  rcases h.2 with ⟨h3, _⟩ | ⟨g, cap, cur, h3, _⟩
  · rw [hv] at h3; injection h3
  · rw [hv, hA] at h3; injection h3 with h4 _ _; cases h4
/-- 'append(v, xs...)', v the call's own, whatever xs is. -/
theorem wpList_appInts {P : Program} (w : World) {ops : Array Oper} {rest : List Oper} {o : Oper} {a : Act} {Q : Exit → Act → World → Prop} (hgd : o.guard = none) (s x : Operand) (t : TypeId)
    (ho : o.op = .call { callee := .builtin .append, args := #[s, x], argTypes := #[t, t] }) (base : Nat) (e : TypeId) (k : IntKind) (bytes : Nat) (ht : P.underlying t = some (.slice e))
    (hi : (P.info? e).map (fun i => (i.zero, i.size, i.bytes)) = some (some (.int k 0), 1, bytes)) (v : Value) (ys : List Int) (hs : a.eval s = v) (hown : OwnInts w base k e v ys) (A : Option Addr) (c : Nat) (xs : List Int)
    (hx : a.eval x = .slice A xs.length c) (hA : A = none → c = 0) (hat : IntsAt w k A xs) (hb : (ys.length + xs.length) * bytes ≤ 140737488355328) (hm : ys.length + xs.length ≤ 140737488355328) (hbase : base ≤ w.heap.size)
    (h : ∀ v' w', OwnInts w' base k e v' (ys ++ xs) → w.grownBy w' v.ownBlock → wpList P ops Q rest (a.put o.dst v') w') : wpList P ops Q (o :: rest) a w := by
  obtain ⟨i, i1, i2, i3, i4⟩ := info_parts hi
  cases A with
  | none =>
    have hn : xs = [] := by
      rcases Nat.eq_zero_or_pos xs.length with h0 | h0
      · exact List.length_eq_zero_iff.1 h0
      · obtain ⟨b, off, e, _⟩ := hat.get h0; cases e
    subst hn
    rw [hA rfl] at hx
    refine wpList_append_own_none hgd s x t ho base e i 1 ht i1 v ys.length _ hs hown hx (h v w ?_ ⟨rfl, rfl, rfl, Nat.le_refl _, fun _ _ _ => rfl⟩)
    rw [List.append_nil]; exact hown
  | some ad =>
    refine wpList_append_own w hgd s x t ho base e i (.int k 0) 1 bytes ht i1 i2 i3 i4 rfl (by decide) v ys.length (ys.map (Value.int k)) hs hown ad xs.length c (xs.map (Value.int k)) hx (by simp) ?_ (ints_oneCell k xs) (by unfold maxLen; omega) hb hbase ?_
    · intro j u hu
      rw [List.getElem?_map] at hu
      obtain ⟨y, hy, rfl⟩ := Option.map_eq_some_iff.1 hu
      obtain ⟨hj, hyj⟩ := List.getElem?_eq_some_iff.1 hy
      obtain ⟨b, off, e, hc⟩ := hat.get (by omega)
      cases e
      have := hc j hj
      rw [gi_eq xs j hj, hyj] at this
      unfold Addr.add
      split
      · rename_i e0; subst e0; simpa using this
      · exact this
    · intro v' w' h1 h2 h3
      refine h v' w' ?_ h2
      unfold OwnInts
      simpa using h1
/-- 'append(v, u)' of one cell of whatever kind, v the call's own; and where it lies. -/
theorem wpList_app1V {P : Program} (w : World) {ops : Array Oper} {rest : List Oper} {o : Oper} {a : Act} {Q : Exit → Act → World → Prop} (hgd : o.guard = none) (s x : Operand) (t : TypeId)
    (ho : o.op = .call { callee := .builtin .append, args := #[s, x], argTypes := #[t, t] }) (base : Nat) (e : TypeId) (z : Value) (bytes : Nat) (ht : P.underlying t = some (.slice e))
    (hi : (P.info? e).map (fun i => (i.zero, i.size, i.bytes)) = some (some z, 1, bytes)) (hz : z.cells.size = 1) (v : Value) (n : Nat) (xs : List Value) (hs : a.eval s = v) (hown : w.ownsRow base e 1 v n xs) (bx c : Nat) (y : Value) (hy : y.oneCell' = true)
    (hx : a.eval x = .slice (some ⟨bx, 0, none⟩) 1 c) (hcell : w.cell? ⟨bx, 0, none⟩ = some y) (hb : (n + 1) * bytes ≤ 140737488355328) (hm : n + 1 ≤ 140737488355328) (hbase : base ≤ w.heap.size)
    (h : ∀ g cap w', w'.ownsRow base e 1 (.slice (some ⟨g, 0, none⟩) (n + 1) cap) (n + 1) (xs ++ [y]) → w.grownBy w' v.ownBlock → (v.ownBlock = some g ∨ g = w.heap.size) → wpList P ops Q rest (a.put o.dst (.slice (some ⟨g, 0, none⟩) (n + 1) cap)) w') : wpList P ops Q (o :: rest) a w := by
  obtain ⟨i, i1, i2, i3, i4⟩ := info_parts hi
  refine wpList_append_lies (H := w.heap.size) (hH := rfl) (w := w) hgd s x t ho base e i z 1 bytes ht i1 i2 i3 i4 hz (by decide) v n xs hs hown ⟨bx, 0, none⟩ 1 c [y] hx rfl ?_ ?_ (by omega) (by unfold maxLen; omega) hb hbase ?_
  · intro j u hu
    cases j with
    | zero => simp at hu; subst hu; exact hcell
    | succ j => simp at hu
  · intro u hu; simp at hu; subst hu; exact hy
  · intro g cap w' h1 h2 h3 _
    exact h g cap w' h1 h2 h3
/-- 'append(v, y)' at a step of a region that draws its order. -/
theorem step_app1 {P : Program} {w : World} {ops : Array Oper} {o : Oper} {a : Act} {K : Act → World → Prop} {Q : Exit → Act → World → Prop} {E : Prop} (hgd : o.guard = none) (s x : Operand) (t : TypeId)
    (ho : o.op = .call { callee := .builtin .append, args := #[s, x], argTypes := #[t, t] }) (base : Nat) (e : TypeId) (k : IntKind) (bytes : Nat) (ht : P.underlying t = some (.slice e))
    (hi : (P.info? e).map (fun i => (i.zero, i.size, i.bytes)) = some (some (.int k 0), 1, bytes)) (v : Value) (xs : List Int) (hs : a.eval s = v) (hown : OwnInts w base k e v xs) (bx c : Nat) (y : Int)
    (hx : a.eval x = .slice (some ⟨bx, 0, none⟩) 1 c) (hcell : w.cell? ⟨bx, 0, none⟩ = some (.int k y)) (hb : (xs.length + 1) * bytes ≤ 140737488355328) (hm : xs.length + 1 ≤ 140737488355328) (hbase : base ≤ w.heap.size)
    (h : ∀ g cap w', OwnInts w' base k e (.slice (some ⟨g, 0, none⟩) (xs.length + 1) cap) (xs ++ [y]) → w.grownBy w' v.ownBlock → (v.ownBlock = some g ∨ g = w.heap.size) → K (a.put o.dst (.slice (some ⟨g, 0, none⟩) (xs.length + 1) cap)) w') :
    if Region.wanted o (yielded ops a.tmps) = true then Oper.wp P o a w K Q else E := by
  obtain ⟨i, i1, i2, i3, i4⟩ := info_parts hi
  refine step_append_lies (H := w.heap.size) (hH := rfl) (w := w) hgd s x t ho base e i (.int k 0) 1 bytes ht i1 i2 i3 i4 rfl (by decide) v xs.length (xs.map (Value.int k)) hs hown ⟨bx, 0, none⟩ 1 c [.int k y] hx rfl ?_ ?_ (by omega) (by unfold maxLen; omega) hb hbase ?_
  · intro j u hu
    cases j with
    | zero => simp at hu; subst hu; exact hcell
    | succ j => simp at hu
  · intro u hu; simp at hu; subst hu; rfl
  · intro g cap w' h1 h2 h3 _
    refine h g cap w' ?_ h2 h3
    have : OwnInts w' base k e (.slice (some ⟨g, 0, none⟩) (xs.length + 1) cap) (xs ++ [y]) := by
      unfold OwnInts
      simpa using h1
    exact this
theorem RowAt.kept {w w1 : World} {u : Value} {l : List Int} (h : RowAt w u l) (hk : Keeps NoB w w1) : RowAt w1 u l := by
  obtain ⟨A, c, e, h1, h0, h2⟩ := h
  exact ⟨A, c, e, h1, h0, h2.kept hk⟩
theorem RowsAt.kept {w w1 : World} {A : Option Addr} {ls : List (List Int)} (h : RowsAt w A ls) (hk : Keeps NoB w w1) : RowsAt w1 A ls := by
  refine ⟨h.1, fun h0 => ?_⟩
  obtain ⟨b, off, e, hc⟩ := h.2 h0
  refine ⟨b, off, e, fun j hj => ?_⟩
  obtain ⟨u, h1, h2⟩ := hc j hj
  exact ⟨u, hk.cell h1 (fun h => h), h2.kept hk⟩
theorem OwnAll.rows {w : World} {B g n c : Nat} {base : Nat} {e : TypeId} {us : List Value} {ls : List (List Int)} (h : OwnAll w B us ls) (hr : w.ownsRow base e 1 (.slice (some ⟨g, 0, none⟩) n c) us.length us) (hl : ls.length ≤ 9223372036854775807) : RowsAt w (some ⟨g, 0, none⟩) ls := by
  refine ⟨hl, fun _ => ⟨g, 0, rfl, fun j hj => ?_⟩⟩
  have hj' : j < us.length := by rw [h.len]; exact hj
  have hu : us[j]? = some us[j] := List.getElem?_eq_getElem hj'
  refine ⟨us[j], by rw [Nat.zero_add]; exact own_cell hr hu, ?_⟩
  exact (h.own j _ hu).row
/-- What is read at a world stays so where other blocks turn: its own all lie below a bound. -/
def Stays (H : Nat) (w : World) (P : World → Prop) : Prop := H ≤ w.heap.size ∧ ∀ w', (∀ k, k < H → w'.heap[k]? = w.heap[k]?) → P w'
theorem Stays.now {H : Nat} {w : World} {P : World → Prop} (h : Stays H w P) : P w := h.2 w (fun _ _ => rfl)
theorem Stays.keeps {H : Nat} {w w1 : World} {P : World → Prop} (h : Stays H w P) {S : Nat → Prop} (hk : Keeps S w w1) (hn : ∀ k, k < H → ¬ S k) : Stays H w1 P :=
  ⟨Nat.le_trans h.1 hk.size, fun w' hw' => h.2 w' (fun k hl => (hw' k hl).trans (hk.block k (Nat.lt_of_lt_of_le hl h.1) (hn k hl)))⟩
theorem Stays.kept {H : Nat} {w w1 : World} {P : World → Prop} (h : Stays H w P) (hk : Keeps NoB w w1) : Stays H w1 P := h.keeps hk (fun _ _ h => h)
theorem cell_same {w w' : World} (hw : ∀ k, k < w.heap.size → w'.heap[k]? = w.heap[k]?) {a : Addr} {v : Value} (hc : w.cell? a = some v) : w'.cell? a = some v :=
  (World.cell?_of_block (hw a.block (World.block_lt_of_cell? w a hc))).trans hc
theorem IntsAt.same {w w' : World} {k : IntKind} {A : Option Addr} {xs : List Int} (h : IntsAt w k A xs) (hw : ∀ k, k < w.heap.size → w'.heap[k]? = w.heap[k]?) : IntsAt w' k A xs :=
  ⟨h.1, fun h0 => by
    obtain ⟨b, off, e, hc⟩ := h.2 h0
    exact ⟨b, off, e, fun j hj => cell_same hw (hc j hj)⟩⟩
theorem RowAt.same {w w' : World} {u : Value} {l : List Int} (h : RowAt w u l) (hw : ∀ k, k < w.heap.size → w'.heap[k]? = w.heap[k]?) : RowAt w' u l := by
  obtain ⟨A, c, e, h1, h0, h2⟩ := h
  exact ⟨A, c, e, h1, h0, h2.same hw⟩
theorem RowsAt.same {w w' : World} {A : Option Addr} {ls : List (List Int)} (h : RowsAt w A ls) (hw : ∀ k, k < w.heap.size → w'.heap[k]? = w.heap[k]?) : RowsAt w' A ls := by
  refine ⟨h.1, fun h0 => ?_⟩
  obtain ⟨b, off, e, hc⟩ := h.2 h0
  refine ⟨b, off, e, fun j hj => ?_⟩
  obtain ⟨u, h1, h2⟩ := hc j hj
  exact ⟨u, cell_same hw h1, h2.same hw⟩
end Go.Proofs.Ytkjaacpcnjakcaa
/- Lists of bytes, and lists of such lists: how they are read, and where they lie. No condition. -/
set_option linter.unusedVariables false
namespace Go.Proofs.Ytkjaacpcnjakcaa
open Go.RowKit

/-- Bytes, as numbers. -/
def enc8 (l : List UInt8) : List Int := l.map fun x => (x.toNat : Int)
theorem enc8_length (l : List UInt8) : (enc8 l).length = l.length := by simp [enc8]
theorem enc8_append (a b : List UInt8) : enc8 (a ++ b) = enc8 a ++ enc8 b := by simp [enc8]
def gb (l : List UInt8) (j : Nat) : UInt8 := l.getD j 0
theorem gb_eq (l : List UInt8) (j : Nat) (h : j < l.length) : gb l j = l[j] := by simp [gb, h]
theorem gi_enc8 (l : List UInt8) (j : Nat) (h : j < l.length) : gi (enc8 l) j = ((gb l j).toNat : Int) := by simp [gi, enc8, gb, h]
theorem enc8_set (l : List UInt8) (j : Nat) (x : UInt8) : (enc8 l).set j (x.toNat : Int) = enc8 (l.set j x) := by simp [enc8, List.map_set]
theorem enc8_inj {a b : List UInt8} (h : enc8 a = enc8 b) : a = b := by
  induction a generalizing b with
  | nil => cases b with
    | nil => rfl
    | cons y b => simp [enc8] at h
  | cons x a ih => cases b with
    | nil => simp [enc8] at h
    | cons y b =>
      simp only [enc8, List.map_cons, List.cons.injEq] at h
      obtain ⟨h1, h2⟩ := h
      rw [ih (b := b) h2, UInt8.toNat_inj.1 (by omega : x.toNat = y.toNat)]
theorem byte_lt (x : UInt8) : x.toNat < 256 := x.toNat_lt
/-- Bytes that are read at an address, in a block of some. -/
def BytesIn (R : Nat → Prop) (w : World) (A : Option Addr) (l : List UInt8) : Prop := IntsAt w .u8 A (enc8 l) ∧ ∀ b off, A = some ⟨b, off, none⟩ → 0 < l.length → R b
theorem BytesIn.len {R : Nat → Prop} {w : World} {A : Option Addr} {l : List UInt8} (h : BytesIn R w A l) : l.length ≤ 9223372036854775807 := by have := h.1.len; rwa [enc8_length] at this
theorem BytesIn.get {R : Nat → Prop} {w : World} {A : Option Addr} {l : List UInt8} (h : BytesIn R w A l) (h0 : 0 < l.length) : ∃ b off, A = some ⟨b, off, none⟩ ∧ R b ∧ ∀ j, j < l.length → w.cell? ⟨b, off + j, none⟩ = some (.int .u8 ((gb l j).toNat : Int)) := by
  obtain ⟨b, off, e, hc⟩ := h.1.get (by rw [enc8_length]; exact h0)
  exact ⟨b, off, e, h.2 b off e h0, fun j hj => by rw [← gi_enc8 l j hj]; exact hc j (by rw [enc8_length]; exact hj)⟩
theorem BytesIn.keeps {R S : Nat → Prop} {w w1 : World} {A : Option Addr} {l : List UInt8} (h : BytesIn R w A l) (hk : Keeps S w w1) (hn : ∀ b, R b → ¬ S b) : BytesIn R w1 A l :=
  ⟨h.1.keeps hk (fun b off e h0 => hn b (h.2 b off e (by rwa [enc8_length] at h0))), h.2⟩
theorem BytesIn.kept {R : Nat → Prop} {w w1 : World} {A : Option Addr} {l : List UInt8} (h : BytesIn R w A l) (hk : Keeps NoB w w1) : BytesIn R w1 A l := h.keeps hk (fun _ _ h => h)
theorem BytesIn.mono {R R' : Nat → Prop} {w : World} {A : Option Addr} {l : List UInt8} (h : BytesIn R w A l) (hr : ∀ b, b < w.heap.size → R b → R' b) : BytesIn R' w A l :=
  ⟨h.1, fun b off e h0 => hr b (h.1.lt b off e (by rw [enc8_length]; exact h0)) (h.2 b off e h0)⟩
theorem BytesIn.lt {R : Nat → Prop} {w : World} {A : Option Addr} {l : List UInt8} (h : BytesIn R w A l) : BytesIn (fun b => R b ∧ b < w.heap.size) w A l :=
  h.mono (fun b h1 h2 => ⟨h2, h1⟩)
theorem BytesIn.nil (R : Nat → Prop) (w : World) : BytesIn R w none [] := ⟨⟨by simp [enc8], fun h => by simp [enc8] at h⟩, fun b off e => by cases e⟩
def RowIn (R : Nat → Prop) (w : World) (u : Value) (l : List UInt8) : Prop := ∃ A c, u = .slice A l.length c ∧ l.length ≤ c ∧ (A = none → c = 0) ∧ BytesIn R w A l
theorem RowIn.keeps {R S : Nat → Prop} {w w1 : World} {u : Value} {l : List UInt8} (h : RowIn R w u l) (hk : Keeps S w w1) (hn : ∀ b, R b → ¬ S b) : RowIn R w1 u l := by
  obtain ⟨A, c, h1, h2, h3, h4⟩ := h
  exact ⟨A, c, h1, h2, h3, h4.keeps hk hn⟩
theorem RowIn.mono {R R' : Nat → Prop} {w : World} {u : Value} {l : List UInt8} (h : RowIn R w u l) (hr : ∀ b, b < w.heap.size → R b → R' b) : RowIn R' w u l := by
  obtain ⟨A, c, h1, h2, h3, h4⟩ := h
  exact ⟨A, c, h1, h2, h3, h4.mono hr⟩
def gr (ls : List (List UInt8)) (j : Nat) : List UInt8 := ls.getD j []
theorem gr_eq (ls : List (List UInt8)) (j : Nat) (h : j < ls.length) : gr ls j = ls[j] := by simp [gr, h]
theorem gr_mem (ls : List (List UInt8)) (j : Nat) (h : j < ls.length) : gr ls j ∈ ls := by rw [gr_eq ls j h]; exact List.getElem_mem h
/-- Lists of bytes that are read at an address, all in blocks of some. -/
def RowsIn (R : Nat → Prop) (w : World) (A : Option Addr) (ls : List (List UInt8)) : Prop :=
  ls.length ≤ 9223372036854775807 ∧ (0 < ls.length → ∃ b off, A = some ⟨b, off, none⟩ ∧ R b ∧ ∀ j, j < ls.length → ∃ u, w.cell? ⟨b, off + j, none⟩ = some u ∧ RowIn R w u (gr ls j))
theorem RowsIn.len {R : Nat → Prop} {w : World} {A : Option Addr} {ls : List (List UInt8)} (h : RowsIn R w A ls) : ls.length ≤ 9223372036854775807 := h.1
theorem RowsIn.keeps {R S : Nat → Prop} {w w1 : World} {A : Option Addr} {ls : List (List UInt8)} (h : RowsIn R w A ls) (hk : Keeps S w w1) (hn : ∀ b, R b → ¬ S b) : RowsIn R w1 A ls :=
  ⟨h.1, fun h0 => by
    obtain ⟨b, off, e, hb, hc⟩ := h.2 h0
    refine ⟨b, off, e, hb, fun j hj => ?_⟩
    obtain ⟨u, h1, h2⟩ := hc j hj
    exact ⟨u, hk.cell h1 (hn b hb), h2.keeps hk hn⟩⟩
theorem RowsIn.kept {R : Nat → Prop} {w w1 : World} {A : Option Addr} {ls : List (List UInt8)} (h : RowsIn R w A ls) (hk : Keeps NoB w w1) : RowsIn R w1 A ls := h.keeps hk (fun _ _ h => h)
theorem RowsIn.mono {R R' : Nat → Prop} {w : World} {A : Option Addr} {ls : List (List UInt8)} (h : RowsIn R w A ls) (hr : ∀ b, b < w.heap.size → R b → R' b) : RowsIn R' w A ls :=
  ⟨h.1, fun h0 => by
    obtain ⟨b, off, e, hb, hc⟩ := h.2 h0
    obtain ⟨u0, h1, _⟩ := hc 0 h0
    refine ⟨b, off, e, hr b (World.block_lt_of_cell? w _ h1) hb, fun j hj => ?_⟩
    obtain ⟨u, h1, h2⟩ := hc j hj
    exact ⟨u, h1, h2.mono hr⟩⟩
theorem RowsIn.lt {R : Nat → Prop} {w : World} {A : Option Addr} {ls : List (List UInt8)} (h : RowsIn R w A ls) : RowsIn (fun b => R b ∧ b < w.heap.size) w A ls := h.mono (fun b h1 h2 => ⟨h2, h1⟩)
theorem RowsIn.nil (R : Nat → Prop) (w : World) (A : Option Addr) : RowsIn R w A [] := ⟨by simp, fun h => by simp at h⟩
/-- Bytes of the call's own. -/
def OwnB (w : World) (base : Nat) (v : Value) (l : List UInt8) : Prop := OwnInts w base .u8 5 v (enc8 l)
theorem OwnInts.form {w : World} {base : Nat} {k : IntKind} {e : TypeId} {v : Value} {xs : List Int} (h : OwnInts w base k e v xs) (h0 : 0 < xs.length) : ∃ g c, v = .slice (some ⟨g, 0, none⟩) xs.length c := by
  rcases h.2 with ⟨rfl, h1⟩ | ⟨g, cap, cur, rfl, _⟩
  · omega
  · exact ⟨g, cap, rfl⟩
theorem OwnB.reads {w : World} {base : Nat} {v : Value} {l : List UInt8} (h : OwnB w base v l) : ∃ A c, v = .slice A l.length c ∧ l.length ≤ c ∧ (A = none → c = 0) ∧ BytesIn (fun b => v.ownBlock = some b) w A l := by
  rcases h.2 with ⟨rfl, h0⟩ | ⟨g, cap, cur, rfl, hb, hg, h1, h2, h3, h4⟩
  · rw [enc8_length] at h0
    have hl : l = [] := List.length_eq_zero_iff.1 h0
    subst hl
    exact ⟨none, 0, rfl, Nat.le_refl _, fun _ => rfl, BytesIn.nil _ _⟩
  · obtain ⟨A, c, e, hc, hat⟩ := OwnInts.reads h
    injection e with e1 e2 e3
    subst e1 e3
    rw [enc8_length] at *
    refine ⟨_, cap, rfl, hc, fun e => (by cases e), hat, fun b off e h0 => ?_⟩
    injection e with e; injection e with e _
    subst e
    rfl
theorem OwnB.bytes {w : World} {base : Nat} {A : Option Addr} {n c : Nat} {l : List UInt8} (h : OwnB w base (.slice A n c) l) : BytesIn (fun b => base ≤ b) w A l := by
  obtain ⟨A', c', e, h1, h2, h3⟩ := h.reads
  injection e with e1 e2 e3
  subst e1 e3
  refine ⟨h3.1, fun b off e h0 => ?_⟩
  exact (OwnInts.base_le h b (h3.2 b off e h0)).1
theorem OwnB.row {w : World} {base : Nat} {v : Value} {l : List UInt8} (h : OwnB w base v l) : RowIn (fun b => v.ownBlock = some b) w v l := by
  obtain ⟨A, c, h1, h2, h3, h4⟩ := h.reads
  exact ⟨A, c, h1, h2, h3, h4⟩
/-- Blocks, put upon each other. -/
def xorL (a b : List UInt8) : List UInt8 := List.zipWith (· ^^^ ·) a b
theorem xorL_length {a b : List UInt8} (h : b.length = a.length) : (xorL a b).length = a.length := by simp [xorL, h]
theorem gb_xorL {a b : List UInt8} (h : b.length = a.length) (j : Nat) (hj : j < a.length) : gb (xorL a b) j = gb a j ^^^ gb b j := by
  rw [gb_eq _ _ (by rw [xorL_length h]; exact hj), gb_eq _ _ hj, gb_eq _ _ (by omega)]
  simp [xorL]
/-- The first k bytes are put upon each other. -/
def xorTo (a b : List UInt8) (k : Nat) : List UInt8 := xorL (a.take k) (b.take k) ++ a.drop k
theorem xorTo_zero (a b : List UInt8) : xorTo a b 0 = a := by simp [xorTo, xorL]
theorem xorTo_full (a b : List UInt8) (h : b.length = a.length) : xorTo a b a.length = xorL a b := by
  unfold xorTo; rw [List.take_length, List.drop_length, List.append_nil, ← h, List.take_length]
theorem xorTo_length (a b : List UInt8) (h : b.length = a.length) (k : Nat) : (xorTo a b k).length = a.length := by
  unfold xorTo; rw [List.length_append, xorL_length (by simp [h]), List.length_take, List.length_drop]; omega
theorem xorTo_at (a b : List UInt8) (h : b.length = a.length) (k : Nat) (hk : k < a.length) : gb (xorTo a b k) k = gb a k := by
  unfold xorTo gb
  have hl : (xorL (a.take k) (b.take k)).length = k := by rw [xorL_length (by simp [h])]; simp; omega
  rw [List.getD_eq_getElem?_getD, List.getElem?_append_right (by omega), hl, Nat.sub_self, List.getElem?_drop, Nat.add_zero, List.getD_eq_getElem?_getD]
theorem xorTo_set (a b : List UInt8) (h : b.length = a.length) (k : Nat) (hk : k < a.length) : (xorTo a b k).set k (gb a k ^^^ gb b k) = xorTo a b (k + 1) := by
  have hl : (xorL (a.take k) (b.take k)).length = k := by rw [xorL_length (by simp [h])]; simp; omega
  unfold xorTo
  rw [List.set_append_right _ _ (by omega), hl, Nat.sub_self]
  have hd : a.drop k = a[k] :: a.drop (k + 1) := List.drop_eq_getElem_cons hk
  have ht : xorL (a.take (k + 1)) (b.take (k + 1)) = xorL (a.take k) (b.take k) ++ [gb a k ^^^ gb b k] := by
    unfold xorL
    rw [List.take_succ_eq_append_getElem hk, List.take_succ_eq_append_getElem (by omega : k < b.length), List.zipWith_append (by simp; omega), gb_eq a k hk, gb_eq b k (by omega)]
    rfl
  rw [ht, hd, List.set_cons_zero, List.append_assoc]; rfl
theorem xor_byte (x y : UInt8) : bits BinOp.xor IntKind.u8 (x.toNat : Int) (y.toNat : Int) = ((x ^^^ y).toNat : Int) := by
  rw [u8_xor_nat _ _ (byte_lt x) (byte_lt y), UInt8.toNat_xor]
theorem or_byte (x y : UInt8) : bits BinOp.or IntKind.u8 (x.toNat : Int) (y.toNat : Int) = ((x ||| y).toNat : Int) := by
  rw [u8_or_nat _ _ (byte_lt x) (byte_lt y), UInt8.toNat_or]
/-- All of some blocks, put upon one. -/
def xorAll (a : List UInt8) (ls : List (List UInt8)) : List UInt8 := ls.foldl xorL a
def fitB (n : Nat) (ls : List (List UInt8)) : Bool := ls.all fun l => decide (l.length = n)
theorem fitB_at {n : Nat} {ls : List (List UInt8)} (h : fitB n ls = true) (j : Nat) (hj : j < ls.length) : (gr ls j).length = n := by
  have := List.all_eq_true.1 h (gr ls j) (gr_mem ls j hj)
  simpa using this
theorem xorAll_length (a : List UInt8) (ls : List (List UInt8)) (h : fitB a.length ls = true) : (xorAll a ls).length = a.length := by
  induction ls generalizing a with
  | nil => rfl
  | cons l r ih =>
    simp only [fitB, List.all_cons, Bool.and_eq_true, decide_eq_true_eq] at h
    show (xorAll (xorL a l) r).length = _
    have hl := xorL_length h.1
    rw [ih _ (by rw [hl]; exact h.2), hl]
theorem xorAll_snoc (a : List UInt8) (ls : List (List UInt8)) (l : List UInt8) : xorAll a (ls ++ [l]) = xorL (xorAll a ls) l := by unfold xorAll; rw [List.foldl_append]; rfl
theorem gb_xorAll (a : List UInt8) (ls : List (List UInt8)) (h : fitB a.length ls = true) (j : Nat) (hj : j < a.length) : gb (xorAll a ls) j = ls.foldl (fun x l => x ^^^ gb l j) (gb a j) := by
  induction ls generalizing a with
  | nil => rfl
  | cons l r ih =>
    simp only [fitB, List.all_cons, Bool.and_eq_true, decide_eq_true_eq] at h
    have hl := xorL_length h.1
    show gb (xorAll (xorL a l) r) j = _
    rw [ih _ (by rw [hl]; exact h.2) (by omega), gb_xorL h.1 j hj]; rfl
theorem list_gb (l : List UInt8) : l = (List.range l.length).map (gb l) := by
  apply List.ext_getElem
  · simp
  · intro i h1 h2; simp [gb, h1]
/-- Blocks of so many bytes, all put upon each other. -/
def sumB (n : Nat) (ls : List (List UInt8)) : List UInt8 := xorAll (List.replicate n 0) ls
theorem sumB_length {n : Nat} {ls : List (List UInt8)} (h : fitB n ls = true) : (sumB n ls).length = n := by
  unfold sumB; rw [xorAll_length _ _ (by simpa using h)]; simp
/-- One byte of a sum, of the first i blocks. -/
def sumAt (ls : List (List UInt8)) (k i : Nat) : UInt8 := (ls.take i).foldl (fun x l => x ^^^ gb l k) 0
theorem sumAt_succ (ls : List (List UInt8)) (k i : Nat) (h : i < ls.length) : sumAt ls k (i + 1) = sumAt ls k i ^^^ gb (gr ls i) k := by
  unfold sumAt; rw [List.take_succ_eq_append_getElem h, List.foldl_append, gr_eq ls i h]; rfl
theorem sumB_eq {n : Nat} {ls : List (List UInt8)} (h : fitB n ls = true) : sumB n ls = (List.range n).map fun k => sumAt ls k ls.length := by
  rw [list_gb (sumB n ls), sumB_length h]
  apply List.map_congr_left
  intro k hk
  have hk := List.mem_range.1 hk
  unfold sumB sumAt
  rw [gb_xorAll _ _ (by simpa using h) k (by simpa using hk), List.take_length]
  congr 1
  simp [gb, hk]
def zeroB (l : List UInt8) : Bool := l.all fun x => decide (x = 0)
end Go.Proofs.Ytkjaacpcnjakcaa
/- Blocks of bytes, put upon each other: the walks of package block. Conditions: numbers are of their kinds; what is written lies apart from what is read. -/
set_option linter.unusedVariables false
namespace Go.Proofs.Ytkjaacpcnjakcaa
open Go.RowKit

set_option maxHeartbeats 800000 in
theorem xor_calls (to b : List UInt8) (base : Nat) (v : Value) (B : Option Addr) (c : Nat) (R : Nat → Prop) (w : World) (hown : OwnB w base v to) (hb : BytesIn R w B b) (hlen : b.length = to.length) (hR : ∀ k, v.ownBlock = some k → ¬ R k) :
    Calls Try.prog 77 #[v, .slice B b.length c] w fun e w' => e = .returned (.tuple #[]) ∧ OwnB w' base v (xorL to b) ∧ Keeps (fun k => v.ownBlock = some k) w w' := by
  have hl := hb.len
  have HB := hid hb
  have HO := hid hown
  have H0 := hid (xorTo_zero to b)
  have HF := hid (xorTo_full to b hlen)
  have HL := hid (xorTo_length to b hlen)
  have HA := hid (xorTo_at to b hlen)
  have HS := hid (xorTo_set to b hlen)
  have hle := hid hlen
  have HR := hid hR
  obtain ⟨n, hn⟩ : ∃ n, b.length = n := ⟨_, rfl⟩
  rw [hn] at hl ⊢
  have hnt : to.length = n := by omega
  have hn2 := hid hn
  have hnt2 := hid hnt
  clear hb hown hlen hn hnt hR
  go_enter Try.func77, Try.ntmps77
  go_wp2_with fail
  go_loopw [8] (fun v8 wr => ∃ k : Nat, k ≤ n ∧ v8 = .int .i64 (k : Int) ∧ Hid (OwnB wr base v (xorTo to b k)) ∧ Hid (Keeps (fun k => v.ownBlock = some k) w wr)) (fun v8 _ => n - (intOf v8).toNat)
  case atStart => exact ⟨0, Nat.zero_le _, rfl, by rw [H0.out]; exact HO, Keeps.refl _ _⟩
  case round =>
    obtain ⟨k, hk, rfl, HOk, HK⟩ := hrel
    by_cases hlt : k < n
    · obtain ⟨bb, ob, rfl, hbR, hc⟩ := HB.out.get (by rw [hn2.out]; omega)
      have c1 := HK.out.cell (hc k (by rw [hn2.out]; exact hlt)) (fun e => HR.out bb e hbR)
      have hll := HL.out k
      rw [hnt2.out] at hll
      have hat := HA.out k (by rw [hnt2.out]; exact hlt)
      have hset := HS.out k (by rw [hnt2.out]; exact hlt)
      obtain ⟨g, cp, rfl⟩ := OwnInts.form HOk.out (by rw [enc8_length, hll]; omega)
      have c2 := OwnInts.cell (HOk.out : OwnInts _ _ _ _ _ _) (j := k) (by rw [enc8_length, hll]; exact hlt)
      rw [gi_enc8 _ k (by rw [hll]; exact hlt), hat] at c2
      have f2 := OwnInts.free (HOk.out : OwnInts _ _ _ _ _ _) k
      have hst := OwnInts.set (HOk.out : OwnInts _ _ _ _ _ _) (j := k) (by rw [enc8_length, hll]; exact hlt) ((gb to k ^^^ gb b k).toNat : Int)
      rw [enc8_set, hset] at hst
      have HST := hid hst
      have hx := xor_byte (gb to k) (gb b k)
      have hel : (enc8 (xorTo to b k)).length = n := by rw [enc8_length, hll]
      rw [hel] at HST HO HOk HK HR ⊢
      generalize ((gb to k ^^^ gb b k).toNat : Int) = z at *
      generalize ((gb to k).toNat : Int) = x at *
      generalize ((gb b k).toNat : Int) = y at *
      have q0 : (0 : Int) ≤ (k : Int) := by omega
      have q1 : (k : Int) < (n : Int) := by omega
      clear hst hset hat hc hbR hel
      go_wp2_with fail
      go_roundw
      case rel => exact ⟨k + 1, by omega, by go_num, HST, hid (HK.out.setCell (p := ⟨g, k, none⟩) (fun _ => rfl) _)⟩
      case measure => simp [intOf]; omega
    · obtain rfl : k = n := by omega
      go_wp2_with fail
      go_end0
      exact ⟨rfl, by rw [← HF.out, hnt2.out]; exact HOk.out, HK.out⟩
theorem fitB_false {n : Nat} {ls : List (List UInt8)} (h : fitB n ls = false) : ∃ j, j < ls.length ∧ (gr ls j).length ≠ n ∧ ∀ i, i < j → (gr ls i).length = n := by
  induction ls with
  | nil => simp [fitB] at h
  | cons l r ih =>
    by_cases hl : l.length = n
    · have : fitB n r = false := by simpa [fitB, hl] using h
      obtain ⟨j, h1, h2, h3⟩ := ih this
      refine ⟨j + 1, by simp; omega, by simpa [gr] using h2, fun i hi => ?_⟩
      match i, hi with
      | 0, _ => simpa [gr] using hl
      | i + 1, hi => have := h3 i (by omega); simpa [gr] using this
    · exact ⟨0, by simp, by simpa [gr] using hl, fun i hi => absurd hi (Nat.not_lt_zero _)⟩
theorem xorAll_take (a : List UInt8) (ls : List (List UInt8)) (k : Nat) (h : k < ls.length) : xorAll a (ls.take (k + 1)) = xorL (xorAll a (ls.take k)) (gr ls k) := by
  rw [List.take_succ_eq_append_getElem h, xorAll_snoc, gr_eq ls k h]
theorem fitB_take {n : Nat} {ls : List (List UInt8)} (h : fitB n ls = true) (k : Nat) : fitB n (ls.take k) = true :=
  List.all_eq_true.2 (fun l hl => List.all_eq_true.1 h l (List.mem_of_mem_take hl))
set_option maxHeartbeats 800000 in
theorem xors_yes (to : List UInt8) (ls : List (List UInt8)) (base : Nat) (v : Value) (A : Option Addr) (c : Nat) (R : Nat → Prop) (w : World) (hown : OwnB w base v to) (hb : RowsIn R w A ls) (hfit : fitB to.length ls = true) (hR : ∀ k, v.ownBlock = some k → ¬ R k) :
    Calls Try.prog 69 #[v, .slice A ls.length c] w fun e w' => e = .returned (.bool true) ∧ OwnB w' base v (xorAll to ls) ∧ Keeps (fun k => v.ownBlock = some k) w w' := by
  have hl := hb.len
  have HB := hid hb
  have HO := hid hown
  have HF := hid hfit
  have HR := hid hR
  have H0 := hid (show xorAll to (ls.take 0) = to from rfl)
  have HE := hid (show xorAll to (ls.take ls.length) = xorAll to ls by rw [List.take_length])
  have hln := hid (fun k => xorAll_length to (ls.take k) (fitB_take hfit k))
  have hst := hid (xorAll_take to ls)
  obtain ⟨av, cv, hv, hcv, _, _⟩ := hown.reads
  obtain ⟨n, hn⟩ : ∃ n, to.length = n := ⟨_, rfl⟩
  rw [hn] at hv hcv
  have hnn := hid hn
  obtain ⟨m, hm⟩ : ∃ m, ls.length = m := ⟨_, rfl⟩
  rw [hm] at hl ⊢
  have hmm := hid hm
  clear hb hown hfit hR hn hm
  subst hv
  go_enter Try.func69, Try.ntmps69
  go_wp2_with fail
  go_loop [11] (fun v11 => ∃ k : Nat, k ≤ m ∧ v11 = .int .i64 (k : Int)) (fun v11 => m - (intOf v11).toNat)
  case atStart => exact ⟨0, Nat.zero_le _, rfl⟩
  case round =>
    obtain ⟨k, hk, rfl⟩ := hrel
    by_cases hlt : k < m
    · obtain ⟨bb, ob, rfl, hbR, hc⟩ := HB.out.2 (by rw [hmm.out]; omega)
      obtain ⟨u, c1, A1, cc1, rfl, _, _, h1⟩ := hc k (by rw [hmm.out]; exact hlt)
      have hll := fitB_at HF.out k (by rw [hmm.out]; exact hlt)
      rw [hnn.out] at hll
      rw [hll] at c1
      have dne : (((n : Nat) : Int) != ((n : Nat) : Int)) = false := by simp
      have q0 : (0 : Int) ≤ (k : Int) := by omega
      have q1 : (k : Int) < (m : Int) := by omega
      clear hc hbR h1 hll
      go_wp2_with fail
      go_round
      case rel => exact ⟨k + 1, by omega, by go_num⟩
      case measure => simp [intOf]; omega
    · obtain rfl : k = m := by omega
      go_wp2_with fail
      go_loopw [23] (fun v23 wr => ∃ q : Nat, q ≤ k ∧ v23 = .int .i64 (q : Int) ∧ Hid (OwnB wr base (.slice av n cv) (xorAll to (ls.take q))) ∧ Hid (Keeps (fun k => (Value.slice av n cv).ownBlock = some k) w wr)) (fun v23 _ => k - (intOf v23).toNat)
      case atStart => exact ⟨0, Nat.zero_le _, rfl, by rw [H0.out]; exact HO, Keeps.refl _ _⟩
      case round =>
        obtain ⟨q, hq, rfl, HOq, HK⟩ := hrel
        by_cases hlt2 : q < k
        · have hrow := HB.out.keeps HK.out (fun b hb e => HR.out b e hb)
          obtain ⟨bb, ob, rfl, hbR, hc⟩ := hrow.2 (by rw [hmm.out]; omega)
          obtain ⟨u, c1, A1, cc1, rfl, _, _, h1⟩ := hc q (by rw [hmm.out]; exact hlt2)
          have hll := fitB_at HF.out q (by rw [hmm.out]; exact hlt2)
          have hlq := hln.out q
          have hsq := hid (hst.out q (by rw [hmm.out]; exact hlt2))
          have h1 := hid h1
          have hlx := hid (hll.trans hlq.symm)
          have q0 : (0 : Int) ≤ (q : Int) := by omega
          have q1 : (q : Int) < (k : Int) := by omega
          clear hc hbR hrow hll hlq
          generalize gr ls q = l at *
          go_wp2_with fail
          refine (xor_calls _ l base _ A1 cc1 R _ HOq.out h1.out hlx.out HR.out).mono ?_
          rintro e w2 ⟨rfl, hO2, HK2⟩
          have HO2 := hid hO2
          have HK2 := hid (HK.out.trans HK2 (fun _ _ h => h) (fun _ _ h => h))
          clear hO2
          go_wp2_with fail
          go_roundw
          case rel => exact ⟨q + 1, by omega, by go_num, by rw [hsq.out]; exact HO2, HK2⟩
          case measure => simp [intOf]; omega
        · obtain rfl : q = k := by omega
          go_wp2_with fail
          go_ret
          exact ⟨rfl, by rw [← HE.out, hmm.out]; exact HOq.out, HK.out⟩
set_option maxHeartbeats 800000 in
theorem xors_no (to : List UInt8) (ls : List (List UInt8)) (n cv : Nat) (av : Option Addr) (A : Option Addr) (c : Nat) (R : Nat → Prop) (w : World) (hb : RowsIn R w A ls) (hfit : fitB n ls = false) :
    Calls Try.prog 69 #[.slice av n cv, .slice A ls.length c] w fun e w' => e = .returned (.bool false) ∧ w' = w := by
  have hl := hb.len
  have HB := hid hb
  obtain ⟨j, hj, hjn, hji⟩ := fitB_false hfit
  have HJ := hid hji
  have HN := hid hjn
  obtain ⟨m, hm⟩ : ∃ m, ls.length = m := ⟨_, rfl⟩
  rw [hm] at hl hj ⊢
  have hmm := hid hm
  clear hb hfit hji hm hjn
  go_enter Try.func69, Try.ntmps69
  go_wp2_with fail
  go_loop [11] (fun v11 => ∃ k : Nat, k ≤ j ∧ v11 = .int .i64 (k : Int)) (fun v11 => m - (intOf v11).toNat)
  case atStart => exact ⟨0, Nat.zero_le _, rfl⟩
  case round =>
    obtain ⟨k, hk, rfl⟩ := hrel
    obtain ⟨bb, ob, rfl, hbR, hc⟩ := HB.out.2 (by rw [hmm.out]; omega)
    obtain ⟨u, c1, A1, cc1, rfl, _, _, h1⟩ := hc k (by rw [hmm.out]; omega)
    have q0 : (0 : Int) ≤ (k : Int) := by omega
    have q1 : (k : Int) < (m : Int) := by omega
    have hlt : k < m := by omega
    by_cases hkj : k < j
    · have hll := HJ.out k hkj
      rw [hll] at c1
      have dne : (((n : Nat) : Int) != ((n : Nat) : Int)) = false := by simp
      clear hc hbR h1 hll
      go_wp2_with fail
      go_round
      case rel => exact ⟨k + 1, by omega, by go_num⟩
      case measure => simp [intOf]; omega
    · obtain rfl : k = j := by omega
      have dne : ((((gr ls k).length : Nat) : Int) != ((n : Nat) : Int)) = true := by
        have := HN.out
        simp; omega
      clear hc hbR h1
      generalize (gr ls k).length = z at *
      go_wp2_with fail
      go_ret
      exact ⟨rfl, rfl⟩
theorem info_u8 : (Try.prog.info? 5).map (fun i => (i.zero, i.size, i.bytes)) = some (some (.int .u8 0), 1, 1) := by kernel_rfl
theorem enc8_zeros (n : Nat) : List.replicate n (Value.int .u8 0) = (enc8 (List.replicate n 0)).map (Value.int .u8) := by simp [enc8]
theorem OwnB.ofMake {w : World} {base n : Nat} {v : Value} (h : w.ownsRow base 5 1 v n (madeCells (Value.int .u8 0).cells (n * 1)).toList) : OwnB w base v (List.replicate n 0) := by
  have e0 : (madeCells (Value.int .u8 0).cells (n * 1)).toList = List.replicate n (Value.int .u8 0) := by
    apply List.ext_getElem
    · simp [madeCells]
    · intro i h1 h2; simp [madeCells, Value.cells, Nat.mod_one]
  rw [e0] at h
  unfold OwnB OwnInts
  rw [enc8_length, List.length_replicate, ← enc8_zeros]
  exact h
set_option maxHeartbeats 800000 in
set_option maxRecDepth 20000 in
theorem bsum_yes (n : Nat) (ls : List (List UInt8)) (A : Option Addr) (c : Nat) (R : Nat → Prop) (w : World) (hn : n ≤ 1073741824) (hb : RowsIn R w A ls) (hfit : fitB n ls = true) :
    Calls Try.prog 56 #[.int .i64 (n : Int), .slice A ls.length c] w fun e w' => ∃ v, e = .returned (.tuple #[v, .bool true]) ∧ OwnB w' w.heap.size v (sumB n ls) ∧ Keeps NoB w w' := by
  have HB := hid hb.lt
  have HF := hid (show fitB (List.replicate n (0 : UInt8)).length ls = true by rw [List.length_replicate]; exact hfit)
  have hmx : max (n : Int) 0 = (n : Int) := by omega
  have hui := Try.underlying67
  obtain ⟨i0, hi, hz0, hz1, hz2⟩ := info_parts info_u8
  clear hb hfit
  go_enter Try.func56, Try.ntmps56
  go_wp2_with (at_make; go_must (refine wpList_make_full _ rfl _ _ _ rfl w.heap.size 5 i0 (.int .u8 0) 1 hui hi hz0 hz1 .i64 .i64 _ _ n rfl rfl rfl rfl (by rw [hz2]; omega) (by unfold maxLen; omega) (Nat.le_refl _) ?_); intro w3 hown3 hgr3)
  have HO := hid (OwnB.ofMake hown3)
  have HK3 := hid ((Keeps.refl NoB w).grown hgr3 (fun i e => by cases e))
  have HB3 := hid (HB.out.kept ((Keeps.ofGrown hgr3).mono (fun i e _ => by cases e)))
  refine (xors_yes (List.replicate n 0) ls w.heap.size _ A c _ _ HO.out HB3.out HF.out (fun k hk h => by have := (OwnInts.base_le HO.out k hk).1; omega)).mono ?_
  rintro e w4 ⟨rfl, hO4, HK4⟩
  have hO4 := hid hO4
  have HK4 := hid (HK3.out.then HK4 (fun i hi hlt => by have := (OwnInts.base_le HO.out i hi).1; omega))
  go_wp2_with fail
  go_ret2
  exact ⟨_, rfl, hO4.out, HK4.out⟩
theorem orAll_zero (l : List UInt8) : ∀ a : UInt8, l.foldl (· ||| ·) a = 0 ↔ a = 0 ∧ ∀ x ∈ l, x = 0 := by
  induction l with
  | nil => intro a; simp
  | cons x r ih =>
    intro a
    show r.foldl (· ||| ·) (a ||| x) = 0 ↔ _
    rw [ih]
    have e : a ||| x = 0 ↔ a = 0 ∧ x = 0 := by
      rw [← UInt8.toNat_inj, UInt8.toNat_or, ← UInt8.toNat_inj (b := 0), ← UInt8.toNat_inj (a := x)]
      exact Nat.or_eq_zero_iff
    rw [e]; simp [and_assoc]
theorem orAll_zeroB (l : List UInt8) : decide (l.foldl (· ||| ·) 0 = 0) = zeroB l := by
  rw [Bool.eq_iff_iff, decide_eq_true_eq, orAll_zero]
  unfold zeroB
  rw [List.all_eq_true]
  simp
set_option maxHeartbeats 800000 in
theorem zero_calls (l : List UInt8) (A : Option Addr) (c : Nat) (R : Nat → Prop) (w : World) (h : BytesIn R w A l) :
    Calls Try.prog 50 #[.slice A l.length c] w fun e w' => e = .returned (.bool (zeroB l)) ∧ w' = w := by
  have hl := h.len
  have HB := hid h
  have hz := hid (orAll_zeroB l)
  have hst := hid (show ∀ k, k < l.length → (l.take (k + 1)).foldl (· ||| ·) (0 : UInt8) = (l.take k).foldl (· ||| ·) 0 ||| gb l k from fun k hk => by
    rw [List.take_succ_eq_append_getElem hk, List.foldl_append, gb_eq l k hk]; rfl)
  have hfull := hid (show (l.take l.length).foldl (· ||| ·) (0 : UInt8) = l.foldl (· ||| ·) 0 by rw [List.take_length])
  obtain ⟨n, hn⟩ : ∃ n, l.length = n := ⟨_, rfl⟩
  rw [hn] at hl hst hfull ⊢
  have hnn := hid hn
  have hst := hid hst.out
  clear h hn
  go_enter Try.func50, Try.ntmps50
  go_wp2_with fail
  go_loop [3, 8] (fun v3 v8 => ∃ k : Nat, k ≤ n ∧ v8 = .int .i64 (k : Int) ∧ ∃ o : UInt8, v3 = .int .u8 (o.toNat : Int) ∧ Hid ((l.take k).foldl (· ||| ·) 0 = o)) (fun _ v8 => n - (intOf v8).toNat)
  case atStart => exact ⟨0, Nat.zero_le _, rfl, 0, rfl, rfl⟩
  case round =>
    obtain ⟨k, hk, rfl, o, rfl, HO⟩ := hrel
    by_cases hlt : k < n
    · obtain ⟨b, off, rfl, _, hc⟩ := HB.out.get (by rw [hnn.out]; omega)
      have ck := hc k (by rw [hnn.out]; exact hlt)
      have hor := or_byte o (gb l k)
      have hs := hst.out k hlt
      rw [HO.out] at hs
      have HS := hid hs
      generalize hz1 : (o ||| gb l k) = z at *
      have q0 : (0 : Int) ≤ (k : Int) := by omega
      have q1 : (k : Int) < (n : Int) := by omega
      clear hc hz1 hs
      generalize gb l k = x at *
      go_wp2_with fail
      go_round
      case rel => exact ⟨k + 1, by omega, by go_num, z, rfl, HS⟩
      case measure => simp [intOf]; omega
    · obtain rfl : k = n := by omega
      have hd := hid (show zeroB l = decide (o = 0) by rw [← hz.out, ← hfull.out, HO.out])
      have hoz : (((o.toNat : Nat) : Int) == 0) = decide (o = 0) := by
        rw [Bool.eq_iff_iff]; simp
        rw [← UInt8.toNat_inj]; simp
      go_wp2_with fail
      go_ret
      rw [hd.out]
      exact ⟨rfl, rfl⟩
set_option maxHeartbeats 800000 in
set_option maxRecDepth 20000 in
theorem bsum_unfit (n : Nat) (ls : List (List UInt8)) (A : Option Addr) (c : Nat) (R : Nat → Prop) (w : World) (hn : n ≤ 1073741824) (hb : RowsIn R w A ls) (hfit : fitB n ls = false) :
    Calls Try.prog 56 #[.int .i64 (n : Int), .slice A ls.length c] w fun e w' => e = .returned (.tuple #[.slice none 0 0, .bool false]) ∧ Keeps NoB w w' := by
  have HB := hid hb
  have HF := hid hfit
  have hmx : max (n : Int) 0 = (n : Int) := by omega
  have hui := Try.underlying67
  obtain ⟨i0, hi, hz0, hz1, hz2⟩ := info_parts info_u8
  clear hb hfit
  go_enter Try.func56, Try.ntmps56
  go_wp2_with (at_make; go_must (refine wpList_make_full _ rfl _ _ _ rfl w.heap.size 5 i0 (.int .u8 0) 1 hui hi hz0 hz1 .i64 .i64 _ _ n rfl rfl rfl rfl (by rw [hz2]; omega) (by unfold maxLen; omega) (Nat.le_refl _) ?_); intro w3 hown3 hgr3)
  have HK3 := hid ((Keeps.refl NoB w).grown hgr3 (fun i e => by cases e))
  have HB3 := hid (HB.out.kept HK3.out)
  refine (xors_no [] ls n n _ A c _ _ HB3.out HF.out).mono ?_
  rintro e w4 ⟨rfl, rfl⟩
  go_wp2_with fail
  go_ret2
  exact ⟨rfl, HK3.out⟩
set_option maxHeartbeats 800000 in
set_option maxRecDepth 20000 in
theorem bsum_neg (n : Int) (m : Nat) (A : Option Addr) (c : Nat) (w : World) (hn : n < 0) (hn2 : -9223372036854775808 ≤ n) :
    Calls Try.prog 56 #[.int .i64 n, .slice A m c] w fun e w' => e = .returned (.tuple #[.slice none 0 0, .bool false]) ∧ Keeps NoB w w' := by
  have hmx : max n 0 = ((0 : Nat) : Int) := by omega
  have hui := Try.underlying67
  obtain ⟨i0, hi, hz0, hz1, hz2⟩ := info_parts info_u8
  have d0 : decide (n < 0) = true := decide_eq_true hn
  go_enter Try.func56, Try.ntmps56
  go_wp2_with (at_make; go_must (refine wpList_make_full _ rfl _ _ _ rfl w.heap.size 5 i0 (.int .u8 0) 1 hui hi hz0 hz1 .i64 .i64 _ _ 0 rfl rfl rfl rfl (by rw [hz2]; omega) (by unfold maxLen; omega) (Nat.le_refl _) ?_); intro w3 hown3 hgr3)
  have HK3 := hid ((Keeps.refl NoB w).grown hgr3 (fun i e => by cases e))
  go_wp2_with fail
  go_ret2
  exact ⟨rfl, HK3.out⟩
/-! The document's answer. -/
set_option maxHeartbeats 800000 in
theorem rzero_calls (l : List UInt8) (A : Option Addr) (c : Nat) (R : Nat → Prop) (w : World) (h : BytesIn R w A l) :
    Calls Try.prog 48 #[.slice A l.length c] w fun e w' => e = .returned (.bool (zeroB l)) ∧ w' = w := by
  have hl := h.len
  have HB := hid h
  obtain ⟨n, hn⟩ : ∃ n, l.length = n := ⟨_, rfl⟩
  rw [hn] at hl ⊢
  have hnn := hid hn
  clear h hn
  go_enter Try.func48, Try.ntmps48
  go_wp2_with fail
  go_loop [3] (fun v3 => ∃ k : Nat, k ≤ n ∧ v3 = .int .i64 (k : Int) ∧ Hid (∀ j, j < k → gb l j = 0)) (fun v3 => n - (intOf v3).toNat)
  case atStart => exact ⟨0, Nat.zero_le _, rfl, fun j h => absurd h (Nat.not_lt_zero _)⟩
  case round =>
    obtain ⟨k, hk, rfl, HJ⟩ := hrel
    by_cases hlt : k < n
    · obtain ⟨b, off, rfl, _, hc⟩ := HB.out.get (by rw [hnn.out]; omega)
      have ck := hc k (by rw [hnn.out]; exact hlt)
      have q0 : (0 : Int) ≤ (k : Int) := by omega
      have q1 : (k : Int) < (n : Int) := by omega
      clear hc
      by_cases hx : gb l k = 0
      · have HJ2 := hid (show ∀ j, j < k + 1 → gb l j = 0 from fun j hj => by
          by_cases e : j = k
          · rw [e]; exact hx
          · exact HJ.out j (by omega))
        rw [hx] at ck
        have d0 : (((0 : UInt8).toNat : Int) != 0) = false := rfl
        have ck2 : w.cell? ⟨b, off + k, none⟩ = some (.int .u8 0) := ck
        clear ck hx
        go_wp2_with fail
        go_round
        case rel => exact ⟨k + 1, by omega, by go_num, HJ2⟩
        case measure => simp [intOf]; omega
      · have hz := hid (show zeroB l = false by
          unfold zeroB
          rw [List.all_eq_false]
          refine ⟨gb l k, ?_, by simpa using hx⟩
          rw [gb_eq l k (by rw [hnn.out]; exact hlt)]; exact List.getElem_mem _)
        have d0 : (((gb l k).toNat : Int) != 0) = true := by
          simp
          intro e
          exact hx (UInt8.toNat_inj.1 (by simpa using e))
        clear hx
        generalize (gb l k).toNat = x at *
        go_wp2_with fail
        go_ret
        rw [hz.out]
        exact ⟨rfl, rfl⟩
    · obtain rfl : k = n := by omega
      have hz := hid (show zeroB l = true by
        unfold zeroB
        rw [List.all_eq_true]
        intro x hx
        obtain ⟨j, hj, rfl⟩ := List.getElem_of_mem hx
        have := HJ.out j (by rw [← hnn.out]; exact hj)
        rw [gb_eq l j hj] at this
        simpa using this)
      go_wp2_with fail
      go_ret
      rw [hz.out]
      exact ⟨rfl, rfl⟩
def fitN (n : Int) (ls : List (List UInt8)) : Bool := decide (0 ≤ n) && fitB n.toNat ls
end Go.Proofs.Ytkjaacpcnjakcaa
/- Lists of lists of bytes, of the call's own; bytes in words; copies. No condition. -/
set_option linter.unusedVariables false
namespace Go.Proofs.Ytkjaacpcnjakcaa
open Go.RowKit

theorem info_bytes : (Try.prog.info? 67).map (fun i => (i.zero, i.size, i.bytes)) = some (some (.slice none 0 0), 1, 24) := by kernel_rfl
/-- Lists of bytes: the row that holds them is the call's own. -/
def OwnRows (R : Nat → Prop) (w : World) (base : Nat) (v : Value) (ls : List (List UInt8)) : Prop :=
  ∃ us : List Value, us.length = ls.length ∧ w.ownsRow base 67 1 v ls.length us ∧ ∀ (j : Nat) (u : Value), us[j]? = some u → RowIn (fun b => R b ∧ v.ownBlock ≠ some b) w u (gr ls j)
theorem own_form {w : World} {base : Nat} {e : TypeId} {v : Value} {n : Nat} {us : List Value} (h : w.ownsRow base e 1 v n us) : ∃ A c, v = .slice A n c ∧ n ≤ c ∧ (A = none → c = 0) ∧ n ≤ 9223372036854775807 := by
  rcases h.2 with ⟨rfl, h0⟩ | ⟨g, cap, cur, rfl, hb, hg, h1, h2, h3, h4⟩
  · exact ⟨none, 0, by rw [h0], by omega, fun _ => rfl, by omega⟩
  · exact ⟨_, cap, rfl, h1, fun e => (by cases e), by unfold maxLen at h2; omega⟩
theorem OwnRows.reads {R : Nat → Prop} {w : World} {base : Nat} {v : Value} {ls : List (List UInt8)} (h : OwnRows R w base v ls) : ∃ A c, v = .slice A ls.length c ∧ ls.length ≤ c ∧ (A = none → c = 0) ∧ RowsIn (fun b => R b ∨ v.ownBlock = some b) w A ls := by
  obtain ⟨us, hl, hown, hr⟩ := h
  obtain ⟨A, c, rfl, h1, h2, h3⟩ := own_form hown
  refine ⟨A, c, rfl, h1, h2, h3, fun h0 => ?_⟩
  rcases hown.2 with ⟨e, h4⟩ | ⟨g, cap, cur, e, hb, hg, h5, h6, h7, h8⟩
  · omega
  · injection e with e1 e2 e3
    subst e1 e3
    refine ⟨g, 0, rfl, .inr rfl, fun j hj => ?_⟩
    obtain ⟨u, hu⟩ : ∃ u, us[j]? = some u := ⟨us[j]'(by omega), List.getElem?_eq_getElem _⟩
    have hc := own_cell hown hu
    exact ⟨u, by rw [Nat.zero_add]; exact hc, (hr j u hu).mono (fun b _ hb => .inl hb.1)⟩
theorem OwnRows.base_le {R : Nat → Prop} {w : World} {base : Nat} {v : Value} {ls : List (List UInt8)} (h : OwnRows R w base v ls) (b : Nat) (hb : v.ownBlock = some b) : base ≤ b ∧ b < w.heap.size := by
  obtain ⟨us, hl, hown, hr⟩ := h
  exact World.ownsRow.lt hown b hb
theorem OwnRows.keeps {R S : Nat → Prop} {w w1 : World} {base : Nat} {v : Value} {ls : List (List UInt8)} (h : OwnRows R w base v ls) (hk : Keeps S w w1) (hR : ∀ b, R b → ¬ S b) (hv : ∀ b, v.ownBlock = some b → ¬ S b) : OwnRows R w1 base v ls := by
  obtain ⟨us, hl, hown, hr⟩ := h
  exact ⟨us, hl, own_keeps hown hk hv, fun j u hu => (hr j u hu).keeps hk (fun b hb => hR b hb.1)⟩
theorem OwnRows.kept {R : Nat → Prop} {w w1 : World} {base : Nat} {v : Value} {ls : List (List UInt8)} (h : OwnRows R w base v ls) (hk : Keeps NoB w w1) : OwnRows R w1 base v ls := h.keeps hk (fun _ _ h => h) (fun _ _ h => h)
theorem OwnRows.mono {R R' : Nat → Prop} {w : World} {base : Nat} {v : Value} {ls : List (List UInt8)} (h : OwnRows R w base v ls) (hr : ∀ b, b < w.heap.size → R b → R' b) : OwnRows R' w base v ls := by
  obtain ⟨us, hl, hown, h3⟩ := h
  exact ⟨us, hl, hown, fun j u hu => (h3 j u hu).mono (fun b h1 h2 => ⟨hr b h1 h2.1, h2.2⟩)⟩
theorem OwnRows.lower {R : Nat → Prop} {w : World} {base base' : Nat} {v : Value} {ls : List (List UInt8)} (h : OwnRows R w base v ls) (hb : base' ≤ base) : OwnRows R w base' v ls := by
  obtain ⟨us, hl, hown, h3⟩ := h
  refine ⟨us, hl, ⟨hown.1, ?_⟩, h3⟩
  rcases hown.2 with h2 | ⟨g, cap, cur, rfl, hg, r⟩
  · exact .inl h2
  · exact .inr ⟨g, cap, cur, rfl, Nat.le_trans hb hg, r⟩
theorem OwnRows.nil (R : Nat → Prop) (w : World) (base : Nat) : OwnRows R w base (.slice none 0 0) [] :=
  ⟨[], rfl, World.ownsRow_nil w base _ 1, fun j u hu => by simp at hu⟩
/-- '[][]byte{}'. -/
theorem OwnRows.empty (R : Nat → Prop) (w : World) (base : Nat) (hb : base ≤ w.heap.size) (n : Nat) (cs : Array Value) (h : n = 0) : OwnRows R (w.alloc (.cells #[] 67)) base (.slice (some ⟨w.heap.size, 0, none⟩) 0 0) [] :=
  ⟨[], rfl, World.ownsRow_made w #[] 0 hb (Nat.zero_le _) rfl, fun j u hu => by simp at hu⟩
theorem OwnRows.made {R : Nat → Prop} {w : World} {base n : Nat} {v : Value} (h : w.ownsRow base 67 1 v n (madeCells (Value.slice none 0 0).cells (n * 1)).toList) : OwnRows R w base v (List.replicate n []) := by
  have e0 : (madeCells (Value.slice none 0 0).cells (n * 1)).toList = List.replicate n (Value.slice none 0 0) := by
    apply List.ext_getElem
    · simp [madeCells]
    · intro i h1 h2; simp [madeCells, Value.cells, Nat.mod_one]
  rw [e0] at h
  refine ⟨List.replicate n (Value.slice none 0 0), by simp, by rw [List.length_replicate]; exact h, fun j u hu => ?_⟩
  rw [List.getElem?_replicate] at hu
  split at hu
  · cases hu
    have : gr (List.replicate n ([] : List UInt8)) j = [] := by unfold gr; rw [List.getD_eq_getElem?_getD, List.getElem?_replicate]; split <;> rfl
    rw [this]
    exact ⟨none, 0, rfl, Nat.le_refl _, fun _ => rfl, BytesIn.nil _ _⟩
  · cases hu
/-- One of them is written. -/
theorem OwnRows.set {R : Nat → Prop} {w : World} {base g n c j : Nat} {ls : List (List UInt8)} {u : Value} {l : List UInt8} (h : OwnRows R w base (.slice (some ⟨g, 0, none⟩) n c) ls) (hj : j < ls.length) (hu : RowIn (fun b => R b ∧ b ≠ g) w u l) :
    OwnRows R (w.setCell ⟨g, j, none⟩ u) base (.slice (some ⟨g, 0, none⟩) n c) (ls.set j l) := by
  obtain ⟨us, hl, hown, h3⟩ := h
  have hk := Keeps.one w g j u
  refine ⟨us.set j u, by simp [hl], by rw [List.length_set]; exact own_set hown u, fun i x hx => ?_⟩
  have hgr : gr (ls.set j l) i = if i = j then l else gr ls i := by
    unfold gr
    rw [List.getD_eq_getElem?_getD, List.getElem?_set]
    by_cases e : j = i
    · subst e; simp [hj]
    · rw [if_neg e, if_neg (fun h => e h.symm), List.getD_eq_getElem?_getD]
  rw [List.getElem?_set] at hx
  by_cases e : j = i
  · rw [if_pos e] at hx
    split at hx
    · cases hx
      rw [hgr, if_pos e.symm]
      refine (hu.keeps hk (fun b hb e => hb.2 e)).mono (fun b _ hb => ⟨hb.1, fun e => ?_⟩)
      have : g = b := by simpa [Value.ownBlock] using e
      exact hb.2 this.symm
    · cases hx
  · rw [if_neg e] at hx
    rw [hgr, if_neg (fun h => e h.symm)]
    exact (h3 i x hx).keeps hk (fun b hb e => hb.2 (by rw [e]; rfl))
/-- One more. -/
theorem OwnRows.snoc {R : Nat → Prop} {w w1 : World} {base g cap : Nat} {v u : Value} {ls : List (List UInt8)} {l : List UInt8} {us : List Value} {o : Obj} (h : OwnRows R w base v ls) (hu : RowIn (fun b => R b ∧ v.ownBlock ≠ some b) w u l)
    (hus : us.length = ls.length ∧ w.ownsRow base 67 1 v ls.length us ∧ ∀ (j : Nat) (u : Value), us[j]? = some u → RowIn (fun b => R b ∧ v.ownBlock ≠ some b) w u (gr ls j))
    (hown : w1.ownsRow base 67 1 (.slice (some ⟨g, 0, none⟩) (ls.length + 1) cap) (ls.length + 1) (us ++ [u])) (hgr : (w.alloc o).grownBy w1 v.ownBlock) (hat : v.ownBlock = some g ∨ g = (w.alloc o).heap.size) :
    OwnRows R w1 base (.slice (some ⟨g, 0, none⟩) (ls.length + 1) cap) (ls ++ [l]) := by
  obtain ⟨hl, _, h3⟩ := hus
  have hk : Keeps (fun k => some k = v.ownBlock) w w1 := ((Keeps.refl NoB w).alloc o).trans (Keeps.ofGrown hgr) (fun _ _ h => h.elim) (fun _ _ h => h)
  have key : ∀ (x : Value) (m : List UInt8), RowIn (fun b => R b ∧ v.ownBlock ≠ some b) w x m → RowIn (fun b => R b ∧ (Value.slice (some ⟨g, 0, none⟩) (ls.length + 1) cap).ownBlock ≠ some b) w1 x m := fun x m hx => by
    have hlt : RowIn (fun b => (R b ∧ v.ownBlock ≠ some b) ∧ b < w.heap.size) w x m := hx.mono (fun b h1 h2 => ⟨h2, h1⟩)
    refine (hlt.keeps hk (fun b hb e => hb.1.2 e.symm)).mono (fun b _ hb => ⟨hb.1.1, fun e => ?_⟩)
    have : g = b := by simpa [Value.ownBlock] using e
    subst this
    rcases hat with h | h
    · exact hb.1.2 h
    · rw [World.size_alloc] at h; have := hb.2; omega
  refine ⟨us ++ [u], by simp [hl], by rw [List.length_append]; exact hown, fun j x hx => ?_⟩
  have hgr2 : gr (ls ++ [l]) j = if j = ls.length then l else gr ls j := by
    unfold gr
    rw [List.getD_eq_getElem?_getD, List.getD_eq_getElem?_getD]
    by_cases hj : j < ls.length
    · rw [List.getElem?_append_left hj, if_neg (by omega)]
    · rw [List.getElem?_append_right (by omega)]
      by_cases e : j = ls.length
      · rw [if_pos e, e]; simp
      · rw [if_neg e, List.getElem?_eq_none (by simp; omega), List.getElem?_eq_none (by omega)]
  rw [hgr2]
  by_cases hj : j < us.length
  · rw [List.getElem?_append_left hj] at hx
    rw [if_neg (by omega)]
    exact key x _ (h3 j x hx)
  · rw [List.getElem?_append_right (by omega)] at hx
    have e : j = us.length := by
      refine Nat.le_antisymm (Nat.le_of_not_lt (fun hc => ?_)) (by omega)
      rw [List.getElem?_eq_none (by simp; omega)] at hx; cases hx
    rw [if_pos (by omega)]
    rw [e, Nat.sub_self] at hx
    cases hx
    exact key _ l hu
/-- The same, the number of lists by its name. -/
theorem OwnRows.snocN {R : Nat → Prop} {w w1 : World} {base g cap n : Nat} {v u : Value} {ls : List (List UInt8)} {l : List UInt8} {us : List Value} {o : Obj} (hn : ls.length = n) (h : OwnRows R w base v ls) (hu : RowIn (fun b => R b ∧ v.ownBlock ≠ some b) w u l)
    (hus : us.length = n) (hus2 : w.ownsRow base 67 1 v n us) (hus3 : ∀ (j : Nat) (u : Value), us[j]? = some u → RowIn (fun b => R b ∧ v.ownBlock ≠ some b) w u (gr ls j))
    (hown : w1.ownsRow base 67 1 (.slice (some ⟨g, 0, none⟩) (n + 1) cap) (n + 1) (us ++ [u])) (hgr : (w.alloc o).grownBy w1 v.ownBlock) (hat : v.ownBlock = some g ∨ g = (w.alloc o).heap.size) :
    OwnRows R w1 base (.slice (some ⟨g, 0, none⟩) (n + 1) cap) (ls ++ [l]) := by
  subst hn
  exact h.snoc hu ⟨hus, hus2, hus3⟩ hown hgr hat
/-- Its parts. -/
theorem OwnRows.parts {R : Nat → Prop} {w : World} {base n : Nat} {v : Value} {ls : List (List UInt8)} (h : OwnRows R w base v ls) (hn : ls.length = n) : ∃ us A c, v = .slice A n c ∧ us.length = n ∧ w.ownsRow base 67 1 v n us ∧ ∀ (j : Nat) (u : Value), us[j]? = some u → RowIn (fun b => R b ∧ v.ownBlock ≠ some b) w u (gr ls j) := by
  subst hn
  obtain ⟨us, h1, h2, h3⟩ := h
  obtain ⟨A, c, hv, _⟩ := own_form h2
  exact ⟨us, A, c, hv, h1, h2, h3⟩
/-- Bytes, in words. -/
def strOf (l : List UInt8) : ByteArray := ⟨l.toArray⟩
theorem strOf_inj {a b : List UInt8} (h : strOf a = strOf b) : a = b := by unfold strOf at h; injection h with h; exact List.toArray_inj h
theorem strOf_toList (l : List UInt8) : (strOf l).toList = l := by rw [ByteArray.toList_eq]; rfl
theorem strOf_size (l : List UInt8) : (strOf l).size = l.length := by simp [strOf, ByteArray.size]
theorem conv_run (src dst : TypeId) (hs : Try.prog.underlying src = some (.slice 5)) (hd : Try.prog.underlying dst = some .string) {R : Nat → Prop} {w : World} {A : Option Addr} {l : List UInt8} (h : BytesIn R w A l) (c : Nat) :
    (Go.convert src dst (.slice A l.length c)).run Try.prog w = .ok (.string (strOf l)) w := by
  rcases Nat.eq_zero_or_pos l.length with h0 | h0
  · obtain rfl : l = [] := List.length_eq_zero_iff.1 h0
    show (Go.convert src dst (.slice A 0 c)).run Try.prog w = _
    rw [Go.run_convert_bytes_string w src dst 5 A 0 c hs Try.underlying5 hd]
    have hl : ∀ x, (loadCells x 0).run Try.prog w = .ok #[] w := fun x => by simpa using run_loadCells_list (P := Try.prog) w x [] (by simp)
    cases A with
    | none => rfl
    | some a =>
      simp [Conv.bytesToString, hl]
      rfl
  · obtain ⟨b, off, rfl, _, hc⟩ := h.get h0
    have hb : Go.Lib.Bytes w b off (strOf l) := fun i hi => by
      rw [strOf_size] at hi
      rw [hc i hi, gb_eq l i hi]
      rfl
    have := Go.Lib.run_convert_whole w src 5 dst hs Try.underlying5 hd b off (strOf l) hb c
    rw [strOf_size] at this
    exact this
theorem splice_bytes (to b : List UInt8) (n : Nat) (hn : n = min b.length to.length) (rest : List Value) :
    (((enc8 to).map (Value.int .u8) ++ rest).take 0 ++ (enc8 (b.take n)).map (Value.int .u8) ++ ((enc8 to).map (Value.int .u8) ++ rest).drop (0 + ((enc8 (b.take n)).map (Value.int .u8)).length)) =
      (enc8 (b.take n ++ to.drop n)).map (Value.int .u8) ++ rest := by
  have hl : ((enc8 (b.take n)).map (Value.int .u8)).length = n := by rw [List.length_map, enc8_length, List.length_take]; omega
  rw [hl, List.take_zero, List.nil_append, Nat.zero_add, List.drop_append_of_le_length (by rw [List.length_map, enc8_length]; omega), enc8_append, List.map_append, ← List.append_assoc]
  congr 2
  unfold enc8
  rw [List.map_drop, List.map_drop]
/-- 'copy(to, b)', to whole and the call's own. -/
theorem run_copy_bytes {w : World} {base : Nat} {v : Value} {to b : List UInt8} (dT sT ty : TypeId) (hu : Try.prog.underlying dT = some (.slice 5)) (hown : OwnB w base v to) {R : Nat → Prop} {A : Option Addr} (c : Nat) (hb : BytesIn R w A b) :
    ∃ (n : Nat) (w' : World), (Builtin.copy_ #[dT, sT] ty #[v, .slice A b.length c]).run Try.prog w = .ok (goInt n) w' ∧ n = min b.length to.length ∧ OwnB w' base v (b.take n ++ to.drop n) ∧ Keeps (fun k => v.ownBlock = some k) w w' := by
  have hsz : (Try.prog.info? 5).map (·.size) = some 1 := by kernel_rfl
  obtain ⟨Av, cv, rfl, hcv, _, hbv⟩ := hown.reads
  rcases Nat.eq_zero_or_pos (min b.length to.length) with h0 | h0
  · refine ⟨0, w, run_copy_none w dT sT ty 5 Av A to.length cv b.length c hu hsz h0, h0.symm, ?_, Keeps.refl _ _⟩
    simpa using hown
  · obtain ⟨bs, os, rfl, _, hc⟩ := hb.get (by omega)
    have hown0 := hown
    rcases hown.2 with ⟨e, _⟩ | ⟨g, cap, cur, e, hgb, hg, h1, h2, h3, h4⟩
    · injection e with e1 e2 e3; omega
    · injection e with e1 e2 e3
      subst e1 e3
      rw [enc8_length] at h1 h4
      obtain ⟨n, hn⟩ : ∃ n, n = min b.length to.length := ⟨_, rfl⟩
      have hcl : ((enc8 (b.take n)).map (Value.int .u8)).length = n := by rw [List.length_map, enc8_length, List.length_take]; omega
      have hcur : cur.toList = (enc8 to).map (Value.int .u8) ++ cur.toList.drop (to.length * 1) := by
        rw [← h4, List.take_append_drop]
      have hrun := run_copy_row (P := Try.prog) w dT sT ty 5 g 0 to.length cv ⟨bs, os, none⟩ b.length c cur 5 ((enc8 (b.take n)).map (Value.int .u8)) hu hsz hg (by rw [hcl, hn]) (fun j u hj => by
        have hjn : j < n := by
          have := (List.getElem?_eq_some_iff.1 hj).1
          omega
        have := hc j (by omega)
        simp only [List.getElem?_map, enc8] at hj
        rw [List.getElem?_take_of_lt hjn, List.getElem?_eq_getElem (by omega : j < b.length)] at hj
        simp only [Option.map_some, Option.some.injEq] at hj
        rw [← hj]
        rw [gb_eq b j (by omega)] at this
        unfold Addr.add
        split
        · rename_i e0; subst e0; exact this
        · exact this) (by rw [hcl]; have := h3; simp only [Nat.mul_one] at this; omega) (fun u hu2 => by
        obtain ⟨x, _, rfl⟩ := List.mem_map.1 hu2
        rfl)
      rw [hcl] at hrun
      refine ⟨n, _, hrun, hn, ?_, ⟨rfl, rfl, rfl, by simp [World.setRow], fun k hk hne => setRow_other w g k _ (fun e => hne (by rw [e]; rfl))⟩⟩
      have hll : (b.take n ++ to.drop n).length = to.length := by rw [List.length_append, List.length_take, List.length_drop]; omega
      refine ⟨by simp, .inr ⟨g, cv, _, by rw [enc8_length, hll], hgb, setRow_heap w g cur _ _ _ hg, by rw [enc8_length, hll]; exact h1, h2, ?_, ?_⟩⟩
      · have hs3 := h3
        simp only [Nat.mul_one] at hs3 ⊢
        rw [List.size_toArray, List.take_zero, List.nil_append, Nat.zero_add, List.length_append, hcl, List.length_drop, Array.length_toList]
        omega
      · rw [enc8_length, hll]
        show List.take (to.length * 1) (_ : List Value).toArray.toList = _
        rw [List.toList_toArray, hcur]
        have := splice_bytes to b n hn (cur.toList.drop (to.length * 1))
        rw [hcl] at this
        rw [this, List.take_append_of_le_length (by rw [List.length_map, enc8_length, hll]; omega), List.take_of_length_le (by rw [List.length_map, enc8_length, hll]; omega)]
end Go.Proofs.Ytkjaacpcnjakcaa
/- Does an equation hold of blocks: the program's walk. Conditions: lengths are small; what is read lies below. -/
set_option linter.unusedVariables false
namespace Go.Proofs.Ytkjaacpcnjakcaa
open Go.RowKit

/-- Is there such a block, as long? -/
def okB (n : Nat) (bs : List (List UInt8)) (i : Int) : Bool := decide (0 ≤ i) && decide (i < (bs.length : Int)) && decide ((gr bs i.toNat).length = n)
def selB (bs : List (List UInt8)) (is : List Int) : List (List UInt8) := is.map fun i => gr bs i.toNat
/-- Does an equation hold of blocks? -/
def holdsE (is : List Int) (val : List UInt8) (bs : List (List UInt8)) : Bool := is.all (okB val.length bs) && zeroB (xorAll val (selB bs is))
theorem take_gi2 (is : List Int) (k : Nat) (h : k < is.length) : is.take (k + 1) = is.take k ++ [gi is k] := by rw [List.take_succ_eq_append_getElem h, gi_eq is k h]
theorem selB_snoc (bs : List (List UInt8)) (is : List Int) (i : Int) : selB bs (is ++ [i]) = selB bs is ++ [gr bs i.toNat] := by simp [selB]
theorem holdsE_no {is : List Int} {val : List UInt8} {bs : List (List UInt8)} {k : Nat} (hk : k < is.length) (h : okB val.length bs (gi is k) = false) : holdsE is val bs = false := by
  unfold holdsE
  rw [show is.all (okB val.length bs) = false from List.all_eq_false.2 ⟨gi is k, gi_mem is k hk, by simp [h]⟩, Bool.false_and]
theorem allOk_fit {n : Nat} {bs : List (List UInt8)} {is : List Int} (h : is.all (okB n bs) = true) : fitB n (selB bs is) = true := by
  unfold fitB selB
  rw [List.all_map, List.all_eq_true]
  intro i hi
  have := List.all_eq_true.1 h i hi
  simp only [okB, Bool.and_eq_true, decide_eq_true_eq] at this
  simpa using this.2
theorem bytes_one (R : Nat → Prop) (w : World) {u : Value} {l : List UInt8} {T : TypeId} (h : RowIn R w u l) (hR : ∀ b, R b → b < w.heap.size) : RowsIn (fun b => R b ∨ b = w.heap.size) (w.alloc (.cells #[u] T)) (some ⟨w.heap.size, 0, none⟩) [l] := by
  refine ⟨by simp, fun _ => ⟨w.heap.size, 0, rfl, .inr rfl, fun j hj => ?_⟩⟩
  obtain rfl : j = 0 := by simpa using hj
  exact ⟨u, cell_one _ _ _, (h.keeps ((Keeps.refl NoB w).alloc _) (fun _ _ h => h)).mono (fun b _ hb => .inl hb)⟩
theorem box_two (w : World) (a b : Value) (T : TypeId) : (w.alloc (.cells #[a, b] T)).cell? ⟨w.heap.size, 0, none⟩ = some a ∧ (w.alloc (.cells #[a, b] T)).cell? ⟨w.heap.size, 1, none⟩ = some b := by
  constructor <;> (unfold World.cell?; rw [heap_alloc_new]; rfl)
theorem OwnInts.empty1 (w : World) (o : Obj) (base : Nat) (k : IntKind) (e : TypeId) (hb : base ≤ w.heap.size) : OwnInts ((w.alloc o).alloc (.cells #[] e)) base k e (.slice (some ⟨w.heap.size + 1, 0, none⟩) 0 0) [] := by
  have := OwnInts.empty (w.alloc o) base k e (by simp; omega)
  rwa [World.size_alloc] at this
end Go.Proofs.Ytkjaacpcnjakcaa
/-
  DERIVED: THE SHELF's CONTRACTS AT THIS DUMP, IN PLAIN WORDS (tools/lay-plain.mjs out of 'TryShelf.lean', which tools/lay-shelf.mjs wrote): THE SAME DECLARATIONS UNDER THE SAME NAMES: 'import', 'namespace', 'open', 'def', 'theorem' AND NOTHING ELSE: no command of the shelf's: FOR A HAND-IN. Each laying: the table of numbers ('.._ren') and one theorem, a field a fact of the dump's own or the kernel's comparison; each contract: ONE APPLICATION.
-/
namespace Go.Proofs
open Go.Shelf
def Try.lays189_ren : Go.Shelf.Ren := ⟨fun | 189 => 44 | 125 => 52 | 257 => 51 | 128 => 66 | 129 => 67 | 294 => 58 | 295 => 59 | 296 => 60 | 297 => 61 | 298 => 62 | 299 => 63 | 216 => 53 | 300 => 64 | 301 => 65 | 328 => 72 | 329 => 73 | 330 => 74 | 331 => 75 | 332 => 76 | 215 => 68 | 343 => 80 | n => n, fun | 28 => 27 | 3 => 3 | 46 => 92 | 0 => 0 | 51 => 106 | 53 => 108 | 4 => 4 | 183 => 100 | 182 => 99 | 131 => 82 | 5 => 5 | 9 => 9 | 218 => 114 | 222 => 118 | 228 => 121 | 229 => 122 | n => n, fun | n => n⟩
theorem Try.lays189 : Go.Proofs.Lays.n189 Try.prog Try.lays189_ren := {
  mixed := by kernel_rfl
  f125 := Try.func52.trans (congrArg some (by kernel_rfl))
  f128 := Try.func66.trans (congrArg some (by kernel_rfl))
  f129 := Try.func67.trans (congrArg some (by kernel_rfl))
  f189 := Try.func44.trans (congrArg some (by kernel_rfl))
  f215 := Try.func68.trans (congrArg some (by kernel_rfl))
  f216 := Try.func53.trans (congrArg some (by kernel_rfl))
  f257 := Try.func51.trans (congrArg some (by kernel_rfl))
  f294 := Try.func58.trans (congrArg some (by kernel_rfl))
  f295 := Try.func59.trans (congrArg some (by kernel_rfl))
  f296 := Try.func60.trans (congrArg some (by kernel_rfl))
  f297 := Try.func61.trans (congrArg some (by kernel_rfl))
  f298 := Try.func62.trans (congrArg some (by kernel_rfl))
  f299 := Try.func63.trans (congrArg some (by kernel_rfl))
  f300 := Try.func64.trans (congrArg some (by kernel_rfl))
  f301 := Try.func65.trans (congrArg some (by kernel_rfl))
  f328 := Try.func72.trans (congrArg some (by kernel_rfl))
  f329 := Try.func73.trans (congrArg some (by kernel_rfl))
  f330 := Try.func74.trans (congrArg some (by kernel_rfl))
  f331 := Try.func75.trans (congrArg some (by kernel_rfl))
  f332 := Try.func76.trans (congrArg some (by kernel_rfl))
  f343 := Try.func80.trans (congrArg some (by kernel_rfl))
  t0 := Try.underlying0
  a0 := Try.isAgg0
  z0 := Try.sizeOf0
  v0 := Try.zeroValue0
  t3 := Try.underlying3
  a3 := Try.isAgg3
  z3 := Try.sizeOf3
  v3 := Try.zeroValue3
  t4 := Try.underlying4
  a4 := Try.isAgg4
  z4 := Try.sizeOf4
  v4 := Try.zeroValue4
  t5 := Try.underlying5
  a5 := Try.isAgg5
  z5 := Try.sizeOf5
  v5 := Try.zeroValue5
  t9 := Try.underlying9
  a9 := Try.isAgg9
  z9 := Try.sizeOf9
  v9 := Try.zeroValue9
  t28 := Try.underlying27
  a28 := Try.isAgg27
  z28 := Try.sizeOf27
  v28 := Try.zeroValue27
  t46 := Try.underlying92
  a46 := Try.isAgg92
  z46 := Try.sizeOf92
  v46 := Try.zeroValue92
  t51 := Try.underlying106
  a51 := Try.isAgg106
  z51 := Try.sizeOf106
  v51 := Try.zeroValue106
  t53 := Try.underlying108
  a53 := Try.isAgg108
  z53 := Try.sizeOf108
  v53 := Try.zeroValue108
  t131 := Try.underlying82
  a131 := Try.isAgg82
  z131 := Try.sizeOf82
  v131 := Try.zeroValue82
  t182 := Try.underlying99
  a182 := Try.isAgg99
  z182 := Try.sizeOf99
  v182 := Try.zeroValue99
  t183 := Try.underlying100
  a183 := Try.isAgg100
  z183 := Try.sizeOf100
  v183 := Try.zeroValue100
  t218 := Try.underlying114
  a218 := Try.isAgg114
  z218 := Try.sizeOf114
  v218 := Try.zeroValue114
  t222 := Try.underlying118
  a222 := Try.isAgg118
  z222 := Try.sizeOf118
  v222 := Try.zeroValue118
  t228 := Try.underlying121
  a228 := Try.isAgg121
  z228 := Try.sizeOf121
  v228 := Try.zeroValue121
  t229 := Try.underlying122
  a229 := Try.isAgg122
  z229 := Try.sizeOf122
  v229 := Try.zeroValue122 }
open Go.Sort Go.RowKit in
theorem Try.slices_Sort_int (blk off cap : Nat) (zs : List Int) (w : World) (hH : Holds (Value.int .i64) w blk off zs.toArray) (hblk : blk < w.heap.size) (hsz : zs.length < 4611686018427387904) :
    Calls Try.prog 44 #[.slice (some ⟨blk, off, none⟩) zs.length cap] w fun e w' =>
      e = .returned (.tuple #[]) ∧ ∃ n os, w' = grow (putRow (Value.int .i64) (Sort.ahead w n) blk off (zs.mergeSort fun x y => decide (x ≤ y)).toArray) os := Any.slices_Sort_int Try.lays189 blk off cap zs w hH hblk hsz
def Try.laysNm237_ren : Go.Shelf.Ren := ⟨fun | 37 => 68 | n => n, fun | 3 => 3 | 4 => 4 | n => n, fun | n => n⟩
theorem Try.laysNm237 : Go.Proofs.Lays2.n37 Try.prog Try.laysNm237_ren := {
  mixed := by kernel_rfl
  f37 := Try.func68.trans (congrArg some (by kernel_rfl))
  t3 := Try.underlying3
  a3 := Try.isAgg3
  z3 := Try.sizeOf3
  v3 := Try.zeroValue3
  t4 := Try.underlying4
  a4 := Try.isAgg4
  z4 := Try.sizeOf4
  v4 := Try.zeroValue4 }
open Go.RowKit Go.Lib in
/-- cmp.isNaN[int]: 'x != x': false. (LAID: no walk: one application.) -/
theorem Try.cmp_isNaN_int2 (x : Int) (w : World) :
    Calls Try.prog 68 #[.int .i64 x] w fun e w' => e = .returned (.bool false) ∧ w' = w := Any.cmp_isNaN_int2 Try.laysNm237 x w
def Try.laysNm232_ren : Go.Shelf.Ren := ⟨fun | 32 => 54 | n => n, fun | 3 => 3 | 4 => 4 | n => n, fun | n => n⟩
theorem Try.laysNm232 : Go.Proofs.Lays2.n32 Try.prog Try.laysNm232_ren := {
  mixed := by kernel_rfl
  f32 := Try.func54.trans (congrArg some (by kernel_rfl))
  t3 := Try.underlying3
  a3 := Try.isAgg3
  z3 := Try.sizeOf3
  v3 := Try.zeroValue3
  t4 := Try.underlying4
  a4 := Try.isAgg4
  z4 := Try.sizeOf4
  v4 := Try.zeroValue4 }
open Go.RowKit Go.Lib in
/-- slices.isNaN[int]: 'x != x': false. (LAID: no walk: one application.) -/
theorem Try.slices_isNaN_int2 (x : Int) (w : World) :
    Calls Try.prog 54 #[.int .i64 x] w fun e w' => e = .returned (.bool false) ∧ w' = w := Any.slices_isNaN_int2 Try.laysNm232 x w
def Try.laysNm231_ren : Go.Shelf.Ren := ⟨fun | 31 => 53 | 37 => 68 | n => n, fun | 3 => 3 | 4 => 4 | n => n, fun | n => n⟩
theorem Try.laysNm231 : Go.Proofs.Lays2.n31 Try.prog Try.laysNm231_ren := {
  mixed := by kernel_rfl
  f31 := Try.func53.trans (congrArg some (by kernel_rfl))
  f37 := Try.func68.trans (congrArg some (by kernel_rfl))
  t3 := Try.underlying3
  a3 := Try.isAgg3
  z3 := Try.sizeOf3
  v3 := Try.zeroValue3
  t4 := Try.underlying4
  a4 := Try.isAgg4
  z4 := Try.sizeOf4
  v4 := Try.zeroValue4 }
open Go.RowKit Go.Lib in
/-- cmp.Less[int]: "Less reports whether x is less than y.": 'x < y'; the world is as it was. (LAID: no walk: one application.) -/
theorem Try.cmp_Less_int2 (x y : Int) (w : World) :
    Calls Try.prog 53 #[.int .i64 x, .int .i64 y] w fun e w' => e = .returned (.bool (decide (x < y))) ∧ w' = w := Any.cmp_Less_int2 Try.laysNm231 x y w
def Try.laysNm225_ren : Go.Shelf.Ren := ⟨fun | 25 => 45 | 31 => 53 | 32 => 54 | 37 => 68 | n => n, fun | 22 => 27 | 3 => 3 | 4 => 4 | 40 => 92 | 0 => 0 | n => n, fun | n => n⟩
theorem Try.laysNm225 : Go.Proofs.Lays2.n25 Try.prog Try.laysNm225_ren := {
  mixed := by kernel_rfl
  f25 := Try.func45.trans (congrArg some (by kernel_rfl))
  f31 := Try.func53.trans (congrArg some (by kernel_rfl))
  f32 := Try.func54.trans (congrArg some (by kernel_rfl))
  f37 := Try.func68.trans (congrArg some (by kernel_rfl))
  t0 := Try.underlying0
  a0 := Try.isAgg0
  z0 := Try.sizeOf0
  v0 := Try.zeroValue0
  t3 := Try.underlying3
  a3 := Try.isAgg3
  z3 := Try.sizeOf3
  v3 := Try.zeroValue3
  t4 := Try.underlying4
  a4 := Try.isAgg4
  z4 := Try.sizeOf4
  v4 := Try.zeroValue4
  t22 := Try.underlying27
  a22 := Try.isAgg27
  z22 := Try.sizeOf27
  v22 := Try.zeroValue27
  t40 := Try.underlying92
  a40 := Try.isAgg92
  z40 := Try.sizeOf92
  v40 := Try.zeroValue92 }
open Go.RowKit Go.Lib in
/-- slices.BinarySearch at []int: "BinarySearch searches for target in a sorted slice and returns the earliest position where target is found, or the position where target would appear in the sort order; it also returns a bool saying whether the target is really found in the slice. The slice must be sorted in increasing order.": OF A SORTED SLICE IT RETURNS how many elements are less than the target, and whether the target is among the elements; the world is as it was but for the count of draws. 'zs': what the cells behind the slice's address hold; 'zs.take n': its elements. (Of a slice that is not sorted: no contract here.) (LAID: no walk: one application.) -/
theorem Try.slices_BinarySearch_int (b off n c : Nat) (zs : List Int) (x : Int) (w : World) (hz : n ≤ zs.length) (hbig : n < 4611686018427387904) (hc : ∀ j, j < zs.length → w.cell? ⟨b, off + j, none⟩ = some (.int .i64 (zs.getD j 0))) (hs : (zs.take n).Pairwise (· ≤ ·)) :
    Calls Try.prog 45 #[.slice (some ⟨b, off, none⟩) n c, .int .i64 x] w fun e w' => e = .returned (.tuple #[.int .i64 ((zs.take n).countP (· < x) : Nat), .bool ((zs.take n).contains x)]) ∧ ∃ q, w' = w.drewN q := Any.slices_BinarySearch_int Try.laysNm225 b off n c zs x w hz hbig hc hs
open Go.RowKit Go.Sort in
/-- .. and plain. (LAID: no walk: one application.) -/
theorem Try.slices_Sort_int_none (p : Option Addr) (cap : Nat) (w : World) :
    Calls Try.prog 44 #[.slice p 0 cap] w fun e w' => e = .returned (.tuple #[]) ∧ w' = w := Any.slices_Sort_int_none Try.lays189 p cap w
open Go.RowKit Go.Lib in
/-- slices.BinarySearch at []int of no element: position 0, not found; the world is as it was. (LAID: no walk: one application.) -/
theorem Try.slices_BinarySearch_int_empty (a : Option Addr) (c : Nat) (x : Int) (w : World) :
    Calls Try.prog 45 #[.slice a 0 c, .int .i64 x] w fun e w' => e = .returned (.tuple #[.int .i64 0, .bool false]) ∧ w' = w := Any.slices_BinarySearch_int_empty Try.laysNm225 a c x w
end Go.Proofs
/- The library's sort and search, as they are laid for this program, in this seat's words. No condition but on lengths. -/
set_option linter.unusedVariables false
namespace Go.Proofs.Ytkjaacpcnjakcaa
open Go.RowKit Go.Sort

def srtM (l : List Int) : List Int := l.mergeSort (fun x y => decide (x ≤ y))
theorem srtM_length (l : List Int) : (srtM l).length = l.length := by unfold srtM; exact List.length_mergeSort l
theorem putRow_block {w : World} {g n : Nat} {os : Array Obj} {cur : Array Value} {e : TypeId} (d : List Int) (hb : w.heap[g]? = some (.cells cur e (0, 0))) :
    (grow (putRow (Value.int .i64) (Sort.ahead w n) g 0 d.toArray) os).heap[g]? = some (.cells (putCells (Value.int .i64) 0 d.toArray cur) e (0, 0)) := by
  have hg : g < w.heap.size := (Array.getElem?_eq_some_iff.1 hb).1
  rw [heap_grow_old _ _ (by simpa using hg)]
  simp [putRow, mapBlock, Sort.ahead, Array.getElem?_modify, hb, onCells]
theorem putRow_grown {w : World} {g n : Nat} {os : Array Obj} (d : List Int) : w.grownBy (grow (putRow (Value.int .i64) (Sort.ahead w n) g 0 d.toArray) os) (some g) := by
  refine ⟨rfl, rfl, rfl, by simp, fun k hk hne => ?_⟩
  rw [heap_grow_old _ _ (by simpa using hk)]
  have : g ≠ k := fun e => hne (by rw [e])
  simp [putRow, mapBlock, Sort.ahead, Array.getElem?_modify, this]
theorem take_putInts (cur : Array Value) (ts : List Int) (h : ts.length ≤ cur.size) : (putCells (Value.int .i64) 0 ts.toArray cur).toList.take ts.length = ts.map (Value.int .i64) := by
  apply List.ext_getElem?
  intro j
  by_cases hj : j < ts.length
  · rw [List.getElem?_take_of_lt hj, Array.getElem?_toList]
    simp [putCells, hj, show j < cur.size by omega]
  · rw [List.getElem?_take_eq_none (by omega), List.getElem?_eq_none (by simp; omega)]
theorem sort_calls (v : Value) (l : List Int) (base : Nat) (w : World) (h : OwnInts w base .i64 3 v l) (hl : l.length ≤ 1073741824) :
    Calls Try.prog 44 #[v] w fun e w' => e = .returned (.tuple #[]) ∧ OwnInts w' base .i64 3 v (srtM l) ∧ w.grownBy w' v.ownBlock := by
  rcases h.2 with ⟨rfl, h0⟩ | ⟨g, cap, cur, rfl, hb, hg, h1, h2, h3, h4⟩
  · obtain rfl : l = [] := List.length_eq_zero_iff.1 h0
    refine (Try.slices_Sort_int_none none 0 w).mono ?_
    rintro e w' ⟨rfl, rfl⟩
    exact ⟨rfl, by simp [srtM]; exact OwnInts.nil _ _ _ _, ⟨rfl, rfl, rfl, Nat.le_refl _, fun _ _ _ => rfl⟩⟩
  · have hh : Holds (Value.int .i64) w g 0 l.toArray := by
      intro j hj
      have hj' : j < l.length := by simpa using hj
      refine ⟨?_, by simp [World.frozen?, hg]⟩
      have e1 : (cur.toList.take l.length)[j]? = (l.map (Value.int .i64))[j]? := by rw [← h4, Nat.mul_one]
      rw [List.getElem?_take_of_lt hj'] at e1
      simp only [World.cell?, hg, Nat.zero_add]
      simp only [Option.isSome_none, Bool.false_eq_true, if_false]
      rw [← Array.getElem?_toList, e1]
      simp [hj']
    refine (Try.slices_Sort_int g 0 cap l w hh (lt_of_heap hg) (by omega)).mono ?_
    rintro e w' ⟨rfl, n, os, rfl⟩
    refine ⟨rfl, ?_, putRow_grown _⟩
    refine ⟨by simp, .inr ⟨g, cap, _, by rw [srtM_length], hb, putRow_block (srtM l) hg, by rw [srtM_length]; exact h1, h2, by simp [putCells, h3], ?_⟩⟩
    rw [Nat.mul_one]
    exact take_putInts cur _ (by rw [srtM_length]; omega)
theorem search_calls (xs : List Int) (x : Int) (A : Option Addr) (c : Nat) (w : World) (h : IntsAt w .i64 A xs) (hs : xs.Pairwise (· ≤ ·)) (hl : xs.length ≤ 4611686018427387903) :
    Calls Try.prog 45 #[.slice A xs.length c, .int .i64 x] w fun e w' => e = .returned (.tuple #[.int .i64 (xs.countP (· < x) : Nat), .bool (decide (x ∈ xs))]) ∧ ∃ q, w' = w.drewN q := by
  rcases Nat.eq_zero_or_pos xs.length with h0 | h0
  · obtain rfl : xs = [] := List.length_eq_zero_iff.1 h0
    refine (Try.slices_BinarySearch_int_empty A c x w).mono ?_
    rintro e w' ⟨rfl, rfl⟩
    exact ⟨rfl, 0, rfl⟩
  · obtain ⟨b, off, rfl, hc⟩ := h.get h0
    refine (Try.slices_BinarySearch_int b off xs.length c xs x w (Nat.le_refl _) (by omega) hc (by rw [List.take_length]; exact hs)).mono ?_
    rintro e w' ⟨rfl, hq⟩
    refine ⟨?_, hq⟩
    rw [List.take_length]
    have e1 : xs.contains x = decide (x ∈ xs) := by rw [Bool.eq_iff_iff, List.contains_iff_mem, decide_eq_true_eq]
    rw [e1]
end Go.Proofs.Ytkjaacpcnjakcaa
/- The library's iterator over a list of numbers, and the list that is collected of it, sorted. Conditions: the list is read below the call's own memory; its length is small. -/
set_option linter.unusedVariables false
namespace Go.Proofs.Ytkjaacpcnjakcaa
open Go.RowKit Go.Shelf

attribute [local go_sem] Oper.semAt_some

/-- What has come when k rounds are over. -/
def uptoI (f : Nat → Int) (k : Nat) : List Int := (List.range k).map f
theorem uptoI_succ (f : Nat → Int) (k : Nat) : uptoI f (k + 1) = uptoI f k ++ [f k] := by simp [uptoI, List.range_succ]
theorem uptoI_length (f : Nat → Int) (k : Nat) : (uptoI f k).length = k := by simp [uptoI]
theorem uptoI_all (zs : List Int) : uptoI (fun j => zs[j]?.getD 0) zs.length = zs := by
  apply List.ext_getElem
  · simp [uptoI]
  · intro i h1 h2; simp [uptoI, h2]
theorem uptoI_take (zs : List Int) {k : Nat} (hk : k ≤ zs.length) : uptoI (fun j => zs[j]?.getD 0) k = zs.take k := by
  apply List.ext_getElem
  · simp [uptoI, hk]
  · intro i h1 h2
    have : i < zs.length := by simp [uptoI] at h1; omega
    simp [uptoI, this]
/-- A slice value that is read below some block. -/
def SlB (n₀ : Nat) (W : World) (sv : Value) (zs : List Int) : Prop := ∃ A c, sv = .slice A zs.length c ∧ (zs = [] ∨ ∃ b off, A = some ⟨b, off, none⟩ ∧ b < n₀ ∧ ∀ j, j < zs.length → W.cell? ⟨b, off + j, none⟩ = some (.int .i64 (zs[j]?.getD 0)))
theorem SlB.below {n₀ : Nat} {A B : World} (h : Below n₀ A B) {sv : Value} {zs : List Int} (k : SlB n₀ A sv zs) : SlB n₀ B sv zs := by
  obtain ⟨A', c, e, h1⟩ := k
  refine ⟨A', c, e, ?_⟩
  rcases h1 with e1 | ⟨b, off, e2, hb, hc⟩
  · exact .inl e1
  · exact .inr ⟨b, off, e2, hb, fun j hj => (h.cell (p := ⟨b, off + j, none⟩) hb).trans (hc j hj)⟩
theorem SlB.of {w : World} {A : Option Addr} {c : Nat} {zs : List Int} (h : IntsAt w .i64 A zs) : SlB w.heap.size w (.slice A zs.length c) zs := by
  refine ⟨A, c, rfl, ?_⟩
  rcases Nat.eq_zero_or_pos zs.length with h0 | h0
  · exact .inl (List.length_eq_zero_iff.1 h0)
  · obtain ⟨b, off, e, hc⟩ := h.get h0
    refine .inr ⟨b, off, e, h.lt b off e h0, fun j hj => ?_⟩
    rw [hc j hj, gi, List.getD_eq_getElem?_getD]

set_option maxRecDepth 100000 in
set_option maxHeartbeats 2000000 in
theorem valsSome_in (F : Fence) (n : Nat) (h7 : F.fn 79) (hro : F.round = none) (hn : 1 ≤ n) (l Bs n₀ b off len cap : Nat) (zs : List Int) (hreach : len ≤ 1073741824) (hb : b < n₀) (J Jx : List Int → World → Prop)
    (hY : ∀ pre x W, J pre W → pre.length < len → YieldAt F (n - 1) Try.prog l #[.int .i64 x] W fun e W' =>
      (e = .returned (.bool true) ∧ J (pre ++ [x]) W' ∧ Below n₀ W W') ∨ (e = .returned (.bool false) ∧ Jx (pre ++ [x]) W'))
    (W : World) (hBs : W.cell? ⟨Bs, 0, none⟩ = some (.slice (some ⟨b, off, none⟩) len cap)) (hc : ∀ j, j < len → W.cell? ⟨b, off + j, none⟩ = some (.int .i64 (zs[j]?.getD 0))) (h0 : J [] W) :
    CallsIn F n Try.prog 79 #[.func (.yield l) #[] #[], .pointer (some ⟨Bs, 0, none⟩)] W fun e W' => (∃ v, e = .returned v) ∧
      ((∃ ys, ys = uptoI (fun j => zs[j]?.getD 0) len ∧ J ys W') ∨ (∃ pre, (∃ k, k ≤ len ∧ pre = uptoI (fun j => zs[j]?.getD 0) k) ∧ Jx pre W')) := by
  refine callsIn_of_wp Try.func79 rfl h7 ?_ hro
  simp only [Try.ntmps79, List.size_toArray, List.length_cons, List.length_nil, Nat.reduceAdd, Nat.reduceSub, Array.replicate_succ, Array.replicate_zero, List.push_toArray, List.append_toArray, List.nil_append, List.cons_append]
  gi_wp2
  gi_loopw [7] (fun i wr => ∃ k : Nat, k ≤ len ∧ i = .int .i64 k ∧ J (uptoI (fun j => zs[j]?.getD 0) k) wr ∧ Below n₀ W wr)
    (fun i _ => len - (intOf i).toNat)
  case atStart => exact ⟨0, Nat.zero_le _, rfl, h0, Below.refl _ _⟩
  case round =>
    obtain ⟨k, hk, rfl, hJs, hnx⟩ := hrel
    have hcx : k < len → wr.cell? ⟨b, off + k, none⟩ = some (.int .i64 (zs[k]?.getD 0)) := fun h => (hnx.cell (p := ⟨b, off + k, none⟩) hb).trans (hc k h)
    by_cases hlt : k < len
    · obtain ⟨fn, tmps, assign, body, hy, hR⟩ := hY _ (zs[k]?.getD 0) wr hJs (by rw [uptoI_length]; exact hlt)
      have hcx' := hcx hlt
      gi_wp2
      refine hR.mono ?_
      rintro e W3 (⟨rfl, hJ3, hk3⟩ | ⟨rfl, hJx3⟩)
      · gi_wp2
        go_roundw
        case rel => exact ⟨k + 1, by omega, by simp, by rw [uptoI_succ]; exact hJ3, hnx.trans hk3⟩
        case measure => simp [intOf]; omega
      · gi_wp2
        refine bodyPost_ret (results_none rfl _ _ _) rfl ?_
        exact ⟨⟨_, rfl⟩, .inr ⟨_, ⟨k + 1, by omega, (uptoI_succ _ _).symm⟩, hJx3⟩⟩
    · obtain rfl : k = len := by omega
      gi_wp2
      go_end0
      exact ⟨⟨_, rfl⟩, .inl ⟨_, rfl, hJs⟩⟩
set_option maxRecDepth 100000 in
set_option maxHeartbeats 1000000 in
theorem valsNone_in (F : Fence) (n : Nat) (h7 : F.fn 79) (hro : F.round = none) (l Bs : Nat) (A : Option Addr) (c : Nat) (J : List Int → World → Prop) (W : World) (hBs : W.cell? ⟨Bs, 0, none⟩ = some (.slice A 0 c)) (h0 : J [] W) :
    CallsIn F n Try.prog 79 #[.func (.yield l) #[] #[], .pointer (some ⟨Bs, 0, none⟩)] W fun e W' => (∃ v, e = .returned v) ∧ J [] W' := by
  refine callsIn_of_wp Try.func79 rfl h7 ?_ hro
  simp only [Try.ntmps79, List.size_toArray, List.length_cons, List.length_nil, Nat.reduceAdd, Nat.reduceSub, Array.replicate_succ, Array.replicate_zero, List.push_toArray, List.append_toArray, List.nil_append, List.cons_append]
  gi_wp2
  gi_loopw [7] (fun i wr => i = .int .i64 0 ∧ J [] wr) (fun _ _ => 0)
  case atStart => exact ⟨rfl, h0⟩
  case round =>
    obtain ⟨rfl, hJs⟩ := hrel
    gi_wp2
    go_end0
    exact ⟨⟨_, rfl⟩, hJs⟩
set_option maxHeartbeats 1000000 in
theorem vals_in (F : Fence) (n : Nat) (h5 : F.fn 71) (hro : F.round = none) (a : Option Addr) (len cap : Nat) (w : World) :
    CallsIn F n Try.prog 71 #[.slice a len cap] w fun e w' => e = .returned (.func (.func 79) #[] #[.pointer (some ⟨w.heap.size, 0, none⟩)]) ∧ w' = w.alloc (.cells #[.slice a len cap] 27) := by
  refine callsIn_of_wp Try.func71 rfl h5 ?_ hro
  simp only [Try.ntmps71, List.size_toArray, List.length_cons, List.length_nil, Nat.reduceAdd, Nat.reduceSub, Array.replicate_succ, Array.replicate_zero, List.push_toArray, List.append_toArray, List.nil_append, List.cons_append]
  gi_wp2
  go_ret
  exact ⟨rfl, rfl⟩
theorem vals_stops (F : Fence) (n : Nat) (h7 : F.fn 79) (hro : F.round = none) (hn : 1 ≤ n) (Bs n₀ : Nat) (sv : Value) (zs : List Int) (hreach : zs.length ≤ 1073741824) (w : World) (hBs : Bs < w.heap.size) (hn₀ : n₀ ≤ w.heap.size)
    (hc : w.cell? ⟨Bs, 0, none⟩ = some sv) (hI : SlB n₀ w sv zs) :
    SeqStopsK F n Try.prog 79 #[.pointer (some ⟨Bs, 0, none⟩)] (fun x : Int => #[Value.int .i64 x]) (Below n₀) (fun ys => ys = zs) (fun pre => pre <+: zs) zs.length w := fun l J Jx W hW _ _ hY h0 => by
  have hc' := (hW.cell (p := ⟨Bs, 0, none⟩) hBs).trans hc
  obtain ⟨A, c, rfl, hz⟩ := hI.below (hW.mono hn₀)
  rcases hz with rfl | ⟨b, off, rfl, hb, hcs⟩
  · exact (valsNone_in F n h7 hro l Bs A c J W hc' h0).mono fun e W' ⟨he, hj⟩ => ⟨he, .inl ⟨_, rfl, hj⟩⟩
  · refine (valsSome_in F n h7 hro hn l Bs n₀ b off zs.length c zs hreach hb J Jx hY W hc' hcs h0).mono ?_
    rintro e W' ⟨he, ⟨ys, rfl, hj⟩ | ⟨pre, ⟨k, hk, rfl⟩, hj⟩⟩
    · exact ⟨he, .inl ⟨_, uptoI_all zs, hj⟩⟩
    · exact ⟨he, .inr ⟨_, by rw [uptoI_take zs hk]; exact List.take_prefix _ _, hj⟩⟩

set_option maxRecDepth 100000 in
set_option maxHeartbeats 2000000 in
/-- slices.AppendSeq(nil, the iterator): a list of the call's own. -/
theorem appendSeq_in (F : Fence) (n : Nat) (h11 : F.fn 81) (h7 : F.fn 79) (hro : F.round = none) (hn : 3 ≤ n) (Bs n₀ : Nat) (sv : Value) (zs : List Int) (hreach : zs.length ≤ 1073741824) (w : World) (hBs : Bs < w.heap.size) (hn₀ : n₀ ≤ w.heap.size)
    (hc : w.cell? ⟨Bs, 0, none⟩ = some sv) (hI : SlB n₀ w sv zs) :
    CallsIn F n Try.prog 81 #[.slice none 0 0, .func (.func 79) #[] #[.pointer (some ⟨Bs, 0, none⟩)]] w fun e w' => ∃ v, e = .returned v ∧ w'.ownsRow w.heap.size 3 1 v zs.length (zs.map (Value.int .i64)) ∧ Below w.heap.size w w' := by
  have h1 : 1 ≤ n := by omega
  obtain ⟨i0, hi, hz0, hz1, hz2⟩ := info_parts info_int
  have hun := Try.underlying27
  refine callsIn_of_wp_marks Try.func81 rfl h11 ?_ hro
  simp only [Try.ntmps81, List.size_toArray, List.length_cons, List.length_nil, Nat.reduceAdd, Nat.reduceSub, Array.replicate_succ, Array.replicate_zero, List.push_toArray, List.append_toArray, List.nil_append, List.cons_append]
  gi_wp2
  have bS := Boxed.new w 27 (.slice none 0 0)
  have hB0 : Below w.heap.size w (w.alloc (.cells #[.slice none 0 0] 27)) := (Below.refl _ w).alloc (Nat.le_refl _) _
  refine wpIn_rangeFunc_ownG hro h1 (gf := 79) (lb := #[.pointer (some ⟨Bs, 0, none⟩)]) rfl h7 (enters_of Try.func79 (by kernel_rfl) rfl)
    (vals_stops F (n - 1) h7 hro (by omega) Bs n₀ _ zs hreach w hBs hn₀ hc hI) belowK_t (belowK_b (by simp; omega)) hB0 (fun _ => rfl)
    (fun pre W => (∃ v, Boxed W w.heap.size 27 v ∧ W.ownsRow w.heap.size 3 1 v pre.length (pre.map (Value.int .i64)) ∧ True) ∧ Below w.heap.size w W)
    (fun _ _ _ => False)
    (OwnFrom.and (Own.from (holdsRow_own w.heap.size w.heap.size 27 3 1 (fun pre : List Int => pre.length) (fun pre : List Int => pre.map (Value.int .i64)) (fun _ _ => True)) _) (ownFrom_below (Nat.le_refl _) (by simp)))
    (fun _ _ _ _ _ hs _ _ => hs)
    ⟨⟨_, bS, World.ownsRow_nil _ _ _ _, trivial⟩, hB0⟩
    (fun x => { tmps := #[.slice none 0 0, .func (.func 79) #[] #[.pointer (some ⟨Bs, 0, none⟩)], .pointer (some ⟨w.heap.size, 0, none⟩), undef, .slice none 0 0, .int .i64 x, .func (.func 79) #[] #[.pointer (some ⟨Bs, 0, none⟩)], .int .i64 x, undef, undef, undef, undef, undef], defers := [] }) ?assign ?body ?done ?stop
  case assign =>
    intro l x W K hK
    gi_wp2
    exact hK
  case body =>
    rintro l pre x W ⟨⟨v, hv, hrow, _⟩, hB⟩ hlen
    have hvc := hv.cell
    have hle : w.heap.size ≤ W.heap.size := hB.size
    gi_wp2_with (gi_at_builtin; refine wpListIn_append_own _ rfl _ _ 27 rfl w.heap.size 3 i0 (.int .i64 0) 1 8 hun hi hz0 hz1 hz2 rfl (by decide) _ _ _ rfl (hrow.alloc _) ⟨W.heap.size, 0, none⟩ 1 1 [Value.int .i64 x] rfl rfl (cell_one_new _ _ _) (by simp [Value.oneCell']) (by unfold maxLen; omega) (by omega) (by have := hB.size; simp; omega) ?_; intro v' w1 hown' hgrow _; obtain ⟨g', cap', rfl⟩ := ownsRow_succ hown'; obtain ⟨hv1, hv2, hr2, hk2, hb2⟩ := hv.appended (by decide) hrow hB.size (Nat.le_refl _) hown' hgrow; have hc1 := hv1.cell; have hf1 := hv1.frozen)
    exact ⟨hk2.from _, hb2.mono hn₀, ⟨_, hv2, by simpa using hr2, trivial⟩, hB.trans hb2⟩
  case done =>
    rintro D ys W hD rfl ⟨⟨v, hv, hrow, _⟩, hB⟩ hK
    have hvc := hv.cell
    gi_wp2
    refine ⟨by simp, .inl ⟨_, _, rfl, run_takeDeferred hK, ?_⟩⟩
    exact ⟨_, results_tmp rfl _ _ _, v, rfl, ownsRow_putObj hrow _ hK rfl, hB.trans (belowK_b (w := w) (Nat.le_refl _) W D _ _ (by simp at hD; omega) hK rfl rfl)⟩
  case stop =>
    rintro D c pre W _ _ h _
    exact h.elim
set_option maxHeartbeats 1000000 in
theorem collect_in (F : Fence) (n : Nat) (h8 : F.fn 78) (h11 : F.fn 81) (h7 : F.fn 79) (hro : F.round = none) (hn : 4 ≤ n) (Bs n₀ : Nat) (sv : Value) (zs : List Int) (hreach : zs.length ≤ 1073741824) (w : World) (hBs : Bs < w.heap.size) (hn₀ : n₀ ≤ w.heap.size)
    (hc : w.cell? ⟨Bs, 0, none⟩ = some sv) (hI : SlB n₀ w sv zs) :
    CallsIn F n Try.prog 78 #[.func (.func 79) #[] #[.pointer (some ⟨Bs, 0, none⟩)]] w fun e w' => ∃ v, e = .returned v ∧ w'.ownsRow w.heap.size 3 1 v zs.length (zs.map (Value.int .i64)) ∧ Below w.heap.size w w' := by
  have h1 : 1 ≤ n := by omega
  refine callsIn_of_wp Try.func78 rfl h8 ?_ hro
  simp only [Try.ntmps78, List.size_toArray, List.length_cons, List.length_nil, Nat.reduceAdd, Nat.reduceSub, Array.replicate_succ, Array.replicate_zero, List.push_toArray, List.append_toArray, List.nil_append, List.cons_append]
  gi_wp2_with (gi_at_call 81; refine (appendSeq_in F (n - 1) h11 h7 hro (by omega) Bs n₀ sv zs hreach _ hBs hn₀ hc hI).mono ?_; rintro e w' ⟨v, rfl, hrow, hb⟩)
  go_ret
  exact ⟨v, rfl, hrow, hb⟩
/-- slices.Sorted(slices.Values(xs)): a sorted list of the call's own. -/
theorem collect_calls (Bs n₀ : Nat) (sv : Value) (zs : List Int) (hreach : zs.length ≤ 1073741824) (w : World) (hBs : Bs < w.heap.size) (hn₀ : n₀ ≤ w.heap.size)
    (hc : w.cell? ⟨Bs, 0, none⟩ = some sv) (hI : SlB n₀ w sv zs) :
    Calls Try.prog 78 #[.func (.func 79) #[] #[.pointer (some ⟨Bs, 0, none⟩)]] w fun e w' => ∃ v, e = .returned v ∧ OwnInts w' w.heap.size .i64 3 v zs ∧ Keeps NoB w w' := by
  refine (callsIn_wide.1 (collect_in Fence.wide 4 trivial trivial trivial rfl (Nat.le_refl _) Bs n₀ sv zs hreach w hBs hn₀ hc hI)).mono ?_
  rintro e w' ⟨v, rfl, hrow, hb⟩
  exact ⟨v, rfl, hrow, Keeps.ofBelow hb⟩
theorem vals_calls (a : Option Addr) (len cap : Nat) (w : World) :
    Calls Try.prog 71 #[.slice a len cap] w fun e w' => e = .returned (.func (.func 79) #[] #[.pointer (some ⟨w.heap.size, 0, none⟩)]) ∧ w' = w.alloc (.cells #[.slice a len cap] 27) :=
  callsIn_wide.1 (vals_in Fence.wide 4 trivial rfl a len cap w)
set_option maxHeartbeats 400000 in
theorem sorted_calls (Bs n₀ : Nat) (sv : Value) (zs : List Int) (hreach : zs.length ≤ 1073741824) (w : World) (hBs : Bs < w.heap.size) (hn₀ : n₀ ≤ w.heap.size)
    (hc : w.cell? ⟨Bs, 0, none⟩ = some sv) (hI : SlB n₀ w sv zs) :
    Calls Try.prog 70 #[.func (.func 79) #[] #[.pointer (some ⟨Bs, 0, none⟩)]] w fun e w' => ∃ v, e = .returned v ∧ OwnInts w' w.heap.size .i64 3 v (srtM zs) ∧ Keeps NoB w w' := by
  go_enter Try.func70, Try.ntmps70
  go_wp2_with fail
  refine (collect_calls Bs n₀ sv zs hreach w hBs hn₀ hc hI).mono ?_
  rintro e w1 ⟨v, rfl, hown, HK⟩
  go_wp2_with fail
  refine (sort_calls v zs w.heap.size w1 hown hreach).mono ?_
  rintro e w2 ⟨rfl, hown2, hg⟩
  go_wp2_with fail
  go_ret
  exact ⟨v, rfl, hown2, HK.own hown hg (Nat.le_refl _)⟩
end Go.Proofs.Ytkjaacpcnjakcaa
/- A sample, as the reference draws it: its walk. Conditions: the numbers are of their kinds; below is at most 2^30. -/
set_option linter.unusedVariables false
namespace Go.Proofs.Ytkjaacpcnjakcaa
open Go.RowKit

def pickN (l : List Int) (j x : Nat) : Int := if (x : Int) ∈ l then (j : Int) else (x : Int)
/-- The state behind i draws, and what was drawn, in its order. -/
noncomputable def drawN (s lo : Nat) : Nat → Nat × List Int
  | 0 => (s, [])
  | i + 1 => ((belowN (drawN s lo i).1 (lo + i + 1)).1, (drawN s lo i).2 ++ [pickN (drawN s lo i).2 (lo + i) (belowN (drawN s lo i).1 (lo + i + 1)).2])
theorem drawN_lt (s lo : Nat) (hs : s < 18446744073709551616) (i : Nat) : (drawN s lo i).1 < 18446744073709551616 := by
  cases i with
  | zero => exact hs
  | succ i =>
    have h := drawN_lt s lo hs i
    show (belowN (drawN s lo i).1 (lo + i + 1)).1 < _
    exact belowN_lt _ _ h
theorem drawN_length (s lo i : Nat) : (drawN s lo i).2.length = i := by
  induction i with
  | zero => rfl
  | succ i ih =>
    show ((drawN s lo i).2 ++ [_]).length = _
    rw [List.length_append, ih]; rfl
/-- Numbers, put in their order one by one. -/
def srt (l : List Int) : List Int := l.foldl (fun a y => ins y a) []
theorem srt_snoc (l : List Int) (y : Int) : srt (l ++ [y]) = ins y (srt l) := by unfold srt; rw [List.foldl_append]; rfl
theorem mem_ins (n x : Int) (l : List Int) : x ∈ ins n l ↔ x = n ∨ x ∈ l := by
  induction l with
  | nil => simp [ins]
  | cons y r ih =>
    unfold ins
    split
    · simp
    · rw [List.mem_cons, ih, List.mem_cons]
      constructor
      · rintro (h | h | h)
        · exact .inr (.inl h)
        · exact .inl h
        · exact .inr (.inr h)
      · rintro (h | h | h)
        · exact .inr (.inl h)
        · exact .inl h
        · exact .inr (.inr h)
theorem srt_length (l : List Int) : (srt l).length = l.length := by
  suffices h : ∀ (l a : List Int), (l.foldl (fun a y => ins y a) a).length = a.length + l.length by rw [srt, h]; simp
  intro l
  induction l with
  | nil => intro a; simp
  | cons y r ih => intro a; rw [List.foldl_cons, ih, ins_length, List.length_cons]; omega
theorem mem_srt (x : Int) (l : List Int) : x ∈ srt l ↔ x ∈ l := by
  suffices h : ∀ (l a : List Int), x ∈ l.foldl (fun a y => ins y a) a ↔ x ∈ a ∨ x ∈ l by rw [srt, h]; simp
  intro l
  induction l with
  | nil => intro a; simp
  | cons y r ih =>
    intro a
    rw [List.foldl_cons, ih, mem_ins, List.mem_cons]
    constructor
    · rintro ((h | h) | h)
      · exact .inr (.inl h)
      · exact .inl h
      · exact .inr (.inr h)
    · rintro (h | h | h)
      · exact .inl (.inr h)
      · exact .inl (.inl h)
      · exact .inr h
/-- How many are drawn; from where on. -/
def cntN (below many : Int) : Nat := (if many > below then below else many).toNat
def loN (below many : Int) : Nat := below.toNat - cntN below many
/-- What is drawn, rising. -/
noncomputable def someN (s : Nat) (below many : Int) : List Int := srt (drawN s (loN below many) (cntN below many)).2
noncomputable def someS (s : Nat) (below many : Int) : Nat := (drawN s (loN below many) (cntN below many)).1

end Go.Proofs.Ytkjaacpcnjakcaa
/- What is drawn: no two alike, each below; sorted it rises. Plain lists; no condition. -/
set_option linter.unusedVariables false
namespace Go.Proofs.Ytkjaacpcnjakcaa
open Go.RowKit

theorem drawN_apart (s lo i : Nat) : (drawN s lo i).2.Nodup ∧ ∀ y ∈ (drawN s lo i).2, 0 ≤ y ∧ y < (lo : Int) + i := by
  induction i with
  | zero => exact ⟨List.nodup_nil, fun y hy => by cases hy⟩
  | succ i ih =>
    obtain ⟨h1, h2⟩ := ih
    have hx := belowN_below (drawN s lo i).1 (lo + i + 1) (by omega)
    have e : (drawN s lo (i + 1)).2 = (drawN s lo i).2 ++ [pickN (drawN s lo i).2 (lo + i) (belowN (drawN s lo i).1 (lo + i + 1)).2] := rfl
    rw [e]
    generalize (drawN s lo i).2 = l at *
    generalize (belowN (drawN s lo i).1 (lo + i + 1)).2 = x at *
    have hp : ¬ pickN l (lo + i) x ∈ l ∧ 0 ≤ pickN l (lo + i) x ∧ pickN l (lo + i) x < (lo : Int) + i + 1 := by
      unfold pickN
      split
      · refine ⟨fun h => ?_, by omega, by omega⟩
        have := (h2 _ h).2; omega
      · rename_i hn; exact ⟨hn, by omega, by omega⟩
    refine ⟨?_, ?_⟩
    · rw [List.nodup_append]
      refine ⟨h1, by simp, fun a ha b hb e => ?_⟩
      rw [List.mem_singleton] at hb
      subst hb; subst e
      exact hp.1 ha
    · intro y hy
      rw [List.mem_append, List.mem_singleton] at hy
      rcases hy with hy | rfl
      · have := h2 y hy; omega
      · omega
theorem ins_perm (n : Int) (l : List Int) : (ins n l).Perm (n :: l) := by
  induction l with
  | nil => exact List.Perm.refl _
  | cons x r ih =>
    unfold ins
    split
    · exact List.Perm.refl _
    · exact (ih.cons x).trans (List.Perm.swap n x r)
theorem ins_sorted (n : Int) (l : List Int) (h : l.Pairwise (· ≤ ·)) : (ins n l).Pairwise (· ≤ ·) := by
  induction l with
  | nil => simp [ins]
  | cons x r ih =>
    obtain ⟨h1, h2⟩ := List.pairwise_cons.1 h
    unfold ins
    split
    · rename_i hlt
      refine List.pairwise_cons.2 ⟨fun y hy => ?_, h⟩
      rcases List.mem_cons.1 hy with rfl | hy
      · omega
      · have := h1 y hy; omega
    · rename_i hlt
      refine List.pairwise_cons.2 ⟨fun y hy => ?_, ih h2⟩
      rcases (mem_ins n y r).1 hy with rfl | hy
      · omega
      · exact h1 y hy
theorem srt_perm (l : List Int) : (srt l).Perm l := by
  suffices h : ∀ (l a : List Int), (l.foldl (fun a y => ins y a) a).Perm (a ++ l) by simpa [srt] using h l []
  intro l
  induction l with
  | nil => intro a; simp
  | cons y r ih =>
    intro a
    rw [List.foldl_cons]
    refine (ih _).trans ?_
    refine ((ins_perm y a).append_right r).trans ?_
    exact (List.perm_middle (a := y) (l₁ := a) (l₂ := r)).symm
theorem srt_sorted (l : List Int) : (srt l).Pairwise (· ≤ ·) := by
  suffices h : ∀ (l a : List Int), a.Pairwise (· ≤ ·) → (l.foldl (fun a y => ins y a) a).Pairwise (· ≤ ·) from h l [] List.Pairwise.nil
  intro l
  induction l with
  | nil => intro a h; exact h
  | cons y r ih => intro a h; exact ih _ (ins_sorted y a h)
/-- Two lists that rise, of the same numbers, are one. -/
theorem sorted_unique : ∀ (l m : List Int), l.Perm m → l.Pairwise (· ≤ ·) → m.Pairwise (· ≤ ·) → l = m
  | [], m, hp, _, _ => by rw [List.nil_perm.1 hp]
  | x :: l, m, hp, hl, hm => by
    cases m with
    | nil => exact absurd hp.length_eq (by simp)
    | cons y m =>
      obtain ⟨h1, h2⟩ := List.pairwise_cons.1 hl
      obtain ⟨k1, k2⟩ := List.pairwise_cons.1 hm
      have e : x = y := by
        have hx : x ∈ y :: m := hp.mem_iff.1 List.mem_cons_self
        have hy : y ∈ x :: l := hp.mem_iff.2 List.mem_cons_self
        rcases List.mem_cons.1 hx with e | hx
        · exact e
        · rcases List.mem_cons.1 hy with e | hy
          · exact e.symm
          · have := h1 y hy; have := k1 x hx; omega
      subst e
      rw [sorted_unique l m (hp.cons_inv) h2 k2]
theorem srtM_perm (l : List Int) : (srtM l).Perm l := List.mergeSort_perm l _
theorem srtM_sorted (l : List Int) : (srtM l).Pairwise (· ≤ ·) := by
  have := List.pairwise_mergeSort (le := fun x y : Int => decide (x ≤ y)) (fun a b c h1 h2 => by simp at *; omega) (fun a b => by simp; omega) l
  exact this.imp (fun h => by simpa using h)
theorem srtM_eq (l : List Int) : srtM l = srt l := sorted_unique _ _ ((srtM_perm l).trans (srt_perm l).symm) (srtM_sorted l) (srt_sorted l)
/-- No two alike: then it rises. -/
theorem rising_of {l : List Int} (h : l.Pairwise (· ≤ ·)) (hn : l.Nodup) : l.Pairwise (· < ·) := by
  have := h.and hn
  exact this.imp (fun ⟨h1, h2⟩ => by omega)
theorem someN_length (s : Nat) (below many : Int) : (someN s below many).length = cntN below many := by unfold someN; rw [srt_length, drawN_length]
theorem someN_sorted (s : Nat) (below many : Int) : (someN s below many).Pairwise (· ≤ ·) := srt_sorted _
theorem someN_rising (s : Nat) (below many : Int) : (someN s below many).Pairwise (· < ·) :=
  rising_of (srt_sorted _) ((srt_perm _).nodup_iff.2 (drawN_apart s _ _).1)
theorem someN_below (s : Nat) (below many : Int) : ∀ y ∈ someN s below many, 0 ≤ y ∧ y < below := by
  intro y hy
  have h := (drawN_apart s (loN below many) (cntN below many)).2 y ((mem_srt _ _).1 hy)
  have h2 : (loN below many : Int) + cntN below many ≤ below ∨ cntN below many = 0 := by
    unfold loN cntN at *
    split <;> omega
  rcases h2 with h2 | h2
  · omega
  · have : (drawN s (loN below many) (cntN below many)).2 = [] := List.length_eq_zero_iff.1 (by rw [drawN_length, h2])
    rw [someN, this] at hy
    cases hy
/-- As many numbers as there can be below n, rising, are all of them. -/
theorem all_of (n : Nat) : ∀ (k : Nat) (l : List Int), l.length = n → l.Pairwise (· < ·) → (∀ y ∈ l, (k : Int) ≤ y ∧ y < (k : Int) + n) → l = (List.range n).map (fun i => ((k + i : Nat) : Int)) := by
  induction n with
  | zero => intro k l hl _ _; rw [List.length_eq_zero_iff.1 hl]; rfl
  | succ n ih =>
    intro k l hl hr hb
    cases l with
    | nil => simp at hl
    | cons x r =>
      obtain ⟨h1, h2⟩ := List.pairwise_cons.1 hr
      have hr0 := ih (k + 1) r (by simpa using hl) h2 (fun y hy => ⟨by have := h1 y hy; have := (hb x List.mem_cons_self).1; omega, by have := (hb y (List.mem_cons_of_mem _ hy)).2; omega⟩)
      have hx : x = (k : Int) := by
        rcases Nat.eq_zero_or_pos n with rfl | hn
        · have := hb x List.mem_cons_self; omega
        · have hm : ((k + 1 + 0 : Nat) : Int) ∈ r := by rw [hr0]; exact List.mem_map.2 ⟨0, List.mem_range.2 hn, rfl⟩
          have := h1 _ hm; have := (hb x List.mem_cons_self).1; omega
      rw [List.range_succ_eq_map, List.map_cons, List.map_map, hr0, hx]
      congr 1
      apply List.map_congr_left
      intro i _
      simp only [Function.comp_apply]
      omega
theorem someN_all (s n : Nat) : someN s n n = (List.range n).map (fun i : Nat => (i : Int)) := by
  have hl : (someN s (n : Int) (n : Int)).length = n := by rw [someN_length]; unfold cntN; simp
  have := all_of n 0 _ hl (someN_rising s n n) (fun y hy => by have := someN_below s n n y hy; omega)
  simpa using this
end Go.Proofs.Ytkjaacpcnjakcaa
/- The numbers that are there an odd number of times, rising: plain laws. No condition. -/
set_option linter.unusedVariables false
namespace Go.Proofs.Ytkjaacpcnjakcaa

/-- A number is put into rising ones, or taken out. -/
def tog (x : Int) : List Int → List Int
  | [] => [x]
  | y :: r => if x < y then x :: y :: r else if x = y then r else y :: tog x r
def oddN (l : List Int) : List Int := l.foldr tog []
theorem oddN_cons (x : Int) (l : List Int) : oddN (x :: l) = tog x (oddN l) := rfl
theorem mem_tog (x z : Int) (r : List Int) (h : r.Pairwise (· < ·)) : z ∈ tog x r ↔ ((z ∈ r ∧ z ≠ x) ∨ (z ∉ r ∧ z = x)) := by
  induction r with
  | nil => simp [tog]
  | cons y r ih =>
    have h' := List.pairwise_cons.1 h
    have ih := ih h'.2
    unfold tog
    split
    · rename_i hxy
      have hn : x ∉ y :: r := by
        intro hm
        rcases List.mem_cons.1 hm with e | hm
        · omega
        · have := h'.1 x hm; omega
      rw [List.mem_cons]
      constructor
      · rintro (e | hm)
        · exact .inr ⟨by rw [e]; exact hn, e⟩
        · exact .inl ⟨hm, fun e => hn (by rw [← e]; exact hm)⟩
      · rintro (⟨hm, _⟩ | ⟨_, e⟩)
        · exact .inr hm
        · exact .inl e
    · split
      · rename_i h1 h2
        subst h2
        have hn : x ∉ r := fun hm => by have := h'.1 x hm; omega
        rw [List.mem_cons]
        constructor
        · intro hm; exact .inl ⟨.inr hm, fun e => hn (by rw [← e]; exact hm)⟩
        · rintro (⟨e | hm, hne⟩ | ⟨hn2, e⟩)
          · exact absurd e hne
          · exact hm
          · exact absurd (.inl e) hn2
      · rename_i h1 h2
        rw [List.mem_cons, ih, List.mem_cons]
        constructor
        · rintro (e | ⟨hm, hne⟩ | ⟨hm, e⟩)
          · exact .inl ⟨.inl e, by omega⟩
          · exact .inl ⟨.inr hm, hne⟩
          · exact .inr ⟨by rintro (e2 | hm2); omega; exact hm hm2, e⟩
        · rintro (⟨e | hm, hne⟩ | ⟨hn2, e⟩)
          · exact .inl e
          · exact .inr (.inl ⟨hm, hne⟩)
          · exact .inr (.inr ⟨fun hm => hn2 (.inr hm), e⟩)
theorem tog_rising (x : Int) (r : List Int) (h : r.Pairwise (· < ·)) : (tog x r).Pairwise (· < ·) := by
  induction r with
  | nil => simp [tog]
  | cons y r ih =>
    have h' := List.pairwise_cons.1 h
    unfold tog
    split
    · rename_i hxy
      refine List.pairwise_cons.2 ⟨fun z hz => ?_, h⟩
      rcases List.mem_cons.1 hz with e | hm
      · omega
      · have := h'.1 z hm; omega
    · split
      · exact h'.2
      · rename_i h1 h2
        refine List.pairwise_cons.2 ⟨fun z hz => ?_, ih h'.2⟩
        rcases (mem_tog x z r h'.2).1 hz with ⟨hm, _⟩ | ⟨_, e⟩
        · exact h'.1 z hm
        · omega
theorem oddN_rising (l : List Int) : (oddN l).Pairwise (· < ·) := by
  induction l with
  | nil => exact List.Pairwise.nil
  | cons x l ih => exact tog_rising x _ ih
theorem mem_oddN (l : List Int) (z : Int) : z ∈ oddN l ↔ l.count z % 2 = 1 := by
  induction l with
  | nil => simp [oddN]
  | cons x l ih =>
    rw [oddN_cons, mem_tog x z _ (oddN_rising l), ih, List.count_cons]
    by_cases e : z = x
    · subst e; simp; omega
    · simp [e, show ¬ x = z from fun h => e h.symm]
theorem nodup_of_rising {l : List Int} (h : l.Pairwise (· < ·)) : l.Nodup := h.imp (fun h => by omega)
theorem rise_ext {l m : List Int} (hl : l.Pairwise (· < ·)) (hm : m.Pairwise (· < ·)) (h : ∀ x, x ∈ l ↔ x ∈ m) : l = m :=
  sorted_unique l m ((List.perm_ext_iff_of_nodup (nodup_of_rising hl) (nodup_of_rising hm)).2 h) (hl.imp (fun h => by omega)) (hm.imp (fun h => by omega))
theorem oddN_eq {l m : List Int} (hm : m.Pairwise (· < ·)) (h : ∀ x, x ∈ m ↔ l.count x % 2 = 1) : oddN l = m := rise_ext (oddN_rising l) hm (fun x => by rw [mem_oddN, h])
theorem oddN_count {l m : List Int} (h : ∀ x, l.count x % 2 = m.count x % 2) : oddN l = oddN m := oddN_eq (oddN_rising m) (fun x => by rw [mem_oddN, h])
theorem oddN_perm {l m : List Int} (h : l.Perm m) : oddN l = oddN m := oddN_count (fun x => by rw [h.count_eq])
theorem oddN_of_rising {l : List Int} (h : l.Pairwise (· < ·)) : oddN l = l := oddN_eq h (fun x => by
  have h1 : l.count x ≤ 1 := List.nodup_iff_count.1 (nodup_of_rising h) x
  constructor
  · intro hm; have := List.count_pos_iff.2 hm; omega
  · intro hm; exact List.count_pos_iff.1 (by omega))
theorem oddN_sub {l : List Int} {x : Int} (h : x ∈ oddN l) : x ∈ l := by
  have := (mem_oddN l x).1 h
  exact List.count_pos_iff.1 (by omega)
theorem oddN_length (l : List Int) : (oddN l).length ≤ l.length := by
  induction l with
  | nil => simp [oddN]
  | cons x l ih =>
    have : ∀ r : List Int, (tog x r).length ≤ r.length + 1 := fun r => by
      induction r with
      | nil => simp [tog]
      | cons y r ih => 
        unfold tog
        split
        · simp
        · split
          · simp; omega
          · simp; exact ih
    rw [oddN_cons, List.length_cons]
    exact Nat.le_trans (this _) (by omega)
/-- A run of one number behind lesser ones. -/
theorem oddN_run (l : List Int) (x : Int) (m : Nat) (h : ∀ a ∈ l, a < x) : oddN (l ++ List.replicate m x) = oddN l ++ (if m % 2 = 1 then [x] else []) := by
  have hx : ∀ a ∈ oddN l, a < x := fun a ha => h a (oddN_sub ha)
  refine oddN_eq ?_ (fun z => ?_)
  · refine List.pairwise_append.2 ⟨oddN_rising l, ?_, fun a ha b hb => ?_⟩
    · split <;> simp
    · split at hb
      · obtain rfl := List.mem_singleton.1 hb; exact hx a ha
      · simp at hb
  · rw [List.mem_append, mem_oddN, List.count_append, List.count_replicate]
    by_cases e : z = x
    · subst e
      have h0 : l.count z = 0 := List.count_eq_zero.2 (fun hm => by have := h z hm; omega)
      have h1 : z ∉ oddN l := fun hm => by have := hx z hm; omega
      rw [h0]
      by_cases hm2 : m % 2 = 1 <;> simp [hm2]
    · have : z ∉ (if m % 2 = 1 then [x] else []) := by split <;> simp [e]
      simp [this, show ¬ x = z from fun h => e h.symm]
theorem take_run (l : List Int) (i k : Nat) (hik : i ≤ k) (hk : k ≤ l.length) (x : Int) (h : ∀ j, i ≤ j → j < k → gi l j = x) : l.take k = l.take i ++ List.replicate (k - i) x := by
  have e1 : l.take k = l.take i ++ (l.take k).drop i := by
    have := (List.take_append_drop i (l.take k)).symm
    rwa [List.take_take, Nat.min_eq_left hik] at this
  rw [e1]
  congr 1
  apply List.ext_getElem
  · simp; omega
  · intro j h1 h2
    have hj : i + j < k := by simp at h1; omega
    have := h (i + j) (by omega) hj
    rw [gi_eq l (i + j) (by omega)] at this
    simp [this]
theorem sorted_gi {l : List Int} (h : l.Pairwise (· ≤ ·)) {a b : Nat} (hab : a < b) (hb : b < l.length) : gi l a ≤ gi l b := by
  rw [gi_eq l a (by omega), gi_eq l b hb]
  exact List.pairwise_iff_getElem.1 h a b (by omega) hb hab
theorem rising_gi {l : List Int} (h : l.Pairwise (· < ·)) {a b : Nat} (hab : a < b) (hb : b < l.length) : gi l a < gi l b := by
  rw [gi_eq l a (by omega), gi_eq l b hb]
  exact List.pairwise_iff_getElem.1 h a b (by omega) hb hab
/-- Up to a place all lie below what stands there. -/
def Bnd (l : List Int) (i : Nat) : Prop := i < l.length → ∀ a ∈ l.take i, a < gi l i
theorem bnd_zero (l : List Int) : Bnd l 0 := fun _ a ha => by simp at ha
/-- A run is over: what is odd till there. -/
theorem odd_step {l : List Int} (hs : l.Pairwise (· ≤ ·)) {i k : Nat} (hb : Bnd l i) (hik : i < k) (hk : k ≤ l.length) (h : ∀ j, i ≤ j → j < k → gi l j = gi l i) (hend : k < l.length → gi l k ≠ gi l i) :
    Bnd l k ∧ oddN (l.take k) = oddN (l.take i) ++ (if (k - i) % 2 = 1 then [gi l i] else []) := by
  have e1 := take_run l i k (by omega) hk (gi l i) h
  have hb1 := hb (by omega)
  refine ⟨fun hkl a ha => ?_, by rw [e1]; exact oddN_run _ _ _ hb1⟩
  have h2 : gi l i ≤ gi l k := sorted_gi hs hik hkl
  have h3 := hend hkl
  rw [e1] at ha
  rcases List.mem_append.1 ha with ha | ha
  · have := hb1 a ha; omega
  · obtain ⟨_, rfl⟩ := List.mem_replicate.1 ha; omega
theorem oddN_srtM (l : List Int) : oddN (srtM l) = oddN l := oddN_perm (srtM_perm l)

/-- A number that comes next: there an odd number of times, above the last one. -/
def Cand (l : List Int) (m : Nat) (x : Int) : Prop := l.count x % 2 = 1 ∧ (m = 0 ∨ gi (oddN l) (m - 1) < x)
theorem cand_next {l : List Int} {m : Nat} (h : m < (oddN l).length) : Cand l m (gi (oddN l) m) ∧ gi (oddN l) m ∈ l := by
  have hm := gi_mem (oddN l) m h
  refine ⟨⟨(mem_oddN l _).1 hm, ?_⟩, oddN_sub hm⟩
  rcases Nat.eq_zero_or_pos m with h0 | h0
  · exact .inl h0
  · exact .inr (rising_gi (oddN_rising l) (by omega) h)
theorem cand_none {l : List Int} {m : Nat} (hm : m ≤ (oddN l).length) (h : ∀ j, j < l.length → ¬ Cand l m (gi l j)) : m = (oddN l).length := by
  rcases Nat.lt_or_ge m (oddN l).length with hlt | hge
  · obtain ⟨h1, h2⟩ := cand_next hlt
    obtain ⟨j, hj, e⟩ := List.getElem_of_mem h2
    exact absurd (by rw [gi_eq l j hj, e]; exact h1) (h j hj)
  · omega
theorem cand_least {l : List Int} {m : Nat} {x : Int} (hc : Cand l m x) (h : ∀ j, j < l.length → Cand l m (gi l j) → x ≤ gi l j) (hm : m ≤ (oddN l).length) : m < (oddN l).length ∧ x = gi (oddN l) m := by
  have hx : x ∈ oddN l := (mem_oddN l x).2 hc.1
  obtain ⟨q, hq, e⟩ := List.getElem_of_mem hx
  have hge : m ≤ q := by
    rcases Nat.lt_or_ge q m with h1 | h1
    · exfalso
      rcases hc.2 with h0 | h2
      · omega
      · rcases Nat.lt_or_ge q (m - 1) with h3 | h3
        · have := rising_gi (oddN_rising l) h3 (by omega)
          rw [gi_eq _ q hq, e] at this; omega
        · have h4 : m - 1 = q := by omega
          rw [h4, gi_eq _ q hq, e] at h2; omega
    · exact h1
  have hlt : m < (oddN l).length := by omega
  refine ⟨hlt, ?_⟩
  obtain ⟨h1, h2⟩ := cand_next hlt
  obtain ⟨j, hj, ej⟩ := List.getElem_of_mem h2
  have hle := h j hj (by rw [gi_eq l j hj, ej]; exact h1)
  rw [gi_eq l j hj, ej] at hle
  rcases Nat.lt_or_ge m q with h3 | h3
  · have := rising_gi (oddN_rising l) h3 hq
    rw [gi_eq _ q hq, e] at this; omega
  · have h4 : m = q := by omega
    subst h4; rw [gi_eq _ m hq, e]
end Go.Proofs.Ytkjaacpcnjakcaa
/- The numbers that are there an odd number of times: the program's walk. Condition: a length that the list's reads bear. -/
set_option linter.unusedVariables false
namespace Go.Proofs.Ytkjaacpcnjakcaa
open Go.RowKit

theorem odd_rem (i k : Nat) (h : i ≤ k) : ((((k : Int) - (i : Int)).tmod 2) = 1) ↔ (k - i) % 2 = 1 := by
  rw [show ((k : Int) - (i : Int)) = ((k - i : Nat) : Int) by omega, Int.tmod_eq_emod_of_nonneg (by omega)]
  omega
set_option maxHeartbeats 1600000 in
set_option maxRecDepth 20000 in
theorem odd_calls (xs : List Int) (A : Option Addr) (c : Nat) (w : World) (h : IntsAt w .i64 A xs) (hl : xs.length ≤ 1073741824) :
    Calls Try.prog 57 #[.slice A xs.length c] w fun e w' => ∃ v, e = .returned v ∧ OwnInts w' w.heap.size .i64 3 v (oddN xs) ∧ Keeps NoB w w' := by
  have HB := hid (SlB.of (c := c) h)
  have HE := hid (oddN_srtM xs)
  have hu := Try.underlying27
  clear h
  go_enter Try.func57, Try.ntmps57
  go_wp2_with fail
  refine (vals_calls A xs.length c _).mono ?_
  rintro e w1 ⟨rfl, rfl⟩
  go_wp2_with fail
  refine (sorted_calls w.heap.size w.heap.size _ xs hl _ (by simp) (by simp) (cell_one w _ _) (HB.out.below ((Below.refl _ w).alloc (Nat.le_refl _) _))).mono ?_
  rintro e w2 ⟨v, rfl, hown, hk⟩
  obtain ⟨Al, cl, rfl, hcl, hat⟩ := hown.reads
  have HAT := hid hat
  have HK0 := hid (show Keeps NoB w w2 from ((Keeps.refl NoB w).alloc _).fresh hk)
  have HS := hid (srtM_sorted xs)
  have hL : (srtM xs).length ≤ 1073741824 := by rw [srtM_length]; exact hl
  obtain ⟨L, hLL⟩ : ∃ L, srtM xs = L := ⟨_, rfl⟩
  rw [hLL] at HAT HE HS hL
  simp only [hLL]
  clear hown hk hat hcl hLL
  obtain ⟨n, hn⟩ : ∃ n, L.length = n := ⟨_, rfl⟩
  rw [hn] at hL
  simp only [hn]
  have hnn := hid hn
  have HN := hid (show ∀ k, (oddN (L.take k)).length ≤ n from fun k => Nat.le_trans (oddN_length _) (by rw [List.length_take]; omega))
  clear hn
  go_wp2_with fail
  go_loopw [4, 5] (fun v4 v5 wr => ∃ i : Nat, i ≤ n ∧ v5 = .int .i64 (i : Int) ∧ Hid (OwnInts wr w2.heap.size .i64 3 v4 (oddN (L.take i))) ∧ Hid (Bnd L i) ∧ Hid (Keeps NoB w2 wr)) (fun _ v5 _ => n - (intOf v5).toNat)
  case atStart => exact ⟨0, Nat.zero_le _, rfl, by simp [oddN]; exact OwnInts.nil _ _ _ _, bnd_zero L, Keeps.refl _ _⟩
  case round =>
    obtain ⟨i, hi, rfl, HO, HBN, HK⟩ := hrel
    by_cases hlt : i < n
    · obtain ⟨b, off, rfl, hc⟩ := HAT.out.get (by rw [hnn.out]; omega)
      have HC := hid hc
      clear hc
      have q0 : (0 : Int) ≤ (i : Int) := by omega
      have q1 : (i : Int) < (n : Int) := by omega
      go_wp2_with fail
      go_loopw [6] (fun v6 wr => ∃ k : Nat, i ≤ k ∧ k ≤ n ∧ v6 = .int .i64 (k : Int) ∧ Hid (OwnInts wr w2.heap.size .i64 3 u4 (oddN (L.take i))) ∧ Hid (∀ j, i ≤ j → j < k → gi L j = gi L i) ∧ Hid (Keeps NoB w2 wr)) (fun v6 _ => n - (intOf v6).toNat)
      case atStart => exact ⟨i, Nat.le_refl _, by omega, rfl, HO, fun j h1 h2 => by omega, HK⟩
      case round =>
        obtain ⟨k, hik, hk, rfl, HO, HJ, HK⟩ := hrel
        have c2 := HK.out.cell (HC.out i (by rw [hnn.out]; exact hlt)) (fun h => h)
        by_cases hlt2 : k < n
        · have c1 := HK.out.cell (HC.out k (by rw [hnn.out]; exact hlt2)) (fun h => h)
          have p0 : (0 : Int) ≤ (k : Int) := by omega
          have p1 : (k : Int) < (n : Int) := by omega
          have hd : decide ((k : Int) < (n : Int)) = true := decide_eq_true p1
          by_cases hx : gi L k = gi L i
          · have hq : (gi L k == gi L i) = true := by simp [hx]
            have HX := hid hx
            clear hx
            go_wp2_with fail
            go_quiet (fail)
            go_wp2_with fail
            go_roundw
            case rel => exact ⟨k + 1, by omega, by omega, by go_num, hid (HO.out.drewN _), hid (fun j h1 h2 => by
              by_cases e : j = k
              · rw [e]; exact HX.out
              · exact HJ.out j h1 (by omega)), hid (HK.out.drewN _)⟩
            case measure => simp [intOf]; omega
          · have hq : (gi L k == gi L i) = false := by simp [hx]
            have HX := hid hx
            clear hx
            have hik2 : i < k := by
              rcases Nat.lt_or_ge i k with h1 | h1
              · exact h1
              · exact absurd (by rw [show k = i by omega]) HX.out
            obtain ⟨hb2, hs2⟩ := odd_step HS.out HBN.out hik2 (by rw [hnn.out]; exact hk) HJ.out (fun _ => HX.out)
            have HB2 := hid hb2
            by_cases hodd : (k - i) % 2 = 1
            · have hqq : (((k : Int) - (i : Int)) % 2 == 1) = true := by simp; omega
              rw [if_pos hodd] at hs2
              have HS2 := hid hs2
              have HNN := HN.out i
              clear hb2 hs2 hodd
              go_wp2_with fail
              go_quiet (fail)
              go_wp2_with (at_builtin; go_must (refine wpList_app1 _ rfl _ _ 27 rfl w2.heap.size 3 .i64 8 hu info_int _ _ rfl (OwnInts.alloc HO.out _) _ _ _ rfl (cell_one _ _ _) (by omega) (by omega) (by have := HK.out.size; simp at this ⊢; omega) ?_); intro v4 w4 hown4 hgr4 _)
              go_roundw
              case rel => exact ⟨k, hk, rfl, hid (by rw [HS2.out]; exact hown4), HB2, hid (((HK.out.drewN _).alloc _).own (OwnInts.alloc HO.out _) hgr4 (Nat.le_refl _))⟩
              case measure => simp [intOf]; omega
            · have hqq : (((k : Int) - (i : Int)) % 2 == 1) = false := by simp; omega
              rw [if_neg hodd, List.append_nil] at hs2
              have HS2 := hid hs2
              clear hb2 hs2 hodd
              go_wp2_with fail
              go_quiet (fail)
              go_wp2_with fail
              go_roundw
              case rel => exact ⟨k, hk, rfl, hid (by rw [HS2.out]; exact HO.out.drewN _), HB2, hid (HK.out.drewN _)⟩
              case measure => simp [intOf]; omega
        · obtain rfl : k = n := by omega
          have hd : decide ((k : Int) < (k : Int)) = false := decide_eq_false (by omega)
          have hik2 : i < k := by
            rcases Nat.lt_or_ge i k with h1 | h1
            · exact h1
            · omega
          obtain ⟨hb2, hs2⟩ := odd_step HS.out HBN.out hik2 (by rw [hnn.out]; exact hk) HJ.out (fun e => by rw [hnn.out] at e; omega)
          have HB2 := hid hb2
          by_cases hodd : (k - i) % 2 = 1
          · have hqq : (((k : Int) - (i : Int)) % 2 == 1) = true := by simp; omega
            rw [if_pos hodd] at hs2
            have HS2 := hid hs2
            have HNN := HN.out i
            clear hb2 hs2 hodd
            go_wp2_with fail
            go_quiet (fail)
            go_wp2_with (at_builtin; go_must (refine wpList_app1 _ rfl _ _ 27 rfl w2.heap.size 3 .i64 8 hu info_int _ _ rfl (OwnInts.alloc HO.out _) _ _ _ rfl (cell_one _ _ _) (by omega) (by omega) (by have := HK.out.size; simp at this ⊢; omega) ?_); intro v4 w4 hown4 hgr4 _)
            go_roundw
            case rel => exact ⟨k, hk, rfl, hid (by rw [HS2.out]; exact hown4), HB2, hid (((HK.out.drewN _).alloc _).own (OwnInts.alloc HO.out _) hgr4 (Nat.le_refl _))⟩
            case measure => simp [intOf]; omega
          · have hqq : (((k : Int) - (i : Int)) % 2 == 1) = false := by simp; omega
            rw [if_neg hodd, List.append_nil] at hs2
            have HS2 := hid hs2
            clear hb2 hs2 hodd
            go_wp2_with fail
            go_quiet (fail)
            go_wp2_with fail
            go_roundw
            case rel => exact ⟨k, hk, rfl, hid (by rw [HS2.out]; exact HO.out.drewN _), HB2, hid (HK.out.drewN _)⟩
            case measure => simp [intOf]; omega
    · obtain rfl : i = n := by omega
      go_wp2_with fail
      go_ret
      refine ⟨_, rfl, ?_, HK0.out.fresh HK.out⟩
      have h9 := HO.out
      rw [← hnn.out, List.take_length, HE.out] at h9
      exact h9.lower HK0.out.size
end Go.Proofs.Ytkjaacpcnjakcaa
/- Equations, put upon each other: the program's walk. Conditions: lengths are small; what is read lies below. -/
set_option linter.unusedVariables false
namespace Go.Proofs.Ytkjaacpcnjakcaa
open Go.RowKit

/-- An equation's parts. -/
structure EqV where
  of : List Int
  val : List UInt8
/-- Numbers that are read at an address, in a block of some. -/
def IntsIn (R : Nat → Prop) (w : World) (A : Option Addr) (l : List Int) : Prop := IntsAt w .i64 A l ∧ ∀ b off, A = some ⟨b, off, none⟩ → 0 < l.length → R b
theorem IntsIn.keeps {R S : Nat → Prop} {w w1 : World} {A : Option Addr} {l : List Int} (h : IntsIn R w A l) (hk : Keeps S w w1) (hn : ∀ b, R b → ¬ S b) : IntsIn R w1 A l :=
  ⟨h.1.keeps hk (fun b off e h0 => hn b (h.2 b off e h0)), h.2⟩
theorem IntsIn.mono {R R' : Nat → Prop} {w : World} {A : Option Addr} {l : List Int} (h : IntsIn R w A l) (hr : ∀ b, b < w.heap.size → R b → R' b) : IntsIn R' w A l :=
  ⟨h.1, fun b off e h0 => hr b (h.1.lt b off e h0) (h.2 b off e h0)⟩
def NumsIn (R : Nat → Prop) (w : World) (u : Value) (l : List Int) : Prop := ∃ A c, u = .slice A l.length c ∧ l.length ≤ c ∧ (A = none → c = 0) ∧ IntsIn R w A l
theorem NumsIn.keeps {R S : Nat → Prop} {w w1 : World} {u : Value} {l : List Int} (h : NumsIn R w u l) (hk : Keeps S w w1) (hn : ∀ b, R b → ¬ S b) : NumsIn R w1 u l := by
  obtain ⟨A, c, h1, h2, h3, h4⟩ := h
  exact ⟨A, c, h1, h2, h3, h4.keeps hk hn⟩
theorem NumsIn.mono {R R' : Nat → Prop} {w : World} {u : Value} {l : List Int} (h : NumsIn R w u l) (hr : ∀ b, b < w.heap.size → R b → R' b) : NumsIn R' w u l := by
  obtain ⟨A, c, h1, h2, h3, h4⟩ := h
  exact ⟨A, c, h1, h2, h3, h4.mono hr⟩
def ge (es : List EqV) (j : Nat) : EqV := es.getD j ⟨[], []⟩
theorem ge_eq (es : List EqV) (j : Nat) (h : j < es.length) : ge es j = es[j] := by simp [ge, h]
theorem ge_mem (es : List EqV) (j : Nat) (h : j < es.length) : ge es j ∈ es := by rw [ge_eq es j h]; exact List.getElem_mem h
/-- Equations that are read at an address, all in blocks of some. -/
def EqsIn (R : Nat → Prop) (w : World) (A : Option Addr) (es : List EqV) : Prop :=
  es.length ≤ 4611686018427387903 ∧ (0 < es.length → ∃ b off, A = some ⟨b, off, none⟩ ∧ R b ∧ ∀ j, j < es.length → ∃ u1 u2, w.cell? ⟨b, off + j * 2, none⟩ = some u1 ∧ w.cell? ⟨b, off + j * 2 + 1, none⟩ = some u2 ∧ NumsIn R w u1 (ge es j).of ∧ RowIn R w u2 (ge es j).val)
theorem EqsIn.keeps {R S : Nat → Prop} {w w1 : World} {A : Option Addr} {es : List EqV} (h : EqsIn R w A es) (hk : Keeps S w w1) (hn : ∀ b, R b → ¬ S b) : EqsIn R w1 A es :=
  ⟨h.1, fun h0 => by
    obtain ⟨b, off, e, hb, hc⟩ := h.2 h0
    refine ⟨b, off, e, hb, fun j hj => ?_⟩
    obtain ⟨u1, u2, h1, h2, h3, h4⟩ := hc j hj
    exact ⟨u1, u2, hk.cell h1 (hn b hb), hk.cell h2 (hn b hb), h3.keeps hk hn, h4.keeps hk hn⟩⟩
theorem EqsIn.mono {R R' : Nat → Prop} {w : World} {A : Option Addr} {es : List EqV} (h : EqsIn R w A es) (hr : ∀ b, b < w.heap.size → R b → R' b) : EqsIn R' w A es :=
  ⟨h.1, fun h0 => by
    obtain ⟨b, off, e, hb, hc⟩ := h.2 h0
    obtain ⟨u1, u2, h1, _⟩ := hc 0 h0
    refine ⟨b, off, e, hr b (World.block_lt_of_cell? w _ h1) hb, fun j hj => ?_⟩
    obtain ⟨u1, u2, h1, h2, h3, h4⟩ := hc j hj
    exact ⟨u1, u2, h1, h2, h3.mono hr, h4.mono hr⟩⟩
theorem EqsIn.lt {R : Nat → Prop} {w : World} {A : Option Addr} {es : List EqV} (h : EqsIn R w A es) : EqsIn (fun b => R b ∧ b < w.heap.size) w A es := h.mono (fun b h1 h2 => ⟨h2, h1⟩)
/-- All numbers of some equations, one behind the other. -/
def ofsE (es : List EqV) : List Int := es.flatMap EqV.of
def valsE (es : List EqV) : List (List UInt8) := es.map EqV.val
theorem ofsE_snoc (es : List EqV) (e : EqV) : ofsE (es ++ [e]) = ofsE es ++ e.of := by simp [ofsE]
theorem valsE_snoc (es : List EqV) (e : EqV) : valsE (es ++ [e]) = valsE es ++ [e.val] := by simp [valsE]
theorem take_ge (es : List EqV) (k : Nat) (h : k < es.length) : es.take (k + 1) = es.take k ++ [ge es k] := by rw [List.take_succ_eq_append_getElem h, ge_eq es k h]
theorem ofsE_take_le (es : List EqV) (k : Nat) : (ofsE (es.take k)).length ≤ (ofsE es).length := by
  have : ofsE es = ofsE (es.take k) ++ ofsE (es.drop k) := by rw [ofsE, ofsE, ofsE, ← List.flatMap_append, List.take_append_drop]
  rw [this, List.length_append]; omega
/-- Two results, the first in a cell of its own. -/
theorem results_cell_then {P : Program} {fn : Func} {p q : Tmp} {ty : TypeId} (h : fn.results = #[.cell p ty, .tmp q]) (tmps : Array Value) (w : World) (g : Nat) (t : TypeId) (cs : Array Value) (fr : Nat × Nat) (d : TypeDesc)
    (hp : tmps.getD p undef = .pointer (some ⟨g, 0, none⟩)) (hg : w.heap[g]? = some (.cells cs t fr))
    (hu : P.underlying ty = some d) (hd : (match d with | .struct _ | .array _ _ => true | _ => false) = true) (hi : (P.info? ty).map (·.size) = some cs.size) :
    (results fn tmps).run P w = .ok (.tuple #[.agg cs, tmps.getD q undef]) w := by
  have hp' : tmps[p]?.getD undef = .pointer (some ⟨g, 0, none⟩) := by simpa using hp
  simp [results, h, hp', asAddr, run_loadVar_row w g t ty cs fr d hg hu hd hi]
theorem OwnRows.row {R : Nat → Prop} {w : World} {base : Nat} {v : Value} {ls : List (List UInt8)} (h : OwnRows R w base v ls) : ∃ us, w.ownsRow base 67 1 v ls.length us := by
  obtain ⟨us, _, h2, _⟩ := h
  exact ⟨us, h2⟩
theorem heap_put {w : World} {g o : Nat} {cells : Array Value} {T : TypeId} {fr : Nat × Nat} (h : w.heap[g]? = some (.cells cells T fr)) (u : Value) : (w.setCell ⟨g, o, none⟩ u).heap[g]? = some (.cells (cells.setIfInBounds o u) T fr) := by
  show (w.heap.modify g _)[g]? = _
  rw [Array.getElem?_modify, if_pos rfl, h]; rfl
theorem put_two {w : World} {b : Nat} {a0 a1 : Value} {T : TypeId} {fr : Nat × Nat} (h : w.heap[b]? = some (.cells #[a0, a1] T fr)) (x y : Value) : ((w.setCell ⟨b, 0, none⟩ x).setCell ⟨b, 1, none⟩ y).heap[b]? = some (.cells #[x, y] T fr) := heap_put (heap_put h x) y
theorem cells2 {w : World} {b : Nat} {x y : Value} {T : TypeId} {fr : Nat × Nat} (h : w.heap[b]? = some (.cells #[x, y] T fr)) : w.cell? ⟨b, 0, none⟩ = some x ∧ w.cell? ⟨b, 1, none⟩ = some y := by simp [World.cell?, h]
/-- Two rows of unlike kinds lie in two blocks. -/
theorem own_apart {w : World} {base base' : Nat} {e e' : TypeId} {v v' : Value} {n n' : Nat} {xs xs' : List Value} (h : w.ownsRow base e 1 v n xs) (h' : w.ownsRow base' e' 1 v' n' xs') (he : e ≠ e') : ∀ b, v.ownBlock = some b → v'.ownBlock ≠ some b := by
  intro b hb hb'
  rcases h.2 with ⟨rfl, _⟩ | ⟨g, cap, cur, rfl, _, hg, _⟩
  · simp [Value.ownBlock] at hb
  · rcases h'.2 with ⟨rfl, _⟩ | ⟨g', cap', cur', rfl, _, hg', _⟩
    · simp [Value.ownBlock] at hb'
    · have e1 : g = b := by simpa [Value.ownBlock] using hb
      have e2 : g' = b := by simpa [Value.ownBlock] using hb'
      subst e1; subst e2
      rw [hg] at hg'
      injection hg' with h1
      injection h1 with _ h2
      exact he h2
set_option maxHeartbeats 1600000 in
set_option maxRecDepth 20000 in
theorem eadd_yes (n : Nat) (es : List EqV) (A : Option Addr) (c : Nat) (R : Nat → Prop) (w : World) (hn : n ≤ 1073741824) (he : EqsIn R w A es) (hl1 : es.length ≤ 1073741824) (hl2 : (ofsE es).length ≤ 1073741824) (hfit : fitB n (valsE es) = true) :
    Calls Try.prog 49 #[.int .i64 (n : Int), .slice A es.length c] w fun e w' => ∃ v1 v2, e = .returned (.tuple #[.agg #[v1, v2], .bool true]) ∧ OwnInts w' w.heap.size .i64 3 v1 (oddN (ofsE es)) ∧ OwnB w' w.heap.size v2 (sumB n (valsE es)) ∧ Keeps NoB w w' := by
  have HE := hid he.lt
  have HF := hid hfit
  have HT := hid (take_ge es)
  have HLE := hid (fun k => Nat.le_trans (ofsE_take_le es k) hl2)
  have hl2 := hid hl2
  have hu := Try.underlying27
  have hub := Try.underlying57
  clear he hfit
  obtain ⟨m, hm⟩ : ∃ m, es.length = m := ⟨_, rfl⟩
  rw [hm] at hl1 ⊢
  have hmm := hid hm
  clear hm
  go_enter Try.func49, Try.ntmps49
  go_wp2_with fail
  obtain ⟨w0, hw0⟩ : ∃ w0, w.alloc (.cells #[.slice none 0 0, .slice none 0 0] 69) = w0 := ⟨_, rfl⟩
  rw [hw0]
  have hs0 : w0.heap.size = w.heap.size + 1 := by rw [← hw0]; simp
  have hres := hid (show w0.heap[w.heap.size]? = some (.cells #[.slice none 0 0, .slice none 0 0] 69 (0, 0)) by rw [← hw0]; exact heap_alloc_new w _)
  have HK0 := hid (show Keeps NoB w w0 by rw [← hw0]; exact (Keeps.refl NoB w).alloc _)
  have HE := hid (HE.out.keeps HK0.out (fun _ _ h => h))
  clear hw0
  go_loopw [6, 7, 14] (fun v6 v7 v14 wr => ∃ k : Nat, k ≤ m ∧ v14 = .int .i64 (k : Int) ∧ Hid (OwnInts wr w0.heap.size .i64 3 v6 (ofsE (es.take k))) ∧ Hid (OwnRows (fun b => R b ∧ b < w.heap.size) wr w0.heap.size v7 (valsE (es.take k))) ∧ Hid (Keeps NoB w0 wr)) (fun _ _ v14 _ => m - (intOf v14).toNat)
  case atStart => exact ⟨0, Nat.zero_le _, rfl, OwnInts.nil _ _ _ _, OwnRows.nil _ _ _, hid (Keeps.refl NoB w0)⟩
  case round =>
    obtain ⟨k, hk, rfl, HO, HR, HK⟩ := hrel
    by_cases hlt : k < m
    · obtain ⟨b, off, rfl, hbR, hc⟩ := HE.out.2 (by rw [hmm.out]; omega)
      obtain ⟨u1, u2, h1, h2, h3, h4⟩ := hc k (by rw [hmm.out]; exact hlt)
      have e1 := HK.out.cell h1 (fun h => h)
      have e2 := HK.out.cell h2 (fun h => h)
      have H3 := hid (h3.keeps HK.out (fun _ _ h => h))
      have H4 := hid (h4.keeps HK.out (fun _ _ h => h))
      have p0 : (0 : Int) ≤ (k : Int) := by omega
      have p1 : (k : Int) < (m : Int) := by omega
      clear hc h1 h2 h3 h4 hbR
      obtain ⟨A1, c1, rfl, hlc1, hA1, hat1⟩ := H3.out
      obtain ⟨A2, c2, rfl, hlc2, hA2, hat2⟩ := H4.out
      have HT1 := hid (hat1.1)
      have HA1 := hid hA1
      have hvl := hid (show (valsE (es.take k)).length = k by rw [valsE, List.length_map, List.length_take, hmm.out]; omega)
      obtain ⟨us0, Av, cv, rfl, _⟩ := HR.out.parts hvl.out
      have ht := hid (HT.out k (by rw [hmm.out]; exact hlt))
      have hle := hid (by have h9 := HLE.out (k + 1); rw [ht.out, ofsE_snoc, List.length_append] at h9; exact h9 : (ofsE (es.take k)).length + (ge es k).of.length ≤ 1073741824)
      clear hlc1 hA1 hat1 hlc2 hA2 hat2
      have HK2 := hid ((Keeps.refl NoB wr).alloc (.cells #[.slice A1 (ge es k).of.length c1, .slice A2 (ge es k).val.length c2] 69))
      have hb2 := hid (heap_alloc_new wr (.cells #[.slice A1 (ge es k).of.length c1, .slice A2 (ge es k).val.length c2] 69))
      generalize hge : ge es k = ek at *
      obtain ⟨eof, evl⟩ := ek
      dsimp only at *
      have tk1 : True := trivial
      go_wp2_with (first
        | (at_builtin; clear tk1; go_must (refine wpList_appInts _ rfl _ _ 27 rfl w0.heap.size 3 .i64 8 hu info_int _ (ofsE (es.take k)) rfl (HO.out.kept HK2.out) A1 c1 eof rfl HA1.out (HT1.out.kept HK2.out) (by have := hle.out; omega) (by have := hle.out; omega) (by have := HK.out.size; have := HK2.out.size; omega) ?_); intro v3 w3 hown3 hgr3; have hx3 := (Keeps.ofGrown hgr3).heap hb2.out (fun e => by have := (HO.out.base_le _ e.symm).2; omega); have hy3 := (cells2 hx3).2; have HO3 := hid hown3; have HKS := hid (HK2.out.trans (U := fun b => some b = u6.ownBlock) (Keeps.ofGrown hgr3) (fun _ _ h => h.elim) (fun _ _ h => h)); have HR3 := hid (HR.out.keeps HKS.out (fun b hb e => by have := (HO.out.base_le b e.symm).1; omega) (fun b hb e => own_apart HR.out.row.choose_spec HO.out (by decide) b hb e.symm)); have HK3 := hid ((HK.out.fresh HK2.out).own (HO.out.kept HK2.out) hgr3 (Nat.le_refl _)); have H43 := hid (H4.out.keeps HKS.out (fun b hb e => by have := (HO.out.base_le b e.symm).1; omega)); obtain ⟨us, Av', cv', hv', hus1, hus2, hus3⟩ := HR3.out.parts hvl.out; injection hv' with hv1 _ hv2; subst hv1 hv2; have HUS1 := hid hus1; have HUS2 := hid hus2; have HUS3 := hid hus3; clear hus1 hus2 hus3 hown3 hgr3)
        | (at_builtin; go_must (refine wpList_app1V _ rfl _ _ 57 rfl w0.heap.size 67 (.slice none 0 0) 24 hub info_bytes rfl (.slice Av k cv) k us rfl (World.ownsRow.alloc HUS2.out _) _ _ (.slice A2 evl.length c2) rfl rfl (cell_one _ _ _) (by omega) (by omega) (by have := HK3.out.size; simp; omega) ?_); intro g4 cap4 w4 hown4 hgr4 hat4))
      have HROW := hid (H43.out.mono (R' := fun b => (R b ∧ b < w.heap.size) ∧ (Value.slice Av k cv).ownBlock ≠ some b) (fun b hlt hb => ⟨hb, fun e => by have := (HR3.out.base_le b e).1; omega⟩))
      have HO4 := hid ((OwnInts.alloc HO3.out (.cells #[.slice A2 evl.length c2] 67)).keeps (Keeps.ofGrown hgr4) (fun b hb e => own_apart HO3.out HUS2.out (by decide) b hb e.symm))
      have ho4 := hid (show ofsE (es.take (k + 1)) = ofsE (es.take k) ++ eof by rw [ht.out, ofsE_snoc])
      have hv4 := hid (show valsE (es.take (k + 1)) = valsE (es.take k) ++ [evl] by rw [ht.out, valsE_snoc])
      go_roundw
      case rel => exact ⟨k + 1, by omega, by go_num, hid (by rw [ho4.out]; exact HO4.out), hid (by rw [hv4.out]; exact HR3.out.snocN hvl.out HROW.out HUS1.out HUS2.out HUS3.out hown4 hgr4 hat4), hid ((HK3.out.alloc _).grown hgr4 (fun i e hlt => by have := (HR3.out.base_le i e.symm).1; omega))⟩
      case measure => simp [intOf]; omega
    · obtain rfl : k = m := by omega
      have hall : es.take k = es := by rw [← hmm.out, List.take_length]
      rw [hall] at HO HR
      have hvl := hid (show (valsE es).length = k by rw [valsE, List.length_map, hmm.out])
      obtain ⟨Av, cv, rfl, _, _, hrows⟩ := HR.out.reads
      have HROWS := hid hrows
      rw [hvl.out]
      have HSUM := hid (bsum_yes n (valsE es) Av cv _ wr hn HROWS.out HF.out)
      rw [hvl.out] at HSUM
      clear hall hrows
      go_wp2_with fail
      refine HSUM.out.mono ?_
      rintro e w5 ⟨v2, rfl, hO5, HK5⟩
      have hO5 := hid hO5
      have HK5 := hid HK5
      have HO5 := hid (HO.out.kept HK5.out)
      have HK05 := hid (HK.out.fresh HK5.out)
      obtain ⟨Ao, co, rfl, _, hat⟩ := HO5.out.reads
      have HAT := hid hat
      clear hat
      go_wp2_with fail
      refine (odd_calls (ofsE es) Ao co w5 HAT.out hl2.out).mono ?_
      rintro e w6 ⟨v1, rfl, hO6, HK6⟩
      have HK06 := hid (HK05.out.fresh HK6)
      have hr6 := hid (HK06.out.heap hres.out (fun h => h))
      have hO26 := hid (OwnInts.kept hO5.out HK6)
      have hsz := hid (Nat.le_trans HK.out.size HK5.out.size)
      have hO6 := hid hO6
      have e0 := (cells2 hr6.out).1
      have e1 := (cells2 hr6.out).2
      have f0 : w6.frozen? ⟨w.heap.size, 0, none⟩ = false := by simp [World.frozen?, hr6.out]
      have f1 : w6.frozen? ⟨w.heap.size, 1, none⟩ = false := by simp [World.frozen?, hr6.out]
      obtain ⟨A1, c1, rfl, _, _⟩ := hO6.out.reads
      obtain ⟨A2, c2, rfl, _, _⟩ := hO26.out.reads
      clear HK6
      have hu29 := Try.underlying69
      go_wp2_with fail
      have hfin := put_two hr6.out (.slice A1 (oddN (ofsE es)).length c1) (.slice A2 (enc8 (sumB n (valsE es))).length c2)
      have hkf := (((Keeps.refl (fun b => b = w.heap.size) w6).setCell (p := ⟨w.heap.size, 0, none⟩) (fun _ => rfl) (.slice A1 (oddN (ofsE es)).length c1)).setCell (p := ⟨w.heap.size, 1, none⟩) (fun _ => rfl) (.slice A2 (enc8 (sumB n (valsE es))).length c2))
      have hz5 := hsz.out
      refine bodyPost_ret (results_cell_then rfl _ _ w.heap.size 69 _ (0, 0) _ rfl hfin hu29 rfl (by kernel_rfl)) rfl ?_
      refine ⟨_, _, rfl, (hO6.out.keeps hkf (fun b hb e => by have := (hO6.out.base_le b hb).1; omega)).lower (by omega), ?_, (((HK0.out.fresh HK06.out).setCell (p := ⟨w.heap.size, 0, none⟩) (fun h => absurd h (Nat.lt_irrefl _)) _).setCell (p := ⟨w.heap.size, 1, none⟩) (fun h => absurd h (Nat.lt_irrefl _)) _)⟩
      have h9 := OwnInts.lower (OwnInts.keeps hO26.out hkf (fun b hb e => by have := (OwnInts.base_le hO26.out b hb).1; have := HK.out.size; omega)) (base' := w.heap.size) (by have := HK.out.size; omega)
      exact h9
theorem bsum_no (n : Int) (ls : List (List UInt8)) (A : Option Addr) (c : Nat) (R : Nat → Prop) (w : World) (hn0 : -9223372036854775808 ≤ n) (hn : n ≤ 1073741824) (hb : RowsIn R w A ls) (hfit : fitN n ls = false) :
    Calls Try.prog 56 #[.int .i64 n, .slice A ls.length c] w fun e w' => e = .returned (.tuple #[.slice none 0 0, .bool false]) ∧ Keeps NoB w w' := by
  by_cases h0 : n < 0
  · exact bsum_neg n ls.length A c w h0 hn0
  · obtain ⟨m, rfl⟩ : ∃ m : Nat, n = (m : Int) := ⟨n.toNat, by omega⟩
    refine bsum_unfit m ls A c R w (by omega) hb ?_
    unfold fitN at hfit
    rw [decide_eq_true (by omega : (0 : Int) ≤ (m : Int)), Bool.true_and] at hfit
    exact hfit
set_option maxHeartbeats 1600000 in
set_option maxRecDepth 20000 in
theorem eadd_no (n : Int) (es : List EqV) (A : Option Addr) (c : Nat) (R : Nat → Prop) (w : World) (hn0 : -9223372036854775808 ≤ n) (hn : n ≤ 1073741824) (he : EqsIn R w A es) (hl1 : es.length ≤ 1073741824) (hl2 : (ofsE es).length ≤ 1073741824) (hfit : fitN n (valsE es) = false) :
    Calls Try.prog 49 #[.int .i64 n, .slice A es.length c] w fun e w' => e = .returned (.tuple #[.agg #[.slice none 0 0, .slice none 0 0], .bool false]) ∧ Keeps NoB w w' := by
  have HE := hid he.lt
  have HF := hid hfit
  have HT := hid (take_ge es)
  have HLE := hid (fun k => Nat.le_trans (ofsE_take_le es k) hl2)
  have hl2 := hid hl2
  have hu := Try.underlying27
  have hub := Try.underlying57
  clear he hfit
  obtain ⟨m, hm⟩ : ∃ m, es.length = m := ⟨_, rfl⟩
  rw [hm] at hl1 ⊢
  have hmm := hid hm
  clear hm
  go_enter Try.func49, Try.ntmps49
  go_wp2_with fail
  obtain ⟨w0, hw0⟩ : ∃ w0, w.alloc (.cells #[.slice none 0 0, .slice none 0 0] 69) = w0 := ⟨_, rfl⟩
  rw [hw0]
  have hs0 : w0.heap.size = w.heap.size + 1 := by rw [← hw0]; simp
  have hres := hid (show w0.heap[w.heap.size]? = some (.cells #[.slice none 0 0, .slice none 0 0] 69 (0, 0)) by rw [← hw0]; exact heap_alloc_new w _)
  have HK0 := hid (show Keeps NoB w w0 by rw [← hw0]; exact (Keeps.refl NoB w).alloc _)
  have HE := hid (HE.out.keeps HK0.out (fun _ _ h => h))
  clear hw0
  go_loopw [6, 7, 14] (fun v6 v7 v14 wr => ∃ k : Nat, k ≤ m ∧ v14 = .int .i64 (k : Int) ∧ Hid (OwnInts wr w0.heap.size .i64 3 v6 (ofsE (es.take k))) ∧ Hid (OwnRows (fun b => R b ∧ b < w.heap.size) wr w0.heap.size v7 (valsE (es.take k))) ∧ Hid (Keeps NoB w0 wr)) (fun _ _ v14 _ => m - (intOf v14).toNat)
  case atStart => exact ⟨0, Nat.zero_le _, rfl, OwnInts.nil _ _ _ _, OwnRows.nil _ _ _, hid (Keeps.refl NoB w0)⟩
  case round =>
    obtain ⟨k, hk, rfl, HO, HR, HK⟩ := hrel
    by_cases hlt : k < m
    · obtain ⟨b, off, rfl, hbR, hc⟩ := HE.out.2 (by rw [hmm.out]; omega)
      obtain ⟨u1, u2, h1, h2, h3, h4⟩ := hc k (by rw [hmm.out]; exact hlt)
      have e1 := HK.out.cell h1 (fun h => h)
      have e2 := HK.out.cell h2 (fun h => h)
      have H3 := hid (h3.keeps HK.out (fun _ _ h => h))
      have H4 := hid (h4.keeps HK.out (fun _ _ h => h))
      have p0 : (0 : Int) ≤ (k : Int) := by omega
      have p1 : (k : Int) < (m : Int) := by omega
      clear hc h1 h2 h3 h4 hbR
      obtain ⟨A1, c1, rfl, hlc1, hA1, hat1⟩ := H3.out
      obtain ⟨A2, c2, rfl, hlc2, hA2, hat2⟩ := H4.out
      have HT1 := hid (hat1.1)
      have HA1 := hid hA1
      have hvl := hid (show (valsE (es.take k)).length = k by rw [valsE, List.length_map, List.length_take, hmm.out]; omega)
      obtain ⟨us0, Av, cv, rfl, _⟩ := HR.out.parts hvl.out
      have ht := hid (HT.out k (by rw [hmm.out]; exact hlt))
      have hle := hid (by have h9 := HLE.out (k + 1); rw [ht.out, ofsE_snoc, List.length_append] at h9; exact h9 : (ofsE (es.take k)).length + (ge es k).of.length ≤ 1073741824)
      clear hlc1 hA1 hat1 hlc2 hA2 hat2
      have HK2 := hid ((Keeps.refl NoB wr).alloc (.cells #[.slice A1 (ge es k).of.length c1, .slice A2 (ge es k).val.length c2] 69))
      have hb2 := hid (heap_alloc_new wr (.cells #[.slice A1 (ge es k).of.length c1, .slice A2 (ge es k).val.length c2] 69))
      generalize hge : ge es k = ek at *
      obtain ⟨eof, evl⟩ := ek
      dsimp only at *
      have tk1 : True := trivial
      go_wp2_with (first
        | (at_builtin; clear tk1; go_must (refine wpList_appInts _ rfl _ _ 27 rfl w0.heap.size 3 .i64 8 hu info_int _ (ofsE (es.take k)) rfl (HO.out.kept HK2.out) A1 c1 eof rfl HA1.out (HT1.out.kept HK2.out) (by have := hle.out; omega) (by have := hle.out; omega) (by have := HK.out.size; have := HK2.out.size; omega) ?_); intro v3 w3 hown3 hgr3; have hx3 := (Keeps.ofGrown hgr3).heap hb2.out (fun e => by have := (HO.out.base_le _ e.symm).2; omega); have hy3 := (cells2 hx3).2; have HO3 := hid hown3; have HKS := hid (HK2.out.trans (U := fun b => some b = u6.ownBlock) (Keeps.ofGrown hgr3) (fun _ _ h => h.elim) (fun _ _ h => h)); have HR3 := hid (HR.out.keeps HKS.out (fun b hb e => by have := (HO.out.base_le b e.symm).1; omega) (fun b hb e => own_apart HR.out.row.choose_spec HO.out (by decide) b hb e.symm)); have HK3 := hid ((HK.out.fresh HK2.out).own (HO.out.kept HK2.out) hgr3 (Nat.le_refl _)); have H43 := hid (H4.out.keeps HKS.out (fun b hb e => by have := (HO.out.base_le b e.symm).1; omega)); obtain ⟨us, Av', cv', hv', hus1, hus2, hus3⟩ := HR3.out.parts hvl.out; injection hv' with hv1 _ hv2; subst hv1 hv2; have HUS1 := hid hus1; have HUS2 := hid hus2; have HUS3 := hid hus3; clear hus1 hus2 hus3 hown3 hgr3)
        | (at_builtin; go_must (refine wpList_app1V _ rfl _ _ 57 rfl w0.heap.size 67 (.slice none 0 0) 24 hub info_bytes rfl (.slice Av k cv) k us rfl (World.ownsRow.alloc HUS2.out _) _ _ (.slice A2 evl.length c2) rfl rfl (cell_one _ _ _) (by omega) (by omega) (by have := HK3.out.size; simp; omega) ?_); intro g4 cap4 w4 hown4 hgr4 hat4))
      have HROW := hid (H43.out.mono (R' := fun b => (R b ∧ b < w.heap.size) ∧ (Value.slice Av k cv).ownBlock ≠ some b) (fun b hlt hb => ⟨hb, fun e => by have := (HR3.out.base_le b e).1; omega⟩))
      have HO4 := hid ((OwnInts.alloc HO3.out (.cells #[.slice A2 evl.length c2] 67)).keeps (Keeps.ofGrown hgr4) (fun b hb e => own_apart HO3.out HUS2.out (by decide) b hb e.symm))
      have ho4 := hid (show ofsE (es.take (k + 1)) = ofsE (es.take k) ++ eof by rw [ht.out, ofsE_snoc])
      have hv4 := hid (show valsE (es.take (k + 1)) = valsE (es.take k) ++ [evl] by rw [ht.out, valsE_snoc])
      go_roundw
      case rel => exact ⟨k + 1, by omega, by go_num, hid (by rw [ho4.out]; exact HO4.out), hid (by rw [hv4.out]; exact HR3.out.snocN hvl.out HROW.out HUS1.out HUS2.out HUS3.out hown4 hgr4 hat4), hid ((HK3.out.alloc _).grown hgr4 (fun i e hlt => by have := (HR3.out.base_le i e.symm).1; omega))⟩
      case measure => simp [intOf]; omega
    · obtain rfl : k = m := by omega
      have hall : es.take k = es := by rw [← hmm.out, List.take_length]
      rw [hall] at HO HR
      have hvl := hid (show (valsE es).length = k by rw [valsE, List.length_map, hmm.out])
      obtain ⟨Av, cv, rfl, _, _, hrows⟩ := HR.out.reads
      have HROWS := hid hrows
      rw [hvl.out]
      have HSUM := hid (bsum_no n (valsE es) Av cv _ wr hn0 hn HROWS.out HF.out)
      rw [hvl.out] at HSUM
      clear hall hrows
      go_wp2_with fail
      refine HSUM.out.mono ?_
      rintro e w5 ⟨rfl, HK5⟩
      have HK05 := hid (HK.out.fresh HK5)
      have hr6 := hid (HK05.out.heap hres.out (fun h => h))
      have e0 := (cells2 hr6.out).1
      have e1 := (cells2 hr6.out).2
      have f0 : w5.frozen? ⟨w.heap.size, 0, none⟩ = false := by simp [World.frozen?, hr6.out]
      have f1 : w5.frozen? ⟨w.heap.size, 1, none⟩ = false := by simp [World.frozen?, hr6.out]
      have hu29 := Try.underlying69
      clear HK5
      go_wp2_with fail
      have hfin := put_two hr6.out (.slice none 0 0) (.slice none 0 0)
      refine bodyPost_ret (results_cell_then rfl _ _ w.heap.size 69 _ (0, 0) _ rfl hfin hu29 rfl (by kernel_rfl)) rfl ?_
      exact ⟨rfl, (((HK0.out.fresh HK05.out).setCell (p := ⟨w.heap.size, 0, none⟩) (fun h => absurd h (Nat.lt_irrefl _)) _).setCell (p := ⟨w.heap.size, 1, none⟩) (fun h => absurd h (Nat.lt_irrefl _)) _)⟩
end Go.Proofs.Ytkjaacpcnjakcaa
