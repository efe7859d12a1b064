/- Several texts, one behind the other: what each proves, and its conditions, stands ahead of it. -/
import Derived.Test.YtnnkfopopanfjaaProg
import Derived.WalkKit
import Derived.WalkSpells
import Derived.WalkLawsBesides
import Derived.BigQuiet
import Derived.Deep.QuietTactic
import Derived.Deep.LoopGhost
import Derived.Laws.BitsAllLaws
import Derived.Laws.Bits64
import Derived.Test.YtnnkfopopanfjaaRows
import Derived.ProofKit
import Derived.OpenShut
import Derived.ShutString
import Derived.ChangeOld
import Derived.Below
import Derived.SizedLaws
import Derived.Lib.SmallJoins
import Derived.Laws.AppendOwnNone
import Derived.Deep.AppendLies
import Derived.Deep.RegionHeld3
import Derived.Deep.DrawnRows
/- Small words and lemmas that all texts of this seat share: what is kept, lists of numbers that are read, lists that the call owns. No condition. -/
set_option linter.unusedVariables false
namespace Go.Proofs.Ytnnkfopopanfjaa
open Go.RowKit

/-- Of the blocks that were there none has turned but those in S; the streams are as they were. -/
structure Keeps (S : Nat → Prop) (w w' : World) : Prop where
  os : w'.os = w.os
  tape : w'.tape = w.tape
  output : w'.output = w.output
  size : w.heap.size ≤ w'.heap.size
  block : ∀ k, k < w.heap.size → ¬ S k → w'.heap[k]? = w.heap[k]?
def NoB : Nat → Prop := fun _ => False
theorem Keeps.refl (S : Nat → Prop) (w : World) : Keeps S w w := ⟨rfl, rfl, rfl, Nat.le_refl _, fun _ _ _ => rfl⟩
theorem Keeps.trans {S T U : Nat → Prop} {a b c : World} (h : Keeps S a b) (k : Keeps T b c) (hS : ∀ i, i < a.heap.size → S i → U i) (hT : ∀ i, i < a.heap.size → T i → U i) : Keeps U a c :=
  ⟨k.os.trans h.os, k.tape.trans h.tape, k.output.trans h.output, Nat.le_trans h.size k.size, fun i hi hn =>
    (k.block i (Nat.lt_of_lt_of_le hi h.size) (fun ht => hn (hT i hi ht))).trans (h.block i hi (fun hs => hn (hS i hi hs)))⟩
/-- Then a step that turns nothing, or new blocks alone. -/
theorem Keeps.then {S T : Nat → Prop} {a b c : World} (h : Keeps S a b) (k : Keeps T b c) (hT : ∀ i, T i → i < a.heap.size → S i) : Keeps S a c :=
  h.trans k (fun _ _ h => h) (fun i hi ht => hT i ht hi)
theorem Keeps.fresh {S : Nat → Prop} {a b c : World} (h : Keeps S a b) (k : Keeps NoB b c) : Keeps S a c := h.then k (fun _ h _ => h.elim)
theorem Keeps.mono {S T : Nat → Prop} {a b : World} (h : Keeps S a b) (hT : ∀ i, S i → i < a.heap.size → T i) : Keeps T a b :=
  ⟨h.os, h.tape, h.output, h.size, fun i hi hn => h.block i hi (fun hs => hn (hT i hs hi))⟩
theorem Keeps.drewN {S : Nat → Prop} {a b : World} (h : Keeps S a b) (n : Nat) : Keeps S a (b.drewN n) := ⟨h.os, h.tape, h.output, h.size, h.block⟩
theorem Keeps.drew {S : Nat → Prop} {a b : World} (h : Keeps S a b) : Keeps S a b.drew := ⟨h.os, h.tape, h.output, h.size, h.block⟩
theorem Keeps.below {w w' : World} (h : Keeps NoB w w') : Below w.heap.size w w' := ⟨h.os, h.tape, h.output, h.size, fun k hk => h.block k hk (fun x => x)⟩
theorem Keeps.ofBelow {S : Nat → Prop} {w w' : World} (h : Below w.heap.size w w') : Keeps S w w' := ⟨h.os, h.tape, h.output, h.size, fun k hk _ => h.block k hk⟩
theorem Keeps.alloc {S : Nat → Prop} {a b : World} (h : Keeps S a b) (o : Obj) : Keeps S a (b.alloc o) :=
  h.fresh ⟨rfl, rfl, rfl, by simp, fun k hk _ => Below.heap_alloc _ _ _ hk⟩
theorem Keeps.ofGrown {w w' : World} {g : Option Nat} (h : w.grownBy w' g) : Keeps (fun k => some k = g) w w' := ⟨h.os, h.tape, h.output, h.size, fun k hk hn => h.block k hk hn⟩
theorem Keeps.grown {S : Nat → Prop} {a b c : World} {g : Option Nat} (h : Keeps S a b) (k : b.grownBy c g) (hg : ∀ i, some i = g → i < a.heap.size → S i) : Keeps S a c := h.then (Keeps.ofGrown k) hg
theorem Keeps.setCell {S : Nat → Prop} {a b : World} (h : Keeps S a b) {p : Addr} (hp : p.block < a.heap.size → S p.block) (u : Value) : Keeps S a (b.setCell p u) :=
  h.then (T := fun k => k = p.block) ⟨rfl, rfl, rfl, by simp [World.setCell], fun k _ hn => Below.heap_setCell _ _ _ _ hn⟩ (fun i e hi => by subst e; exact hp hi)
theorem Keeps.one (w : World) (g o : Nat) (u : Value) : Keeps (· = g) w (w.setCell ⟨g, o, none⟩ u) := (Keeps.refl (· = g) w).setCell (p := ⟨g, o, none⟩) (fun _ => rfl) u
theorem Keeps.grownBy {w w' : World} (h : Keeps NoB w w') (g : Option Nat) : w.grownBy w' g := ⟨h.os, h.tape, h.output, h.size, fun k hk _ => h.block k hk (fun x => x)⟩
theorem Keeps.cell {S : Nat → Prop} {w w1 : World} (h : Keeps S w w1) {a : Addr} {v : Value} (hc : w.cell? a = some v) (hn : ¬ S a.block) : w1.cell? a = some v :=
  (World.cell?_of_block (h.block a.block (World.block_lt_of_cell? w a hc) hn)).trans hc
theorem Keeps.heap {S : Nat → Prop} {w w1 : World} (h : Keeps S w w1) {k : Nat} {o : Obj} (hk : w.heap[k]? = some o) (hn : ¬ S k) : w1.heap[k]? = some o :=
  (h.block k (Array.getElem?_eq_some_iff.1 hk).1 hn).trans hk
theorem lt_of_heap {w : World} {k : Nat} {o : Obj} (h : w.heap[k]? = some o) : k < w.heap.size := (Array.getElem?_eq_some_iff.1 h).1

theorem hid {p : Prop} (h : p) : Hid p := h
/-- The number at a place of a list; 0 behind it. -/
def gi (xs : List Int) (j : Nat) : Int := xs.getD j 0
theorem gi_eq (xs : List Int) (j : Nat) (h : j < xs.length) : gi xs j = xs[j] := by simp [gi, h]
theorem gi_mem (xs : List Int) (j : Nat) (h : j < xs.length) : gi xs j ∈ xs := by rw [gi_eq xs j h]; exact List.getElem_mem h
theorem getD_mem {α : Type} (xs : List α) (d : α) {k : Nat} (h : k < xs.length) : xs.getD k d ∈ xs := by
  rw [List.getD_eq_getElem?_getD, List.getElem?_eq_getElem h]; exact List.getElem_mem h
/-- A list of numbers that is read at an address. -/
def IntsAt (w : World) (k : IntKind) (A : Option Addr) (xs : List Int) : Prop :=
  xs.length ≤ 9223372036854775807 ∧ (0 < xs.length → ∃ b off, A = some ⟨b, off, none⟩ ∧ ∀ j, j < xs.length → w.cell? ⟨b, off + j, none⟩ = some (.int k (gi xs j)))
theorem IntsAt.len {w : World} {k : IntKind} {A : Option Addr} {xs : List Int} (h : IntsAt w k A xs) : xs.length ≤ 9223372036854775807 := h.1
theorem IntsAt.get {w : World} {k : IntKind} {A : Option Addr} {xs : List Int} (h : IntsAt w k A xs) (hn : 0 < xs.length) : ∃ b off, A = some ⟨b, off, none⟩ ∧ ∀ j, j < xs.length → w.cell? ⟨b, off + j, none⟩ = some (.int k (gi xs j)) := h.2 hn
theorem IntsAt.keeps {w w1 : World} {k : IntKind} {A : Option Addr} {xs : List Int} (h : IntsAt w k A xs) {S : Nat → Prop} (hk : Keeps S w w1) (hn : ∀ b off, A = some ⟨b, off, none⟩ → 0 < xs.length → ¬ S b) : IntsAt w1 k A xs :=
  ⟨h.1, fun h0 => by
    obtain ⟨b, off, e, hc⟩ := h.2 h0
    exact ⟨b, off, e, fun j hj => hk.cell (hc j hj) (hn b off e h0)⟩⟩
theorem IntsAt.kept {w w1 : World} {k : IntKind} {A : Option Addr} {xs : List Int} (h : IntsAt w k A xs) (hk : Keeps NoB w w1) : IntsAt w1 k A xs := h.keeps hk (fun _ _ _ _ h => h)
/-- Where it lies the block was there. -/
theorem IntsAt.lt {w : World} {k : IntKind} {A : Option Addr} {xs : List Int} (h : IntsAt w k A xs) : ∀ b off, A = some ⟨b, off, none⟩ → 0 < xs.length → b < w.heap.size := fun b off e h0 => by
  obtain ⟨b', off', e', hc⟩ := h.2 h0
  obtain ⟨rfl, rfl⟩ : b' = b ∧ off' = off := by rw [e'] at e; simpa using e
  exact World.block_lt_of_cell? w _ (hc 0 h0)

theorem IntsAt.ofBlock {w : World} {b : Nat} {e : TypeId} {fr : Nat × Nat} {k : IntKind} (xs : List Int) (h : w.heap[b]? = some (.cells (xs.map (Value.int k)).toArray e fr)) (hl : xs.length ≤ 9223372036854775807) : IntsAt w k (some ⟨b, 0, none⟩) xs :=
  ⟨hl, fun _ => ⟨b, 0, rfl, fun j hj => by simp [World.cell?, h, gi, hj]⟩⟩
/-- A list of numbers of the call's own, as a slice value tells it. -/
def OwnInts (w : World) (base : Nat) (k : IntKind) (e : TypeId) (v : Value) (xs : List Int) : Prop := w.ownsRow base e 1 v xs.length (xs.map (Value.int k))
theorem OwnInts.reads {w : World} {base : Nat} {k : IntKind} {e : TypeId} {v : Value} {xs : List Int} (h : OwnInts w base k e v xs) : ∃ A c, v = .slice A xs.length c ∧ xs.length ≤ c ∧ IntsAt w k A xs := by
  rcases h.2 with ⟨rfl, h0⟩ | ⟨g, cap, cur, rfl, hb, hg, h1, h2, h3, h4⟩
  · exact ⟨none, 0, by rw [h0], by omega, by omega, fun h => by omega⟩
  · refine ⟨_, cap, rfl, h1, by unfold maxLen at h2; omega, fun _ => ⟨g, 0, rfl, fun j hj => ?_⟩⟩
    have := World.ownsRow.cells (show w.ownsRow base e 1 _ xs.length (xs.map (Value.int k)) from h) (g := g) (by simp [Value.ownBlock]) j (.int k (gi xs j)) (by simp [gi, hj])
    unfold Addr.add at this
    split at this
    · rename_i e0; subst e0; simpa using this
    · simpa using this
theorem OwnInts.kept {w w1 : World} {base : Nat} {k : IntKind} {e : TypeId} {v : Value} {xs : List Int} (h : OwnInts w base k e v xs) (hk : Keeps NoB w w1) : OwnInts w1 base k e v xs :=
  World.ownsRow.kept h (hk.grownBy none) (by cases hv : v.ownBlock <;> simp)
theorem OwnInts.nil (w : World) (base : Nat) (k : IntKind) (e : TypeId) : OwnInts w base k e (.slice none 0 0) [] := World.ownsRow_nil w base e 1
theorem OwnInts.keeps {w w1 : World} {base : Nat} {k : IntKind} {e : TypeId} {v : Value} {xs : List Int} (h : OwnInts w base k e v xs) {S : Nat → Prop} (hk : Keeps S w w1) (hn : ∀ b, v.ownBlock = some b → ¬ S b) : OwnInts w1 base k e v xs := by
  refine ⟨h.1, ?_⟩
  rcases h.2 with h2 | ⟨g, cap, cur, rfl, hg, hh, r⟩
  · exact .inl h2
  · exact .inr ⟨g, cap, cur, rfl, hg, hk.heap hh (hn g (by simp [Value.ownBlock])), r⟩
theorem OwnInts.alloc {w : World} {base : Nat} {k : IntKind} {e : TypeId} {v : Value} {xs : List Int} (h : OwnInts w base k e v xs) (o : Obj) : OwnInts (w.alloc o) base k e v xs := World.ownsRow.alloc h o
theorem OwnInts.drewN {w : World} {base : Nat} {k : IntKind} {e : TypeId} {v : Value} {xs : List Int} (h : OwnInts w base k e v xs) (n : Nat) : OwnInts (w.drewN n) base k e v xs := h
theorem OwnInts.base_le {w : World} {base : Nat} {k : IntKind} {e : TypeId} {v : Value} {xs : List Int} (h : OwnInts w base k e v xs) (b : Nat) (hb : v.ownBlock = some b) : base ≤ b ∧ b < w.heap.size := World.ownsRow.lt h b hb
theorem OwnInts.lower {w : World} {base base' : Nat} {k : IntKind} {e : TypeId} {v : Value} {xs : List Int} (h : OwnInts w base k e v xs) (hb : base' ≤ base) : OwnInts w base' k e v xs := by
  refine ⟨h.1, ?_⟩
  rcases h.2 with h2 | ⟨g, cap, cur, rfl, hg, hh, r⟩
  · exact .inl h2
  · exact .inr ⟨g, cap, cur, rfl, Nat.le_trans hb hg, hh, r⟩
/-- A list of the call's own, its cells: one is written. -/
theorem OwnInts.cell {w : World} {base : Nat} {k : IntKind} {e : TypeId} {g n c : Nat} {xs : List Int} (h : OwnInts w base k e (.slice (some ⟨g, 0, none⟩) n c) xs) {j : Nat} (hj : j < xs.length) : w.cell? ⟨g, j, none⟩ = some (.int k (gi xs j)) := by
  have := World.ownsRow.cells (show w.ownsRow base e 1 _ xs.length (xs.map (Value.int k)) from h) (g := g) (by simp [Value.ownBlock]) j (.int k (gi xs j)) (by simp [gi, hj])
  unfold Addr.add at this
  split at this
  · rename_i e0; subst e0; simpa using this
  · simpa using this
theorem OwnInts.free {w : World} {base : Nat} {k : IntKind} {e : TypeId} {g n c : Nat} {xs : List Int} (h : OwnInts w base k e (.slice (some ⟨g, 0, none⟩) n c) xs) (j : Nat) : w.frozen? ⟨g, j, none⟩ = false := by
  rcases h.2 with ⟨h1, _⟩ | ⟨g', cap, cur, h1, _, hg, _⟩
  · cases h1
  · cases h1; simp [World.frozen?, hg]
theorem OwnInts.set {w : World} {base : Nat} {k : IntKind} {e : TypeId} {g n c : Nat} {xs : List Int} (h : OwnInts w base k e (.slice (some ⟨g, 0, none⟩) n c) xs) {j : Nat} (hj : j < xs.length) (y : Int) : OwnInts (w.setCell ⟨g, j, none⟩ (.int k y)) base k e (.slice (some ⟨g, 0, none⟩) n c) (xs.set j y) := by
  refine ⟨by simp, ?_⟩
  rcases h.2 with ⟨h1, _⟩ | ⟨g', cap, cur, h1, hb, hg, h2, h3, h4, h5⟩
  · cases h1
  · cases h1
    refine .inr ⟨g, c, cur.setIfInBounds j (.int k y), by rw [List.length_set], hb, ?_, by rw [List.length_set]; exact h2, h3, by simp [h4], ?_⟩
    · show (w.heap.modify g _)[g]? = _
      rw [Array.getElem?_modify, if_pos rfl, hg]; rfl
    · rw [List.length_set, Array.toList_setIfInBounds, List.take_set, h5, List.map_set]
theorem Keeps.own {S : Nat → Prop} {a b c : World} {base : Nat} {k : IntKind} {e : TypeId} {v : Value} {xs : List Int} (h : Keeps S a b) (ho : OwnInts b base k e v xs) (hg : b.grownBy c v.ownBlock) (hb : a.heap.size ≤ base) : Keeps S a c :=
  h.grown hg (fun i hi hlt => absurd (ho.base_le i hi.symm).1 (by omega))
/-- '[]int{}'. -/
theorem OwnInts.empty (w : World) (base : Nat) (k : IntKind) (e : TypeId) (hb : base ≤ w.heap.size) : OwnInts (w.alloc (.cells #[] e)) base k e (.slice (some ⟨w.heap.size, 0, none⟩) 0 0) [] :=
  World.ownsRow_made w #[] 0 hb (Nat.zero_le _) rfl
theorem cell_one (w : World) (u : Value) (e : TypeId) : (w.alloc (.cells #[u] e)).cell? ⟨w.heap.size, 0, none⟩ = some u := by
  unfold World.cell?; rw [heap_alloc_new]; rfl
/-- 'append(v, y)', v the call's own. -/
theorem wpList_app1 {P : Program} (w : World) {ops : Array Oper} {rest : List Oper} {o : Oper} {a : Act} {Q : Exit → Act → World → Prop} (hgd : o.guard = none) (s x : Operand) (t : TypeId)
    (ho : o.op = .call { callee := .builtin .append, args := #[s, x], argTypes := #[t, t] }) (base : Nat) (e : TypeId) (k : IntKind) (bytes : Nat) (ht : P.underlying t = some (.slice e))
    (hi : (P.info? e).map (fun i => (i.zero, i.size, i.bytes)) = some (some (.int k 0), 1, bytes)) (v : Value) (xs : List Int) (hs : a.eval s = v) (hown : OwnInts w base k e v xs) (bx c : Nat) (y : Int)
    (hx : a.eval x = .slice (some ⟨bx, 0, none⟩) 1 c) (hcell : w.cell? ⟨bx, 0, none⟩ = some (.int k y)) (hb : (xs.length + 1) * bytes ≤ 140737488355328) (hm : xs.length + 1 ≤ 140737488355328) (hbase : base ≤ w.heap.size)
    (h : ∀ v' w', OwnInts w' base k e v' (xs ++ [y]) → w.grownBy w' v.ownBlock → v' ≠ .slice none 0 0 → wpList P ops Q rest (a.put o.dst v') w') : wpList P ops Q (o :: rest) a w := by
  obtain ⟨i, i1, i2, i3, i4⟩ := info_parts hi
  refine wpList_append_own w hgd s x t ho base e i (.int k 0) 1 bytes ht i1 i2 i3 i4 rfl (by decide) v xs.length (xs.map (Value.int k)) hs hown ⟨bx, 0, none⟩ 1 c [.int k y] hx rfl ?_ ?_ (by unfold maxLen; omega) hb hbase ?_
  · intro j u hu
    cases j with
    | zero => simp at hu; subst hu; exact hcell
    | succ j => simp at hu
  · intro u hu; simp at hu; subst hu; rfl
  · intro v' w' h1 h2 h3
    refine h v' w' ?_ h2 (fun e => by have := (h3.1 e).2; omega)
    have : OwnInts w' base k e v' (xs ++ [y]) := by
      unfold OwnInts
      simpa using h1
    exact this
end Go.Proofs.Ytnnkfopopanfjaa

/- The draws as plain numbers: the mixing, the state's steps, a number below another. No program in sight; no condition. -/
set_option linter.unusedVariables false
namespace Go.Proofs.Ytnnkfopopanfjaa
open Go.RowKit

def M64 : Nat := 18446744073709551616
/-- A number of 64 bits, well mixed: how it is reckoned. -/
def mixR (z : Nat) : Nat :=
  let a := ((z ^^^ z / 1073741824) * 13787848793156543929) % 18446744073709551616
  let b := ((a ^^^ a / 134217728) * 10723151780598845931) % 18446744073709551616
  b ^^^ b / 2147483648
theorem xor_lt64 {a b : Nat} (ha : a < 18446744073709551616) (hb : b < 18446744073709551616) : a ^^^ b < 18446744073709551616 := Nat.xor_lt_two_pow (n := 64) ha hb
/-- Both functions behind a name that the kernel doesn't open (it would count great numbers one by one). -/
theorem draws_ex : ∃ p : (Nat → Nat) × (Nat → Nat), (∀ z, p.1 z = mixR z) ∧ ∀ s, p.2 s = (s + 11400714819323198485) % 18446744073709551616 := ⟨(mixR, fun s => (s + 11400714819323198485) % 18446744073709551616), fun _ => rfl, fun _ => rfl⟩
/-- A number of 64 bits, well mixed. -/
noncomputable def mixN : Nat → Nat := (Classical.choose draws_ex).1
theorem mixN_def (z : Nat) : mixN z = mixR z := (Classical.choose_spec draws_ex).1 z
theorem mixN_lt (z : Nat) : mixN z < 18446744073709551616 := by
  rw [mixN_def]
  unfold mixR
  simp only
  generalize h : ((_ : Nat) * 10723151780598845931) % 18446744073709551616 = b
  have hb : b < 18446744073709551616 := by rw [← h]; exact Nat.mod_lt _ (by omega)
  exact xor_lt64 hb (Nat.lt_of_le_of_lt (Nat.div_le_self _ _) hb)

theorem cast64 : ((18446744073709551616 : Nat) : Int) = 18446744073709551616 := rfl
theorem cast_mulmod (a c : Nat) : IntKind.u64.wrap ((a : Int) * (c : Int)) = ((a * c % 18446744073709551616 : Nat) : Int) := by
  rw [IntKind.wrap_u64, Int.natCast_emod, Int.natCast_mul, cast64]
theorem wrap_tdiv (x c : Nat) (h : x < 18446744073709551616) : IntKind.u64.wrap (((x : Nat) : Int).tdiv (c : Int)) = ((x / c : Nat) : Int) := by
  rw [Int.tdiv_eq_ediv_of_nonneg (by omega), IntKind.wrap_u64, ← Int.natCast_ediv, ← cast64, ← Int.natCast_emod]
  rw [Nat.mod_eq_of_lt (Nat.lt_of_le_of_lt (Nat.div_le_self _ _) h)]
theorem mix_eq (z : Nat) (h : z < 18446744073709551616) :
    (bits BinOp.xor IntKind.u64 (IntKind.u64.wrap (bits BinOp.xor IntKind.u64 (IntKind.u64.wrap (bits BinOp.xor IntKind.u64 (z : Int) ((z : Int) / 1073741824) * 13787848793156543929)) (IntKind.u64.wrap (bits BinOp.xor IntKind.u64 (z : Int) ((z : Int) / 1073741824) * 13787848793156543929) / 134217728) * 10723151780598845931))
      (IntKind.u64.wrap (bits BinOp.xor IntKind.u64 (IntKind.u64.wrap (bits BinOp.xor IntKind.u64 (z : Int) ((z : Int) / 1073741824) * 13787848793156543929)) (IntKind.u64.wrap (bits BinOp.xor IntKind.u64 (z : Int) ((z : Int) / 1073741824) * 13787848793156543929) / 134217728) * 10723151780598845931) / 2147483648)) = ((mixN z : Nat) : Int) := by
  have e1 : bits BinOp.xor IntKind.u64 (z : Int) ((z : Int) / 1073741824) = ((z ^^^ z / 1073741824 : Nat) : Int) := xorShift_u64 z 1073741824 h
  have e2 : IntKind.u64.wrap (((z ^^^ z / 1073741824 : Nat) : Int) * 13787848793156543929) = (((z ^^^ z / 1073741824) * 13787848793156543929 % 18446744073709551616 : Nat) : Int) := cast_mulmod _ 13787848793156543929
  rw [e1, e2]
  generalize ha : (z ^^^ z / 1073741824) * 13787848793156543929 % 18446744073709551616 = a
  have ha' : a < 18446744073709551616 := by rw [← ha]; exact Nat.mod_lt _ (by omega)
  have e3 : bits BinOp.xor IntKind.u64 (a : Int) ((a : Int) / 134217728) = ((a ^^^ a / 134217728 : Nat) : Int) := xorShift_u64 a 134217728 ha'
  have e4 : IntKind.u64.wrap (((a ^^^ a / 134217728 : Nat) : Int) * 10723151780598845931) = (((a ^^^ a / 134217728) * 10723151780598845931 % 18446744073709551616 : Nat) : Int) := cast_mulmod _ 10723151780598845931
  rw [e3, e4]
  generalize hb : (a ^^^ a / 134217728) * 10723151780598845931 % 18446744073709551616 = b
  have hb' : b < 18446744073709551616 := by rw [← hb]; exact Nat.mod_lt _ (by omega)
  have e5 : bits BinOp.xor IntKind.u64 (b : Int) ((b : Int) / 2147483648) = ((b ^^^ b / 2147483648 : Nat) : Int) := xorShift_u64 b 2147483648 hb'
  rw [e5]
  rw [mixN_def]
  unfold mixR
  simp only [ha, hb]
theorem mix_eq' (z : Nat) (h : z < 18446744073709551616) :
    (bits BinOp.xor IntKind.u64 (IntKind.u64.wrap (bits BinOp.xor IntKind.u64 (IntKind.u64.wrap (bits BinOp.xor IntKind.u64 (z : Int) ((z : Int) / 1073741824) * 13787848793156543929)) (IntKind.u64.wrap ((IntKind.u64.wrap (bits BinOp.xor IntKind.u64 (z : Int) ((z : Int) / 1073741824) * 13787848793156543929)).tdiv 134217728)) * 10723151780598845931))
      (IntKind.u64.wrap ((IntKind.u64.wrap (bits BinOp.xor IntKind.u64 (IntKind.u64.wrap (bits BinOp.xor IntKind.u64 (z : Int) ((z : Int) / 1073741824) * 13787848793156543929)) (IntKind.u64.wrap ((IntKind.u64.wrap (bits BinOp.xor IntKind.u64 (z : Int) ((z : Int) / 1073741824) * 13787848793156543929)).tdiv 134217728)) * 10723151780598845931)).tdiv 2147483648))) = ((mixN z : Nat) : Int) := by
  have e1 : bits BinOp.xor IntKind.u64 (z : Int) ((z : Int) / 1073741824) = ((z ^^^ z / 1073741824 : Nat) : Int) := xorShift_u64 z 1073741824 h
  have e2 : IntKind.u64.wrap (((z ^^^ z / 1073741824 : Nat) : Int) * 13787848793156543929) = (((z ^^^ z / 1073741824) * 13787848793156543929 % 18446744073709551616 : Nat) : Int) := cast_mulmod _ 13787848793156543929
  rw [e1, e2]
  generalize ha : (z ^^^ z / 1073741824) * 13787848793156543929 % 18446744073709551616 = a
  have ha' : a < 18446744073709551616 := by rw [← ha]; exact Nat.mod_lt _ (by omega)
  have t1 : IntKind.u64.wrap ((a : Int).tdiv 134217728) = ((a / 134217728 : Nat) : Int) := wrap_tdiv a 134217728 ha'
  rw [t1]
  have e3 : bits BinOp.xor IntKind.u64 (a : Int) ((a / 134217728 : Nat) : Int) = ((a ^^^ a / 134217728 : Nat) : Int) := by
    have := xorShift_u64 a 134217728 ha'
    rw [← this, Int.natCast_ediv]
  have e4 : IntKind.u64.wrap (((a ^^^ a / 134217728 : Nat) : Int) * 10723151780598845931) = (((a ^^^ a / 134217728) * 10723151780598845931 % 18446744073709551616 : Nat) : Int) := cast_mulmod _ 10723151780598845931
  rw [e3, e4]
  generalize hb : (a ^^^ a / 134217728) * 10723151780598845931 % 18446744073709551616 = b
  have hb' : b < 18446744073709551616 := by rw [← hb]; exact Nat.mod_lt _ (by omega)
  have t2 : IntKind.u64.wrap ((b : Int).tdiv 2147483648) = ((b / 2147483648 : Nat) : Int) := wrap_tdiv b 2147483648 hb'
  rw [t2]
  have e5 : bits BinOp.xor IntKind.u64 (b : Int) ((b / 2147483648 : Nat) : Int) = ((b ^^^ b / 2147483648 : Nat) : Int) := by
    have := xorShift_u64 b 2147483648 hb'
    rw [← this, Int.natCast_ediv]
  rw [e5]
  rw [mixN_def]
  unfold mixR
  simp only [ha, hb]

/-- The state behind a number that is drawn; the number. -/
noncomputable def nxS : Nat → Nat := (Classical.choose draws_ex).2
theorem nxS_def (s : Nat) : nxS s = (s + 11400714819323198485) % 18446744073709551616 := (Classical.choose_spec draws_ex).2 s
noncomputable def nxV (s : Nat) : Nat := mixN (nxS s)
theorem nxS_lt (s : Nat) : nxS s < 18446744073709551616 := by rw [nxS_def]; exact Nat.mod_lt _ (by omega)
theorem nxV_lt (s : Nat) : nxV s < 18446744073709551616 := mixN_lt _
theorem nxS_eq (s : Nat) : IntKind.u64.wrap ((s : Int) + 11400714819323198485) = ((nxS s : Nat) : Int) := by
  rw [IntKind.wrap_u64, nxS_def]; rw [Int.natCast_emod, Int.natCast_add, cast64]; rfl
/-- Seeds, one behind the other. -/
noncomputable def seedStep (s x : Nat) : Nat := mixN (nxS s ^^^ x)
noncomputable def seedN (l : List Nat) : Nat := l.foldl seedStep 0
theorem seedStep_lt (s x : Nat) : seedStep s x < 18446744073709551616 := mixN_lt _
/-- Draws again, at most so often, until the number isn't among the few. -/
noncomputable def tries (few : Nat) : Nat → Nat → Nat × Nat
  | 0, s => (nxS s, nxV s)
  | k + 1, s => if nxV s < few then tries few k (nxS s) else (nxS s, nxV s)
def fewN (n : Nat) : Nat := (18446744073709551616 - n) % n
theorem few_eq (n : Nat) (h1 : 1 ≤ n) (h2 : n ≤ 9223372036854775807) : (IntKind.u64.wrap (-(n : Int))).tmod (n : Int) = ((fewN n : Nat) : Int) := by
  have e : IntKind.u64.wrap (-(n : Int)) = ((18446744073709551616 - n : Nat) : Int) := by rw [IntKind.wrap_u64]; omega
  rw [e]; unfold fewN; rfl
theorem few_eq' (n : Nat) (h1 : 1 ≤ n) (h2 : n ≤ 9223372036854775807) : (IntKind.u64.wrap (18446744073709551615 % (n : Int) + 1)).tmod (n : Int) = ((fewN n : Nat) : Int) := by
  have hm := Nat.mod_lt 18446744073709551615 (show 0 < n by omega)
  have e0 : (18446744073709551615 : Int) % (n : Int) = ((18446744073709551615 % n : Nat) : Int) := by rw [Int.natCast_emod]; rfl
  have e : IntKind.u64.wrap (18446744073709551615 % (n : Int) + 1) = ((18446744073709551615 % n + 1 : Nat) : Int) := by
    rw [IntKind.wrap_u64, e0]; omega
  rw [e]
  show (((18446744073709551615 % n + 1) % n : Nat) : Int) = _
  have e2 : fewN n = (18446744073709551615 + 1) % n := by
    unfold fewN
    have h3 : (18446744073709551616 : Nat) = (18446744073709551616 - n) + n := by omega
    have h4 : (18446744073709551616 - n + n) % n = (18446744073709551616 - n) % n := Nat.add_mod_right _ _
    rw [← h4, ← h3]
  rw [e2, Nat.add_mod, Nat.add_mod 18446744073709551615 1 n, Nat.mod_mod]
theorem rem_eq (x n : Nat) (h1 : 1 ≤ n) (h2 : n ≤ 9223372036854775807) : wrap64 ((x : Int) % (n : Int)) = ((x % n : Nat) : Int) := by
  have := Nat.mod_lt x (show 0 < n by omega)
  rw [← Int.natCast_emod]
  unfold wrap64; omega
/-- A number below n: the state behind it, and the number. -/
noncomputable def belowN (s n : Nat) : Nat × Nat := if n = 0 then (s, 0) else ((tries (fewN n) 15 s).1, (tries (fewN n) 15 s).2 % n)
theorem tries_zero (few s : Nat) : tries few 0 s = (nxS s, nxV s) := rfl
theorem tries_succ (few k s : Nat) : tries few (k + 1) s = if nxV s < few then tries few k (nxS s) else (nxS s, nxV s) := rfl
theorem tries_le (few k s : Nat) (h : ¬ nxV s < few) : tries few k s = (nxS s, nxV s) := by
  cases k with
  | zero => rfl
  | succ k => rw [tries_succ, if_neg h]
theorem tries_bound (few k B : Nat) (h1 : ∀ s, nxS s < B) (h2 : ∀ s, nxV s < B) : ∀ s, (tries few k s).1 < B ∧ (tries few k s).2 < B := by
  induction k with
  | zero => intro s; rw [tries_zero]; exact ⟨h1 s, h2 s⟩
  | succ k ih =>
    intro s
    rw [tries_succ]
    by_cases h : nxV s < few
    · rw [if_pos h]; exact ih _
    · rw [if_neg h]; exact ⟨h1 s, h2 s⟩
theorem belowN_zero (s : Nat) : belowN s 0 = (s, 0) := by unfold belowN; rw [if_pos rfl]
theorem belowN_pos (s n : Nat) (h : 0 < n) : belowN s n = ((tries (fewN n) 15 s).1, (tries (fewN n) 15 s).2 % n) := by unfold belowN; rw [if_neg (by omega)]
theorem belowN_bound (s n B : Nat) (h1 : ∀ s, nxS s < B) (h2 : ∀ s, nxV s < B) (hs : s < B) : (belowN s n).1 < B := by
  rcases Nat.eq_zero_or_pos n with rfl | h
  · rw [belowN_zero]; exact hs
  · rw [belowN_pos s n h]
    generalize ht : tries (fewN n) 15 s = t
    have := (tries_bound (fewN n) 15 B h1 h2 s).1
    rw [ht] at this
    exact this
theorem belowN_lt (s n : Nat) (hs : s < 18446744073709551616) : (belowN s n).1 < 18446744073709551616 := belowN_bound s n _ nxS_lt nxV_lt hs
theorem belowN_below (s n : Nat) (hn : 0 < n) : (belowN s n).2 < n := by
  unfold belowN; rw [if_neg (by omega)]; exact Nat.mod_lt _ hn
end Go.Proofs.Ytnnkfopopanfjaa

/- The draws: the walks of package rng and of its reference. No condition but that numbers are of their kinds. -/
set_option linter.unusedVariables false
namespace Go.Proofs.Ytnnkfopopanfjaa
open Go.RowKit

set_option maxHeartbeats 400000 in
theorem mix_calls (z : Nat) (h : z < 18446744073709551616) (w : World) :
    Calls Try.prog 77 #[.int .u64 (z : Int)] w fun e w' => e = .returned (.int .u64 (mixN z : Nat)) ∧ w' = w := by
  have h0 : (0 : Int) ≤ z := by omega
  have h1 : (z : Int) ≤ 18446744073709551615 := by omega
  have HM := hid (mix_eq z h)
  clear h
  go_enter Try.func77, Try.ntmps77
  go_wp2
  go_ret
  exact ⟨congrArg (fun x => Ending.returned (.int .u64 x)) HM.out, rfl⟩
set_option maxHeartbeats 400000 in
theorem rmix_calls (z : Nat) (h : z < 18446744073709551616) (w : World) :
    Calls Try.prog 83 #[.int .u64 (z : Int)] w fun e w' => e = .returned (.int .u64 (mixN z : Nat)) ∧ w' = w := by
  have h0 : (0 : Int) ≤ z := by omega
  have h1 : (z : Int) ≤ 18446744073709551615 := by omega
  have HM := hid (mix_eq' z h)
  clear h
  go_enter Try.func83, Try.ntmps83
  go_wp2
  go_ret
  exact ⟨congrArg (fun x => Ending.returned (.int .u64 x)) HM.out, rfl⟩

/-- A Rand of a state. -/
def RandAt (w : World) (g : Nat) (s : Nat) : Prop := w.heap[g]? = some (.cells #[.int .u64 (s : Int)] 152 (0, 0)) ∧ s < 18446744073709551616
theorem RandAt.cell {w : World} {g s : Nat} (h : RandAt w g s) : w.cell? ⟨g, 0, none⟩ = some (.int .u64 (s : Int)) := by simp [World.cell?, h.1]
theorem RandAt.free {w : World} {g s : Nat} (h : RandAt w g s) : w.frozen? ⟨g, 0, none⟩ = false := by simp [World.frozen?, h.1]
theorem RandAt.lt {w : World} {g s : Nat} (h : RandAt w g s) : g < w.heap.size := lt_of_heap h.1
theorem RandAt.keeps {w w1 : World} {g s : Nat} (h : RandAt w g s) {S : Nat → Prop} (hk : Keeps S w w1) (hn : ¬ S g) : RandAt w1 g s := ⟨hk.heap h.1 hn, h.2⟩
theorem RandAt.set {w : World} {g s : Nat} (h : RandAt w g s) {x : Nat} (hx : x < 18446744073709551616) : RandAt (w.setCell ⟨g, 0, none⟩ (.int .u64 (x : Int))) g x := by
  refine ⟨?_, hx⟩
  show (w.heap.modify g _)[g]? = _
  rw [Array.getElem?_modify, if_pos rfl, h.1]
  rfl

set_option maxHeartbeats 400000 in
theorem next_calls (g s : Nat) (w : World) (h : RandAt w g s) :
    Calls Try.prog 69 #[.pointer (some ⟨g, 0, none⟩)] w fun e w' => e = .returned (.int .u64 (nxV s : Nat)) ∧ RandAt w' g (nxS s) ∧ Keeps (· = g) w w' := by
  have hc := h.cell
  have hf := h.free
  have H := hid h
  have HN := hid (nxS_eq s)
  clear h
  go_enter Try.func69, Try.ntmps69
  go_wp2_with fail
  rw [HN.out]
  refine (mix_calls (nxS s) (nxS_lt s) _).mono ?_
  rintro e w' ⟨rfl, rfl⟩
  go_wp2
  go_ret
  exact ⟨rfl, H.out.set (nxS_lt s), Keeps.one w g 0 _⟩
set_option maxHeartbeats 400000 in
theorem below_calls (g s n : Nat) (w : World) (h : RandAt w g s) (hn : n ≤ 9223372036854775807) :
    Calls Try.prog 75 #[.pointer (some ⟨g, 0, none⟩), .int .i64 (n : Int)] w fun e w' => e = .returned (.int .i64 ((belowN s n).2 : Nat)) ∧ RandAt w' g (belowN s n).1 ∧ Keeps (· = g) w w' := by
  by_cases h0 : n = 0
  · subst h0
    rw [belowN_zero]
    go_enter Try.func75, Try.ntmps75
    go_wp2_with fail
    go_ret
    exact ⟨rfl, h, Keeps.refl _ _⟩
  · have hp : 1 ≤ n := by omega
    clear h0
    have hlt : decide ((n : Int) < 1) = false := by simp; omega
    have hne : ((n : Int) == 0) = false := by simp; omega
    go_enter Try.func75, Try.ntmps75
    go_wp2_with fail
    refine (next_calls g s _ h).mono ?_
    rintro e w1 ⟨rfl, hr1, hk1⟩
    go_wp2_with fail
    rw [few_eq n hp hn]
    have HB := hid (belowN_pos s n hp)
    go_loopw [6, 7] (fun v6 v7 wr => ∃ i p : Nat, 1 ≤ i ∧ i ≤ 16 ∧ v7 = .int .i64 i ∧ v6 = .int .u64 (nxV p : Nat) ∧ Hid (tries (fewN n) 15 s = tries (fewN n) (16 - i) p) ∧ Hid (RandAt wr g (nxS p)) ∧ Hid (Keeps (· = g) w wr)) (fun _ v7 _ => 16 - (intOf v7).toNat)
    case atStart => exact ⟨1, s, by omega, by omega, rfl, rfl, rfl, hr1, hk1⟩
    case round =>
      obtain ⟨i, p, hi1, hi2, rfl, rfl, HT, HR, HK⟩ := hrel
      by_cases hlt : i < 16
      · by_cases hfew : nxV p < fewN n
        · have hd : decide (nxV p < fewN n) = true := decide_eq_true hfew
          go_wp2_with fail
          refine (next_calls g (nxS p) _ HR.out).mono ?_
          rintro e w2 ⟨rfl, hr2, hk2⟩
          go_wp2_with fail
          go_roundw
          case rel => exact ⟨i + 1, nxS p, by omega, by omega, by go_num, rfl, hid (by rw [HT.out, show 16 - i = (16 - (i + 1)) + 1 by omega, tries_succ, if_pos hfew]), hr2, HK.out.then hk2 (fun _ h _ => h)⟩
          case measure => simp [intOf]; omega
        · have hd : decide (nxV p < fewN n) = false := decide_eq_false hfew
          go_wp2_with fail
          go_ret
          have ht : belowN s n = (nxS p, nxV p % n) := by rw [HB.out, HT.out, show 16 - i = (15 - i) + 1 by omega, tries_succ, if_neg hfew]
          rw [ht]
          refine ⟨congrArg (fun x => Ending.returned (.int .i64 x)) ?_, HR.out, HK.out⟩
          exact rem_eq _ n hp hn
      · obtain rfl : i = 16 := by omega
        go_wp2_with fail
        go_ret
        have ht : belowN s n = (nxS p, nxV p % n) := by rw [HB.out, HT.out]; rfl
        rw [ht]
        refine ⟨congrArg (fun x => Ending.returned (.int .i64 x)) ?_, HR.out, HK.out⟩
        exact rem_eq _ n hp hn
/-- Numbers of 64 bits that are read. -/
def NatsAt (w : World) (A : Option Addr) (xs : List Nat) : Prop := IntsAt w .u64 A (xs.map (fun n : Nat => (n : Int))) ∧ ∀ x ∈ xs, x < 18446744073709551616
theorem gi_map (xs : List Nat) (j : Nat) (h : j < xs.length) : gi (xs.map (fun n : Nat => (n : Int))) j = ((xs.getD j 0 : Nat) : Int) := by
  simp [gi, h]
theorem seed_take (xs : List Nat) (k : Nat) (h : k < xs.length) : seedN (xs.take (k + 1)) = seedStep (seedN (xs.take k)) (xs.getD k 0) := by
  unfold seedN
  rw [List.take_succ_eq_append_getElem h, List.foldl_append]
  simp [h]
theorem seedN_lt (xs : List Nat) : seedN xs < 18446744073709551616 := by
  rcases Nat.eq_zero_or_pos xs.length with h | h
  · rw [List.length_eq_zero_iff.1 h]; exact Nat.lt_of_lt_of_le (show seedN [] < 1 from Nat.zero_lt_one) (by omega)
  · have := seed_take xs (xs.length - 1) (by omega)
    rw [show xs.length - 1 + 1 = xs.length by omega, List.take_length] at this
    rw [this]; exact seedStep_lt _ _
theorem xorsum_eq (s x : Nat) (hx : x < 18446744073709551616) : bits BinOp.xor IntKind.u64 (IntKind.u64.wrap ((s : Int) + 11400714819323198485)) (x : Int) = ((nxS s ^^^ x : Nat) : Int) := by
  rw [nxS_eq]; exact u64_xor_nat _ _ (nxS_lt s) hx
set_option maxHeartbeats 400000 in
theorem new_calls (xs : List Nat) (A : Option Addr) (c : Nat) (w : World) (h : NatsAt w A xs) :
    Calls Try.prog 64 #[.slice A xs.length c] w fun e w' => ∃ g, e = .returned (.pointer (some ⟨g, 0, none⟩)) ∧ w.heap.size ≤ g ∧ RandAt w' g (seedN xs) ∧ Keeps NoB w w' := by
  obtain ⟨⟨hlen, hat⟩, hx⟩ := h
  simp only [List.length_map] at hlen hat
  have HA := hid hat
  clear hat
  go_enter Try.func64, Try.ntmps64
  go_wp2_with fail
  go_loopw [10] (fun v10 wr => ∃ k : Nat, k ≤ xs.length ∧ v10 = .int .i64 k ∧ Hid (RandAt wr w.heap.size (seedN (xs.take k))) ∧ Hid (Keeps NoB w wr)) (fun v10 _ => xs.length - (intOf v10).toNat)
  case atStart => exact ⟨0, Nat.zero_le _, rfl, ⟨heap_alloc_new w _, by simp [seedN]⟩, (Keeps.refl _ w).alloc _⟩
  case round =>
    obtain ⟨k, hk, rfl, HR, HK⟩ := hrel
    by_cases hlt : k < xs.length
    · obtain ⟨b, off, rfl, h1⟩ := HA.out (by omega)
      have c1 : wr.cell? ⟨b, off + k, none⟩ = some (.int .u64 (xs.getD k 0 : Nat)) := by rw [← gi_map xs k hlt]; exact HK.out.cell (h1 k hlt) (fun h => h)
      have hxk := hid (hx (xs.getD k 0) (getD_mem xs 0 hlt))
      have ht := hid (seed_take xs k hlt)
      clear h1
      generalize hX : xs.getD k 0 = X at c1 hxk ht
      clear hX
      have c2 := HR.out.cell
      have f2 := HR.out.free
      go_wp2_with fail
      rw [xorsum_eq _ _ hxk.out]
      refine (mix_calls _ (xor_lt64 (nxS_lt _) hxk.out) _).mono ?_
      rintro e w1 ⟨rfl, rfl⟩
      go_wp2_with fail
      go_roundw
      case rel => exact ⟨k + 1, by omega, by go_num, by rw [ht.out]; exact HR.out.set (seedStep_lt _ _), HK.out.setCell (p := ⟨w.heap.size, 0, none⟩) (fun h => absurd h (Nat.lt_irrefl _)) _⟩
      case measure => simp [intOf]; omega
    · obtain rfl : k = xs.length := by omega
      go_wp2_with fail
      go_ret
      refine ⟨w.heap.size, rfl, Nat.le_refl _, ?_, HK.out⟩
      have := HR.out
      rwa [List.take_length] at this
set_option maxHeartbeats 400000 in
theorem rseed_calls (xs : List Nat) (A : Option Addr) (c : Nat) (w : World) (h : NatsAt w A xs) :
    Calls Try.prog 71 #[.slice A xs.length c] w fun e w' => e = .returned (.int .u64 (seedN xs : Nat)) ∧ Keeps NoB w w' := by
  obtain ⟨⟨hlen, hat⟩, hx⟩ := h
  simp only [List.length_map] at hlen hat
  have HA := hid hat
  clear hat
  go_enter Try.func71, Try.ntmps71
  go_wp2_with fail
  go_loopw [3, 4] (fun v3 v4 wr => ∃ k : Nat, k ≤ xs.length ∧ v4 = .int .i64 k ∧ v3 = .int .u64 (seedN (xs.take k) : Nat) ∧ Hid (Keeps NoB w wr)) (fun _ v4 _ => xs.length - (intOf v4).toNat)
  case atStart => exact ⟨0, Nat.zero_le _, rfl, rfl, Keeps.refl _ w⟩
  case round =>
    obtain ⟨k, hk, rfl, rfl, HK⟩ := hrel
    by_cases hlt : k < xs.length
    · obtain ⟨b, off, rfl, h1⟩ := HA.out (by omega)
      have c1 : wr.cell? ⟨b, off + k, none⟩ = some (.int .u64 (xs.getD k 0 : Nat)) := by rw [← gi_map xs k hlt]; exact HK.out.cell (h1 k hlt) (fun h => h)
      have hxk := hid (hx (xs.getD k 0) (getD_mem xs 0 hlt))
      have ht := hid (seed_take xs k hlt)
      clear h1
      generalize hX : xs.getD k 0 = X at c1 hxk ht
      clear hX
      go_wp2_with fail
      rw [xorsum_eq _ _ hxk.out]
      refine (rmix_calls _ (xor_lt64 (nxS_lt _) hxk.out) _).mono ?_
      rintro e w1 ⟨rfl, rfl⟩
      go_wp2_with fail
      go_roundw
      case rel => exact ⟨k + 1, by omega, by go_num, by rw [ht.out]; rfl, HK⟩
      case measure => simp [intOf]; omega
    · obtain rfl : k = xs.length := by omega
      go_wp2_with fail
      go_ret
      exact ⟨congrArg (fun x : List Nat => Ending.returned (.int .u64 (seedN x : Nat))) (List.take_length ..), HK.out⟩
end Go.Proofs.Ytnnkfopopanfjaa

/- From what came in to this seat's words: slices of numbers. -/
set_option linter.unusedVariables false
namespace Go.Proofs.Ytnnkfopopanfjaa
open Go.ChangeShapes Go.WideShapes Go.ChangeAt Go.RowKit

theorem own0 : ownKnob Try.prog.godebug = none := by kernel_rfl
theorem laidOut0 : laidOutB Try.prog = true := by kernel_rfl
def IsRow (k : IntKind) (w : World) (a : Option Addr) (len cap : Nat) (zs : List Int) : Prop :=
  (a = none ∧ len = 0 ∧ cap = 0 ∧ zs = []) ∨
  ∃ x, a = some x ∧ len ≤ cap ∧ cap ≤ maxLen ∧ zs.length = cap ∧ (∀ i, i < zs.length → w.cell? (x.add i) = some (.int k (zs.getD i 0))) ∧ ∀ n ∈ zs, (Lit.int k n).wf = true
theorem IsRow.ints {k : IntKind} {w : World} {a : Option Addr} {len cap : Nat} {zs : List Int} (h : IsRow k w a len cap zs) : ∃ xs : List Int, len = xs.length ∧ xs.length ≤ cap ∧ IntsAt w k a xs ∧ ∀ n ∈ xs, (Lit.int k n).wf = true := by
  rcases h with ⟨rfl, rfl, rfl, rfl⟩ | ⟨x, rfl, hl, hm, hz, hc, hw⟩
  · exact ⟨[], rfl, Nat.le_refl _, ⟨by simp, fun h => by simp at h⟩, by simp⟩
  · have hlen : (zs.take len).length = len := by rw [List.length_take]; omega
    refine ⟨zs.take len, hlen.symm, by omega, ⟨by unfold maxLen at hm; omega, fun h0 => ?_⟩, fun n hn => hw n (List.mem_of_mem_take hn)⟩
    obtain ⟨b, off, spot⟩ := x
    have hs : spot = none := by
      have := hc 0 (by omega)
      simpa [Addr.add] using World.cell?_spot this
    subst hs
    refine ⟨b, off, rfl, fun j hj => ?_⟩
    have h1 := hc j (by omega)
    have h2 : gi (zs.take len) j = zs.getD j 0 := by
      rw [hlen] at hj
      simp [gi, hj]
    rw [h2]
    unfold Addr.add at h1
    split at h1
    · rename_i e; subst e; simpa using h1
    · simpa using h1
/-- A field (or a cell) that is a slice of numbers. -/
theorem cell_ints {H : Type} {enc : TypeId × Value → H} {W : World} {base : Nat} {sp : Nat → Bool} {held : Bool} {n : Nat} {T E : TypeId} {k : IntKind} {v : Value} {y : DataW H × List MemPlace} (ht : Try.prog.underlying T = some (.slice E)) (he : Try.prog.underlying E = some (.int k)) (hc : Try.prog.cellsOf E = 1)
    (hsp : ∀ b, sp b = true) (h : DataW.trod enc Try.prog W base sp held n T [v] = some y) : ∃ (xs : List Int) (a : Option Addr) (cap : Nat), v = .slice a xs.length cap ∧ xs.length ≤ cap ∧ IntsAt W k a xs ∧ ∀ n ∈ xs, (Lit.int k n).wf = true := by
  rcases open_ints ht he hc h with ⟨hcs, _⟩ | ⟨x, l, c, zs, hcs, _, hl, hm, hz, _, hcell, hwz⟩
  · have : v = .slice none 0 0 := by simpa using hcs
    subst this
    exact ⟨[], none, 0, rfl, Nat.le_refl _, ⟨by simp, fun h => by simp at h⟩, by simp⟩
  · have : v = .slice (some x) l c := by simpa using hcs
    subst this
    rw [hsp, if_pos rfl] at hz
    obtain ⟨xs, rfl, h1, h2, h3⟩ := IsRow.ints (k := k) (w := W) (a := some x) (len := l) (cap := c) (zs := zs) (.inr ⟨x, rfl, hl, hm, hz, hcell, hwz⟩)
    exact ⟨xs, _, _, rfl, h1, h2, h3⟩
theorem cell_int {H : Type} {enc : TypeId × Value → H} {W : World} {base : Nat} {sp : Nat → Bool} {held : Bool} {n : Nat} {T : TypeId} {k : IntKind} {v : Value} {y : DataW H × List MemPlace} (ht : Try.prog.underlying T = some (.int k))
    (h : DataW.trod enc Try.prog W base sp held n T [v] = some y) : ∃ x : Int, v = .int k x ∧ (Lit.int k x).wf = true := by
  obtain ⟨x, hcs, _, hw⟩ := DataW.trod_int ht h
  exact ⟨x, by simpa using hcs, hw⟩
theorem wf_u64_bounds {n : Int} (h : (Lit.int .u64 n).wf = true) : 0 ≤ n ∧ n < 18446744073709551616 := by
  have := Go.bounds_u64 h
  omega
theorem wf_i64_bounds {n : Int} (h : (Lit.int .i64 n).wf = true) : -9223372036854775808 ≤ n ∧ n ≤ 9223372036854775807 := by
  have := Go.bounds_i64 h
  omega
theorem NatsAt.ofInts {w : World} {a : Option Addr} {xs : List Int} (h : IntsAt w .u64 a xs) (hw : ∀ n ∈ xs, (Lit.int .u64 n).wf = true) : ∃ ns : List Nat, xs.length = ns.length ∧ NatsAt w a ns := by
  have e : xs = (xs.map Int.toNat).map (fun n : Nat => (n : Int)) := by
    rw [List.map_map]
    conv => lhs; rw [← List.map_id xs]
    apply List.map_congr_left
    intro n hn
    have := (wf_u64_bounds (hw n hn)).1
    simp; omega
  refine ⟨xs.map Int.toNat, by simp, by rw [← e]; exact h, fun x hx => ?_⟩
  obtain ⟨n, hn, rfl⟩ := List.mem_map.1 hx
  have := wf_u64_bounds (hw n hn)
  omega
end Go.Proofs.Ytnnkfopopanfjaa

/- The references' draws, lists that rise, and samples: their walks. Conditions: numbers are of their kinds; lengths bounded where lists grow. -/
set_option linter.unusedVariables false
namespace Go.Proofs.Ytnnkfopopanfjaa
open Go.RowKit

set_option maxHeartbeats 400000 in
theorem rnext_calls (s : Nat) (w : World) :
    Calls Try.prog 87 #[.int .u64 (s : Int)] w fun e w' => e = .returned (.tuple #[.int .u64 (nxS s : Nat), .int .u64 (nxV s : Nat)]) ∧ w' = w := by
  have HN := hid (nxS_eq s)
  go_enter Try.func87, Try.ntmps87
  go_wp2_with fail
  rw [HN.out]
  refine (rmix_calls (nxS s) (nxS_lt s) _).mono ?_
  rintro e w' ⟨rfl, rfl⟩
  go_wp2_with fail
  go_ret2
  exact ⟨rfl, rfl⟩

set_option maxHeartbeats 400000 in
theorem rbelow_calls (s n : Nat) (w : World) (hn : n ≤ 9223372036854775807) :
    Calls Try.prog 80 #[.int .u64 (s : Int), .int .i64 (n : Int)] w fun e w' => e = .returned (.tuple #[.int .u64 ((belowN s n).1 : Nat), .int .i64 ((belowN s n).2 : Nat)]) ∧ Keeps NoB w w' := by
  by_cases h0 : n = 0
  · subst h0
    rw [belowN_zero]
    go_enter Try.func80, Try.ntmps80
    go_wp2_with fail
    go_ret2
    exact ⟨rfl, Keeps.refl _ _⟩
  · have hp : 1 ≤ n := by omega
    clear h0
    have hlt : decide ((n : Int) < 1) = false := by simp; omega
    have hne : ((n : Int) == 0) = false := by simp; omega
    have HB := hid (belowN_pos s n hp)
    go_enter Try.func80, Try.ntmps80
    go_wp2_with fail
    rw [few_eq' n hp hn]
    go_loopw [0, 8, 9] (fun v0 v8 v9 wr => ∃ i p x : Nat, i ≤ 16 ∧ v9 = .int .i64 i ∧ v0 = .int .u64 p ∧ v8 = .int .u64 x ∧ Hid (i ≤ 15 → tries (fewN n) 15 s = tries (fewN n) (15 - i) p) ∧ Hid (i = 16 → tries (fewN n) 15 s = (p, x)) ∧ Hid (Keeps NoB w wr)) (fun _ _ v9 _ => 16 - (intOf v9).toNat)
    case atStart => exact ⟨0, s, 0, by omega, rfl, rfl, rfl, fun _ => rfl, fun h => absurd h (by omega), Keeps.refl _ _⟩
    case round =>
      obtain ⟨i, p, x, hi, rfl, rfl, rfl, HT, HT2, HK⟩ := hrel
      by_cases hlt : i < 16
      · go_wp2_with fail
        refine (rnext_calls p _).mono ?_
        rintro e w2 ⟨rfl, rfl⟩
        by_cases hfew : nxV p < fewN n
        · have hd : decide (fewN n ≤ nxV p) = false := decide_eq_false (by omega)
          go_wp2_with fail
          go_roundw
          case rel => exact ⟨i + 1, nxS p, nxV p, by omega, by go_num, rfl, rfl, hid (fun h => by rw [HT.out (by omega), show 15 - i = (15 - (i + 1)) + 1 by omega, tries_succ, if_pos hfew]), hid (fun h => by rw [HT.out (by omega), show 15 - i = 0 by omega]; rfl), HK⟩
          case measure => simp [intOf]; omega
        · have hd : decide (fewN n ≤ nxV p) = true := decide_eq_true (by omega)
          have ht := hid (show belowN s n = (nxS p, nxV p % n) by rw [HB.out, HT.out (by omega), tries_le _ _ _ hfew])
          go_wp2_with fail
          go_quiet (fail)
          go_wp2_with fail
          go_ret2
          rw [ht.out]
          refine ⟨congrArg (fun x => Ending.returned (.tuple #[.int .u64 (nxS p : Nat), .int .i64 x])) ?_, HK.out.drewN _⟩
          exact rem_eq _ n hp hn
      · obtain rfl : i = 16 := by omega
        have ht := hid (show belowN s n = (p, x % n) by rw [HB.out, HT2.out rfl])
        go_wp2_with fail
        go_quiet (fail)
        go_wp2_with fail
        go_ret2
        rw [ht.out]
        refine ⟨congrArg (fun y => Ending.returned (.tuple #[.int .u64 (p : Nat), .int .i64 y])) ?_, HK.out.drewN _⟩
        exact rem_eq _ n hp hn
theorem has_step (xs : List Int) (n : Int) (k : Nat) (h : k < xs.length) : decide (n ∈ xs.take (k + 1)) = (decide (n ∈ xs.take k) || (gi xs k == n)) := by
  rw [List.take_succ_eq_append_getElem h, gi_eq xs k h]
  rw [Bool.eq_iff_iff]
  simp only [List.mem_append, List.mem_singleton, Bool.or_eq_true, decide_eq_true_eq, beq_iff_eq]
  constructor
  · rintro (h | h)
    · exact .inl h
    · exact .inr h.symm
  · rintro (h | h)
    · exact .inl h
    · exact .inr h.symm
set_option maxHeartbeats 400000 in
theorem has_calls (xs : List Int) (n : Int) (A : Option Addr) (c : Nat) (w : World) (h : IntsAt w .i64 A xs) :
    Calls Try.prog 81 #[.slice A xs.length c, .int .i64 n] w fun e w' => e = .returned (.bool (decide (n ∈ xs))) ∧ Keeps NoB w w' := by
  have hlen := h.len
  have HA := hid h
  clear h
  go_enter Try.func81, Try.ntmps81
  go_wp2_with fail
  go_loopw [5] (fun v5 wr => ∃ k : Nat, k ≤ xs.length ∧ v5 = .int .i64 k ∧ Hid (¬ n ∈ xs.take k) ∧ Hid (Keeps NoB w wr)) (fun v5 _ => xs.length - (intOf v5).toNat)
  case atStart => exact ⟨0, Nat.zero_le _, rfl, by simp [Hid], Keeps.refl _ w⟩
  case round =>
    obtain ⟨k, hk, rfl, HN, HK⟩ := hrel
    by_cases hlt : k < xs.length
    · obtain ⟨b, off, rfl, h1⟩ := HA.out.get (by omega)
      have c1 : wr.cell? ⟨b, off + k, none⟩ = some (.int .i64 (gi xs k)) := HK.out.cell (h1 k hlt) (fun h => h)
      clear h1
      have hs := has_step xs n k hlt
      rw [decide_eq_false HN.out, Bool.false_or] at hs
      by_cases he : gi xs k = n
      · have hd : (gi xs k == n) = true := by simp [he]
        have hin := hid (show n ∈ xs from by rw [← he]; exact gi_mem xs k hlt)
        clear hs he
        go_wp2_with fail
        go_ret
        exact ⟨congrArg (fun x => Ending.returned (.bool x)) (decide_eq_true hin.out).symm, HK.out⟩
      · have hd : (gi xs k == n) = false := by simp [he]
        have hs2 := hid (of_decide_eq_false (hs.trans hd))
        clear hs he
        go_wp2_with fail
        go_roundw
        case rel => exact ⟨k + 1, by omega, by go_num, hs2, HK⟩
        case measure => simp [intOf]; omega
    · obtain rfl : k = xs.length := by omega
      have hin := HN.out
      rw [List.take_length] at hin
      have hin := hid hin
      go_wp2_with fail
      go_ret
      exact ⟨congrArg (fun x => Ending.returned (.bool x)) (decide_eq_false hin.out).symm, HK.out⟩

theorem drop_gi (xs : List Int) (k : Nat) (h : k < xs.length) : xs.drop k = gi xs k :: xs.drop (k + 1) := by
  rw [gi_eq xs k h]; exact List.drop_eq_getElem_cons h
/-- A number put among some that rise. -/
def ins (n : Int) : List Int → List Int
  | [] => [n]
  | x :: r => if n < x then n :: x :: r else x :: ins n r
theorem ins_length (n : Int) (xs : List Int) : (ins n xs).length = xs.length + 1 := by
  induction xs with
  | nil => rfl
  | cons x r ih => unfold ins; split <;> simp [ih]
theorem info_int : (Try.prog.info? 3).map (fun i => (i.zero, i.size, i.bytes)) = some (some (.int .i64 0), 1, 8) := by kernel_rfl
set_option maxHeartbeats 400000 in
theorem insert_calls (xs : List Int) (n : Int) (A : Option Addr) (c : Nat) (w : World) (h : IntsAt w .i64 A xs) (hb : xs.length ≤ 1073741824) :
    Calls Try.prog 82 #[.slice A xs.length c, .int .i64 n] w fun e w' => ∃ v, e = .returned v ∧ OwnInts w' w.heap.size .i64 3 v (ins n xs) ∧ Keeps NoB w w' := by
  have HA := hid h
  clear h
  have hu := Try.underlying76
  go_enter Try.func82, Try.ntmps82
  go_wp2_with fail
  go_loopw [5, 6, 7] (fun v5 v6 v7 wr => ∃ (k : Nat) (ys : List Int) (b : Bool), k ≤ xs.length ∧ v7 = .int .i64 k ∧ v6 = .bool b ∧ ys.length ≤ k + 1 ∧ (b = false → ys.length ≤ k) ∧ OwnInts wr w.heap.size .i64 3 v5 ys ∧ Hid (ins n xs = ys ++ (if b then xs.drop k else ins n (xs.drop k))) ∧ Hid (Keeps NoB w wr)) (fun _ _ v7 _ => xs.length - (intOf v7).toNat)
  case atStart => exact ⟨0, [], false, Nat.zero_le _, rfl, rfl, by simp, by simp, OwnInts.empty w _ _ _ (Nat.le_refl _), rfl, (Keeps.refl _ w).alloc _⟩
  case round =>
    obtain ⟨k, ys, b, hk, rfl, rfl, hy1, hy2, hown, HI, HK⟩ := hrel
    have hsz := HK.out.size
    by_cases hlt : k < xs.length
    · obtain ⟨b0, off, rfl, h1⟩ := HA.out.get (by omega)
      have c1 : wr.cell? ⟨b0, off + k, none⟩ = some (.int .i64 (gi xs k)) := HK.out.cell (h1 k hlt) (fun h => h)
      have H1 := hid (h1 k hlt)
      clear h1
      have hdr := hid (drop_gi xs k hlt)
      cases b with
      | true =>
        go_wp2_with (at_builtin; refine wpList_app1 _ rfl _ _ 76 rfl w.heap.size 3 .i64 8 hu info_int _ _ rfl (OwnInts.alloc (by assumption) _) _ _ _ rfl (cell_one _ _ _) (by first | omega | (simp only [List.length_append, List.length_cons, List.length_nil]; omega)) (by first | omega | (simp only [List.length_append, List.length_cons, List.length_nil]; omega)) (by simp; omega) ?_; intro v1 w1 hown1 hgr1 _)
        go_roundw
        case rel => exact ⟨k + 1, ys ++ [gi xs k], true, by omega, by go_num, rfl, by simp; omega, by simp, hown1, hid (by rw [HI.out, hdr.out]; simp), (HK.out.alloc _).own (hown.alloc _) hgr1 (Nat.le_refl _)⟩
        case measure => simp [intOf]; omega
      | false =>
        have hy3 := hy2 rfl
        clear hy2
        by_cases hn : n < gi xs k
        · have hd : decide (n < gi xs k) = true := decide_eq_true hn
          have tok1 : True := trivial
          go_wp2_with (first
            | (at_builtin; have _t := tok1; go_must (refine wpList_app1 _ rfl _ _ 76 rfl w.heap.size 3 .i64 8 hu info_int _ _ rfl (hown.alloc _) _ _ _ rfl (cell_one _ _ _) (by omega) (by omega) (by simp; omega) ?_); intro v1 w1 hown1 hgr1 _; clear tok1 _t; have HK1 := hid ((HK.out.alloc _).own (hown.alloc _) hgr1 (Nat.le_refl _)); have c2 := HK1.out.cell H1.out (fun h => h); have hsz1 := HK1.out.size)
            | (at_builtin; go_must (refine wpList_app1 _ rfl _ _ 76 rfl w.heap.size 3 .i64 8 hu info_int _ _ rfl (hown1.alloc _) _ _ _ rfl (cell_one _ _ _) (by first | omega | (simp only [List.length_append, List.length_cons, List.length_nil]; omega)) (by first | omega | (simp only [List.length_append, List.length_cons, List.length_nil]; omega)) (by simp; omega) ?_); intro v2 w2 hown2 hgr2 _))
          go_roundw
          case rel => exact ⟨k + 1, ys ++ [n] ++ [gi xs k], true, by omega, by go_num, rfl, by simp; omega, by simp, hown2, hid (by rw [HI.out, hdr.out]; simp [ins, hn]), (HK1.out.alloc _).own (hown1.alloc _) hgr2 (Nat.le_refl _)⟩
          case measure => simp [intOf]; omega
        · have hd : decide (n < gi xs k) = false := decide_eq_false hn
          have hn := hid hn
          go_wp2_with (at_builtin; refine wpList_app1 _ rfl _ _ 76 rfl w.heap.size 3 .i64 8 hu info_int _ _ rfl (OwnInts.alloc (by assumption) _) _ _ _ rfl (cell_one _ _ _) (by first | omega | (simp only [List.length_append, List.length_cons, List.length_nil]; omega)) (by first | omega | (simp only [List.length_append, List.length_cons, List.length_nil]; omega)) (by simp; omega) ?_; intro v1 w1 hown1 hgr1 _)
          go_roundw
          case rel => exact ⟨k + 1, ys ++ [gi xs k], false, by omega, by go_num, rfl, by simp; omega, by simp; omega, hown1, hid (by rw [HI.out, hdr.out]; simp [ins, hn.out]), (HK.out.alloc _).own (hown.alloc _) hgr1 (Nat.le_refl _)⟩
          case measure => simp [intOf]; omega
    · obtain rfl : k = xs.length := by omega
      cases b with
      | true =>
        go_wp2_with fail
        go_ret
        refine ⟨_, rfl, ?_, HK.out⟩
        have := HI.out
        simp only [List.drop_length, if_true, List.append_nil] at this
        rw [this]; exact hown
      | false =>
        have hy3 := hy2 rfl
        clear hy2
        go_wp2_with (at_builtin; refine wpList_app1 _ rfl _ _ 76 rfl w.heap.size 3 .i64 8 hu info_int _ _ rfl (OwnInts.alloc (by assumption) _) _ _ _ rfl (cell_one _ _ _) (by first | omega | (simp only [List.length_append, List.length_cons, List.length_nil]; omega)) (by first | omega | (simp only [List.length_append, List.length_cons, List.length_nil]; omega)) (by simp; omega) ?_; intro v1 w1 hown1 hgr1 _)
        go_ret
        refine ⟨_, rfl, ?_, (HK.out.alloc _).own (hown.alloc _) hgr1 (Nat.le_refl _)⟩
        have := HI.out
        rw [List.drop_length] at this
        rw [this]; exact hown1
end Go.Proofs.Ytnnkfopopanfjaa

/- Rows of rows of the call's own: lists that are written, each in a row of its own. No program's walk; no condition. -/
set_option linter.unusedVariables false
namespace Go.Proofs.Ytnnkfopopanfjaa
open Go.RowKit

/-- The list at a place; none behind it. -/
def gl (ls : List (List Int)) (j : Nat) : List Int := ls.getD j []
theorem gl_eq (ls : List (List Int)) (j : Nat) (h : j < ls.length) : gl ls j = ls[j] := by simp [gl, h]
theorem gl_set (ls : List (List Int)) (j k : Nat) (l : List Int) : gl (ls.set j l) k = if k = j ∧ j < ls.length then l else gl ls k := by
  unfold gl
  rw [List.getD_eq_getElem?_getD, List.getD_eq_getElem?_getD, List.getElem?_set]
  by_cases h : j = k
  · subst h
    by_cases h2 : j < ls.length
    · simp [h2]
    · simp [h2]
  · rw [if_neg h, if_neg (fun e => h e.1.symm)]
theorem gl_snoc (ls : List (List Int)) (l : List Int) (k : Nat) : gl (ls ++ [l]) k = if k = ls.length then l else gl ls k := by
  unfold gl
  rw [List.getD_eq_getElem?_getD, List.getD_eq_getElem?_getD, List.getElem?_append]
  by_cases h : k < ls.length
  · rw [if_pos h, if_neg (by omega)]
  · rw [if_neg h]
    by_cases h2 : k = ls.length
    · subst h2; simp
    · rw [if_neg h2, List.getElem?_eq_none (by simp; omega), List.getElem?_eq_none (by omega)]

theorem own_block {w : World} {base : Nat} {e : TypeId} {size n : Nat} {v : Value} {xs : List Value} (h : w.ownsRow base e size v n xs) (k : Nat) (hk : v.ownBlock = some k) : ∃ cells, w.heap[k]? = some (.cells cells e (0, 0)) := by
  rcases h.2 with ⟨rfl, _⟩ | ⟨g, cap, cur, rfl, hg, hh, r⟩
  · simp [Value.ownBlock] at hk
  · have : g = k := by simpa [Value.ownBlock] using hk
    subst this
    exact ⟨cur, hh⟩
/-- A block of another type is none of an owned row. -/
theorem own_ne {w : World} {base : Nat} {e T : TypeId} {size n : Nat} {v : Value} {xs : List Value} (h : w.ownsRow base e size v n xs) {k : Nat} {cells : Array Value} {fr : Nat × Nat} (hk : w.heap[k]? = some (.cells cells T fr)) (hT : e ≠ T) : v.ownBlock ≠ some k := by
  intro hb
  obtain ⟨cells', hc⟩ := own_block h k hb
  rw [hk] at hc
  injection hc with hc
  injection hc with _ hc
  exact hT hc.symm
theorem own_keeps {w w1 : World} {base : Nat} {e : TypeId} {size n : Nat} {v : Value} {xs : List Value} (h : w.ownsRow base e size v n xs) {S : Nat → Prop} (hk : Keeps S w w1) (hn : ∀ b, v.ownBlock = some b → ¬ S b) : w1.ownsRow base e size v n xs := by
  refine ⟨h.1, ?_⟩
  rcases h.2 with h2 | ⟨g, cap, cur, rfl, hg, hh, r⟩
  · exact .inl h2
  · exact .inr ⟨g, cap, cur, rfl, hg, hk.heap hh (hn g (by simp [Value.ownBlock])), r⟩
theorem own_set {w : World} {base : Nat} {e : TypeId} {g n c m : Nat} {xs : List Value} (h : w.ownsRow base e 1 (.slice (some ⟨g, 0, none⟩) n c) m xs) {j : Nat} (y : Value) : (w.setCell ⟨g, j, none⟩ y).ownsRow base e 1 (.slice (some ⟨g, 0, none⟩) n c) m (xs.set j y) := by
  refine ⟨by rw [List.length_set]; exact h.1, ?_⟩
  rcases h.2 with ⟨h1, _⟩ | ⟨g', cap, cur, h1, hb, hg, h2, h3, h4, h5⟩
  · cases h1
  · cases h1
    refine .inr ⟨g, c, cur.setIfInBounds j y, rfl, hb, ?_, h2, h3, by simp [h4], ?_⟩
    · show (w.heap.modify g _)[g]? = _
      rw [Array.getElem?_modify, if_pos rfl, hg]; rfl
    · rw [Array.toList_setIfInBounds, List.take_set, h5]
theorem own_cell {w : World} {base : Nat} {e : TypeId} {g n c m : Nat} {xs : List Value} (h : w.ownsRow base e 1 (.slice (some ⟨g, 0, none⟩) n c) m xs) {j : Nat} {u : Value} (hj : xs[j]? = some u) : w.cell? ⟨g, j, none⟩ = some u := by
  have := World.ownsRow.cells h (g := g) (by simp [Value.ownBlock]) j u hj
  unfold Addr.add at this
  split at this
  · rename_i e0; subst e0; simpa using this
  · simpa using this
theorem own_free {w : World} {base : Nat} {e : TypeId} {g n c m : Nat} {xs : List Value} (h : w.ownsRow base e 1 (.slice (some ⟨g, 0, none⟩) n c) m xs) (j : Nat) : w.frozen? ⟨g, j, none⟩ = false := by
  rcases h.2 with ⟨h1, _⟩ | ⟨g', cap, cur, h1, _, hg, _⟩
  · cases h1
  · cases h1; simp [World.frozen?, hg]

/-- Rows of the call's own, each with its list, no two in one block. -/
structure OwnAll (w : World) (B : Nat) (us : List Value) (ls : List (List Int)) : Prop where
  len : us.length = ls.length
  own : ∀ j u, us[j]? = some u → OwnInts w B .i64 3 u (gl ls j)
  apart : ∀ (j k : Nat) (u v : Value) (b : Nat), us[j]? = some u → us[k]? = some v → j ≠ k → u.ownBlock = some b → v.ownBlock ≠ some b
theorem OwnAll.keeps {w w1 : World} {B : Nat} {us : List Value} {ls : List (List Int)} (h : OwnAll w B us ls) {S : Nat → Prop} (hk : Keeps S w w1) (hn : ∀ (j : Nat) (u : Value) (b : Nat), us[j]? = some u → u.ownBlock = some b → ¬ S b) : OwnAll w1 B us ls :=
  ⟨h.len, fun j u hu => (h.own j u hu).keeps hk (fun b hb => hn j u b hu hb), h.apart⟩
theorem OwnAll.kept {w w1 : World} {B : Nat} {us : List Value} {ls : List (List Int)} (h : OwnAll w B us ls) (hk : Keeps NoB w w1) : OwnAll w1 B us ls := h.keeps hk (fun _ _ _ _ _ h => h)
theorem OwnAll.nils (w : World) (B n : Nat) : OwnAll w B (List.replicate n (.slice none 0 0)) (List.replicate n []) := by
  refine ⟨by simp, fun j u hu => ?_, fun j k u v b hu hv hjk hb => ?_⟩
  · rw [List.getElem?_replicate] at hu
    split at hu
    · cases hu
      have : gl (List.replicate n []) j = [] := by unfold gl; rw [List.getD_eq_getElem?_getD, List.getElem?_replicate]; split <;> rfl
      rw [this]; exact OwnInts.nil w B .i64 _
    · cases hu
  · rw [List.getElem?_replicate] at hu
    split at hu
    · cases hu; simp [Value.ownBlock] at hb
    · cases hu
theorem OwnAll.lt {w : World} {B : Nat} {us : List Value} {ls : List (List Int)} (h : OwnAll w B us ls) (j : Nat) (u : Value) (b : Nat) (hu : us[j]? = some u) (hb : u.ownBlock = some b) : B ≤ b ∧ b < w.heap.size := (h.own j u hu).base_le b hb
/-- One more, in a block that is new. -/
theorem OwnAll.snoc {w : World} {B : Nat} {us : List Value} {ls : List (List Int)} (h : OwnAll w B us ls) {u : Value} {l : List Int} (hu : OwnInts w B .i64 3 u l) (hn : ∀ (j : Nat) (v : Value) (b : Nat), us[j]? = some v → v.ownBlock = some b → u.ownBlock ≠ some b) : OwnAll w B (us ++ [u]) (ls ++ [l]) := by
  refine ⟨by simp [h.len], fun j v hv => ?_, fun j k x y b hx hy hjk hb => ?_⟩
  · rw [gl_snoc]
    rw [List.getElem?_append] at hv
    split at hv
    · rename_i hj
      rw [if_neg (by have := h.len; omega)]; exact h.own j v hv
    · rename_i hj
      have hjl : j < (us ++ [u]).length := by
        rcases Nat.lt_or_ge j (us ++ [u]).length with h1 | h1
        · exact h1
        · rw [List.getElem?_eq_none (by simp at h1 ⊢; omega)] at hv; cases hv
      have hj2 : j = us.length := by simp at hjl; omega
      subst hj2
      simp at hv; subst hv
      rw [if_pos h.len]; exact hu
  · rw [List.getElem?_append] at hx hy
    split at hx
    · split at hy
      · exact h.apart j k x y b hx hy hjk hb
      · rename_i h1 h2
        have : y = u := by
          rcases Nat.lt_or_ge (k - us.length) 1 with h3 | h3
          · rw [show k - us.length = 0 by omega] at hy; simpa using hy.symm
          · rw [List.getElem?_eq_none (by simpa using h3)] at hy; cases hy
        subst this
        exact hn j x b hx hb
    · rename_i h1
      have : x = u ∧ j = us.length := by
        rcases Nat.lt_or_ge (j - us.length) 1 with h3 | h3
        · rw [show j - us.length = 0 by omega] at hx
          exact ⟨by simpa using hx.symm, by omega⟩
        · rw [List.getElem?_eq_none (by simpa using h3)] at hx; cases hx
      obtain ⟨rfl, hj⟩ := this
      split at hy
      · intro hb2; exact hn k y b hy hb2 hb
      · rename_i h2
        rcases Nat.lt_or_ge (k - us.length) 1 with h3 | h3
        · exact absurd (show j = k by omega) hjk
        · rw [List.getElem?_eq_none (by simpa using h3)] at hy; cases hy
/-- One row is another one now: its own block's, or a new one's. -/
theorem OwnAll.set {w w1 : World} {B j : Nat} {us : List Value} {ls : List (List Int)} (h : OwnAll w B us ls) {u u' : Value} {l : List Int} (hj : us[j]? = some u) (hk : Keeps (fun k => some k = u.ownBlock) w w1) (hu : OwnInts w1 B .i64 3 u' l) (hb : ∀ b, u'.ownBlock = some b → u.ownBlock = some b ∨ w.heap.size ≤ b) :
    OwnAll w1 B (us.set j u') (ls.set j l) := by
  have hjl : j < us.length := (List.getElem?_eq_some_iff.1 hj).1
  refine ⟨by simp [h.len], fun k v hv => ?_, fun k m x y b hx hy hkm hbx => ?_⟩
  · rw [gl_set]
    rw [List.getElem?_set] at hv
    split at hv
    · rename_i e; subst e
      (try simp only [hjl, if_true] at hv); cases hv
      rw [if_pos ⟨rfl, by rw [← h.len]; exact hjl⟩]; exact hu
    · rename_i e
      rw [if_neg (fun e2 => e e2.1.symm)]
      exact (h.own k v hv).keeps hk (fun b hb2 hb3 => h.apart j k u v b hj hv (fun e2 => e e2) hb3.symm hb2)
  · rw [List.getElem?_set] at hx hy
    split at hx
    · rename_i e; subst e
      (try simp only [hjl, if_true] at hx); cases hx
      rw [if_neg hkm] at hy
      intro hby
      rcases hb b hbx with h1 | h1
      · exact h.apart j m u y b hj hy hkm h1 hby
      · have := (h.lt m y b hy hby).2; omega
    · rename_i e
      split at hy
      · rename_i e2; subst e2
        (try simp only [hjl, if_true] at hy); cases hy
        intro hby
        rcases hb b hby with h1 | h1
        · exact h.apart j k u x b hj hx (fun e3 => e e3) h1 hbx
        · have := (h.lt k x b hx hbx).2; omega
      · exact h.apart k m x y b hx hy hkm hbx

/-- A row that is read, as a cell tells it. -/
def RowAt (w : World) (u : Value) (l : List Int) : Prop := ∃ A c, u = .slice A l.length c ∧ l.length ≤ c ∧ (A = none → c = 0) ∧ IntsAt w .i64 A l
/-- Rows that are read. -/
def RowsAt (w : World) (A : Option Addr) (ls : List (List Int)) : Prop :=
  ls.length ≤ 9223372036854775807 ∧ (0 < ls.length → ∃ b off, A = some ⟨b, off, none⟩ ∧ ∀ j, j < ls.length → ∃ u, w.cell? ⟨b, off + j, none⟩ = some u ∧ RowAt w u (gl ls j))
theorem OwnInts.row {w : World} {base : Nat} {e : TypeId} {v : Value} {xs : List Int} (h : OwnInts w base .i64 e v xs) : RowAt w v xs := by
  obtain ⟨A, c, hv, h1, h2⟩ := h.reads
  refine ⟨A, c, hv, h1, fun hA => ?_, h2⟩
  rcases h.2 with ⟨h3, _⟩ | ⟨g, cap, cur, h3, _⟩
  · rw [hv] at h3; injection h3
  · rw [hv, hA] at h3; injection h3 with h4 _ _; cases h4
/-- 'append(v, xs...)', v the call's own, whatever xs is. -/
theorem wpList_appInts {P : Program} (w : World) {ops : Array Oper} {rest : List Oper} {o : Oper} {a : Act} {Q : Exit → Act → World → Prop} (hgd : o.guard = none) (s x : Operand) (t : TypeId)
    (ho : o.op = .call { callee := .builtin .append, args := #[s, x], argTypes := #[t, t] }) (base : Nat) (e : TypeId) (k : IntKind) (bytes : Nat) (ht : P.underlying t = some (.slice e))
    (hi : (P.info? e).map (fun i => (i.zero, i.size, i.bytes)) = some (some (.int k 0), 1, bytes)) (v : Value) (ys : List Int) (hs : a.eval s = v) (hown : OwnInts w base k e v ys) (A : Option Addr) (c : Nat) (xs : List Int)
    (hx : a.eval x = .slice A xs.length c) (hA : A = none → c = 0) (hat : IntsAt w k A xs) (hb : (ys.length + xs.length) * bytes ≤ 140737488355328) (hm : ys.length + xs.length ≤ 140737488355328) (hbase : base ≤ w.heap.size)
    (h : ∀ v' w', OwnInts w' base k e v' (ys ++ xs) → w.grownBy w' v.ownBlock → wpList P ops Q rest (a.put o.dst v') w') : wpList P ops Q (o :: rest) a w := by
  obtain ⟨i, i1, i2, i3, i4⟩ := info_parts hi
  cases A with
  | none =>
    have hn : xs = [] := by
      rcases Nat.eq_zero_or_pos xs.length with h0 | h0
      · exact List.length_eq_zero_iff.1 h0
      · obtain ⟨b, off, e, _⟩ := hat.get h0; cases e
    subst hn
    rw [hA rfl] at hx
    refine wpList_append_own_none hgd s x t ho base e i 1 ht i1 v ys.length _ hs hown hx (h v w ?_ ⟨rfl, rfl, rfl, Nat.le_refl _, fun _ _ _ => rfl⟩)
    rw [List.append_nil]; exact hown
  | some ad =>
    refine wpList_append_own w hgd s x t ho base e i (.int k 0) 1 bytes ht i1 i2 i3 i4 rfl (by decide) v ys.length (ys.map (Value.int k)) hs hown ad xs.length c (xs.map (Value.int k)) hx (by simp) ?_ (ints_oneCell k xs) (by unfold maxLen; omega) hb hbase ?_
    · intro j u hu
      rw [List.getElem?_map] at hu
      obtain ⟨y, hy, rfl⟩ := Option.map_eq_some_iff.1 hu
      obtain ⟨hj, hyj⟩ := List.getElem?_eq_some_iff.1 hy
      obtain ⟨b, off, e, hc⟩ := hat.get (by omega)
      cases e
      have := hc j hj
      rw [gi_eq xs j hj, hyj] at this
      unfold Addr.add
      split
      · rename_i e0; subst e0; simpa using this
      · exact this
    · intro v' w' h1 h2 h3
      refine h v' w' ?_ h2
      unfold OwnInts
      simpa using h1
/-- 'append(v, u)' of one cell of whatever kind, v the call's own; and where it lies. -/
theorem wpList_app1V {P : Program} (w : World) {ops : Array Oper} {rest : List Oper} {o : Oper} {a : Act} {Q : Exit → Act → World → Prop} (hgd : o.guard = none) (s x : Operand) (t : TypeId)
    (ho : o.op = .call { callee := .builtin .append, args := #[s, x], argTypes := #[t, t] }) (base : Nat) (e : TypeId) (z : Value) (bytes : Nat) (ht : P.underlying t = some (.slice e))
    (hi : (P.info? e).map (fun i => (i.zero, i.size, i.bytes)) = some (some z, 1, bytes)) (hz : z.cells.size = 1) (v : Value) (n : Nat) (xs : List Value) (hs : a.eval s = v) (hown : w.ownsRow base e 1 v n xs) (bx c : Nat) (y : Value) (hy : y.oneCell' = true)
    (hx : a.eval x = .slice (some ⟨bx, 0, none⟩) 1 c) (hcell : w.cell? ⟨bx, 0, none⟩ = some y) (hb : (n + 1) * bytes ≤ 140737488355328) (hm : n + 1 ≤ 140737488355328) (hbase : base ≤ w.heap.size)
    (h : ∀ g cap w', w'.ownsRow base e 1 (.slice (some ⟨g, 0, none⟩) (n + 1) cap) (n + 1) (xs ++ [y]) → w.grownBy w' v.ownBlock → (v.ownBlock = some g ∨ g = w.heap.size) → wpList P ops Q rest (a.put o.dst (.slice (some ⟨g, 0, none⟩) (n + 1) cap)) w') : wpList P ops Q (o :: rest) a w := by
  obtain ⟨i, i1, i2, i3, i4⟩ := info_parts hi
  refine wpList_append_lies (H := w.heap.size) (hH := rfl) (w := w) hgd s x t ho base e i z 1 bytes ht i1 i2 i3 i4 hz (by decide) v n xs hs hown ⟨bx, 0, none⟩ 1 c [y] hx rfl ?_ ?_ (by omega) (by unfold maxLen; omega) hb hbase ?_
  · intro j u hu
    cases j with
    | zero => simp at hu; subst hu; exact hcell
    | succ j => simp at hu
  · intro u hu; simp at hu; subst hu; exact hy
  · intro g cap w' h1 h2 h3 _
    exact h g cap w' h1 h2 h3
/-- 'append(v, y)' at a step of a region that draws its order. -/
theorem step_app1 {P : Program} {w : World} {ops : Array Oper} {o : Oper} {a : Act} {K : Act → World → Prop} {Q : Exit → Act → World → Prop} {E : Prop} (hgd : o.guard = none) (s x : Operand) (t : TypeId)
    (ho : o.op = .call { callee := .builtin .append, args := #[s, x], argTypes := #[t, t] }) (base : Nat) (e : TypeId) (k : IntKind) (bytes : Nat) (ht : P.underlying t = some (.slice e))
    (hi : (P.info? e).map (fun i => (i.zero, i.size, i.bytes)) = some (some (.int k 0), 1, bytes)) (v : Value) (xs : List Int) (hs : a.eval s = v) (hown : OwnInts w base k e v xs) (bx c : Nat) (y : Int)
    (hx : a.eval x = .slice (some ⟨bx, 0, none⟩) 1 c) (hcell : w.cell? ⟨bx, 0, none⟩ = some (.int k y)) (hb : (xs.length + 1) * bytes ≤ 140737488355328) (hm : xs.length + 1 ≤ 140737488355328) (hbase : base ≤ w.heap.size)
    (h : ∀ g cap w', OwnInts w' base k e (.slice (some ⟨g, 0, none⟩) (xs.length + 1) cap) (xs ++ [y]) → w.grownBy w' v.ownBlock → (v.ownBlock = some g ∨ g = w.heap.size) → K (a.put o.dst (.slice (some ⟨g, 0, none⟩) (xs.length + 1) cap)) w') :
    if Region.wanted o (yielded ops a.tmps) = true then Oper.wp P o a w K Q else E := by
  obtain ⟨i, i1, i2, i3, i4⟩ := info_parts hi
  refine step_append_lies (H := w.heap.size) (hH := rfl) (w := w) hgd s x t ho base e i (.int k 0) 1 bytes ht i1 i2 i3 i4 rfl (by decide) v xs.length (xs.map (Value.int k)) hs hown ⟨bx, 0, none⟩ 1 c [.int k y] hx rfl ?_ ?_ (by omega) (by unfold maxLen; omega) hb hbase ?_
  · intro j u hu
    cases j with
    | zero => simp at hu; subst hu; exact hcell
    | succ j => simp at hu
  · intro u hu; simp at hu; subst hu; rfl
  · intro g cap w' h1 h2 h3 _
    refine h g cap w' ?_ h2 h3
    have : OwnInts w' base k e (.slice (some ⟨g, 0, none⟩) (xs.length + 1) cap) (xs ++ [y]) := by
      unfold OwnInts
      simpa using h1
    exact this
theorem RowAt.kept {w w1 : World} {u : Value} {l : List Int} (h : RowAt w u l) (hk : Keeps NoB w w1) : RowAt w1 u l := by
  obtain ⟨A, c, e, h1, h0, h2⟩ := h
  exact ⟨A, c, e, h1, h0, h2.kept hk⟩
theorem RowsAt.kept {w w1 : World} {A : Option Addr} {ls : List (List Int)} (h : RowsAt w A ls) (hk : Keeps NoB w w1) : RowsAt w1 A ls := by
  refine ⟨h.1, fun h0 => ?_⟩
  obtain ⟨b, off, e, hc⟩ := h.2 h0
  refine ⟨b, off, e, fun j hj => ?_⟩
  obtain ⟨u, h1, h2⟩ := hc j hj
  exact ⟨u, hk.cell h1 (fun h => h), h2.kept hk⟩
theorem OwnAll.rows {w : World} {B g n c : Nat} {base : Nat} {e : TypeId} {us : List Value} {ls : List (List Int)} (h : OwnAll w B us ls) (hr : w.ownsRow base e 1 (.slice (some ⟨g, 0, none⟩) n c) us.length us) (hl : ls.length ≤ 9223372036854775807) : RowsAt w (some ⟨g, 0, none⟩) ls := by
  refine ⟨hl, fun _ => ⟨g, 0, rfl, fun j hj => ?_⟩⟩
  have hj' : j < us.length := by rw [h.len]; exact hj
  have hu : us[j]? = some us[j] := List.getElem?_eq_getElem hj'
  refine ⟨us[j], by rw [Nat.zero_add]; exact own_cell hr hu, ?_⟩
  exact (h.own j _ hu).row
/-- What is read at a world stays so where other blocks turn: its own all lie below a bound. -/
def Stays (H : Nat) (w : World) (P : World → Prop) : Prop := H ≤ w.heap.size ∧ ∀ w', (∀ k, k < H → w'.heap[k]? = w.heap[k]?) → P w'
theorem Stays.now {H : Nat} {w : World} {P : World → Prop} (h : Stays H w P) : P w := h.2 w (fun _ _ => rfl)
theorem Stays.keeps {H : Nat} {w w1 : World} {P : World → Prop} (h : Stays H w P) {S : Nat → Prop} (hk : Keeps S w w1) (hn : ∀ k, k < H → ¬ S k) : Stays H w1 P :=
  ⟨Nat.le_trans h.1 hk.size, fun w' hw' => h.2 w' (fun k hl => (hw' k hl).trans (hk.block k (Nat.lt_of_lt_of_le hl h.1) (hn k hl)))⟩
theorem Stays.kept {H : Nat} {w w1 : World} {P : World → Prop} (h : Stays H w P) (hk : Keeps NoB w w1) : Stays H w1 P := h.keeps hk (fun _ _ h => h)
theorem cell_same {w w' : World} (hw : ∀ k, k < w.heap.size → w'.heap[k]? = w.heap[k]?) {a : Addr} {v : Value} (hc : w.cell? a = some v) : w'.cell? a = some v :=
  (World.cell?_of_block (hw a.block (World.block_lt_of_cell? w a hc))).trans hc
theorem IntsAt.same {w w' : World} {k : IntKind} {A : Option Addr} {xs : List Int} (h : IntsAt w k A xs) (hw : ∀ k, k < w.heap.size → w'.heap[k]? = w.heap[k]?) : IntsAt w' k A xs :=
  ⟨h.1, fun h0 => by
    obtain ⟨b, off, e, hc⟩ := h.2 h0
    exact ⟨b, off, e, fun j hj => cell_same hw (hc j hj)⟩⟩
theorem RowAt.same {w w' : World} {u : Value} {l : List Int} (h : RowAt w u l) (hw : ∀ k, k < w.heap.size → w'.heap[k]? = w.heap[k]?) : RowAt w' u l := by
  obtain ⟨A, c, e, h1, h0, h2⟩ := h
  exact ⟨A, c, e, h1, h0, h2.same hw⟩
theorem RowsAt.same {w w' : World} {A : Option Addr} {ls : List (List Int)} (h : RowsAt w A ls) (hw : ∀ k, k < w.heap.size → w'.heap[k]? = w.heap[k]?) : RowsAt w' A ls := by
  refine ⟨h.1, fun h0 => ?_⟩
  obtain ⟨b, off, e, hc⟩ := h.2 h0
  refine ⟨b, off, e, fun j hj => ?_⟩
  obtain ⟨u, h1, h2⟩ := hc j hj
  exact ⟨u, cell_same hw h1, h2.same hw⟩
end Go.Proofs.Ytnnkfopopanfjaa

/- Lists of bytes, and lists of such lists: how they are read, and where they lie. No condition. -/
set_option linter.unusedVariables false
namespace Go.Proofs.Ytnnkfopopanfjaa
open Go.RowKit

/-- Bytes, as numbers. -/
def enc8 (l : List UInt8) : List Int := l.map fun x => (x.toNat : Int)
theorem enc8_length (l : List UInt8) : (enc8 l).length = l.length := by simp [enc8]
theorem enc8_append (a b : List UInt8) : enc8 (a ++ b) = enc8 a ++ enc8 b := by simp [enc8]
def gb (l : List UInt8) (j : Nat) : UInt8 := l.getD j 0
theorem gb_eq (l : List UInt8) (j : Nat) (h : j < l.length) : gb l j = l[j] := by simp [gb, h]
theorem gi_enc8 (l : List UInt8) (j : Nat) (h : j < l.length) : gi (enc8 l) j = ((gb l j).toNat : Int) := by simp [gi, enc8, gb, h]
theorem enc8_set (l : List UInt8) (j : Nat) (x : UInt8) : (enc8 l).set j (x.toNat : Int) = enc8 (l.set j x) := by simp [enc8, List.map_set]
theorem enc8_inj {a b : List UInt8} (h : enc8 a = enc8 b) : a = b := by
  induction a generalizing b with
  | nil => cases b with
    | nil => rfl
    | cons y b => simp [enc8] at h
  | cons x a ih => cases b with
    | nil => simp [enc8] at h
    | cons y b =>
      simp only [enc8, List.map_cons, List.cons.injEq] at h
      obtain ⟨h1, h2⟩ := h
      rw [ih (b := b) h2, UInt8.toNat_inj.1 (by omega : x.toNat = y.toNat)]
theorem byte_lt (x : UInt8) : x.toNat < 256 := x.toNat_lt
/-- Bytes that are read at an address, in a block of some. -/
def BytesIn (R : Nat → Prop) (w : World) (A : Option Addr) (l : List UInt8) : Prop := IntsAt w .u8 A (enc8 l) ∧ ∀ b off, A = some ⟨b, off, none⟩ → 0 < l.length → R b
theorem BytesIn.len {R : Nat → Prop} {w : World} {A : Option Addr} {l : List UInt8} (h : BytesIn R w A l) : l.length ≤ 9223372036854775807 := by have := h.1.len; rwa [enc8_length] at this
theorem BytesIn.get {R : Nat → Prop} {w : World} {A : Option Addr} {l : List UInt8} (h : BytesIn R w A l) (h0 : 0 < l.length) : ∃ b off, A = some ⟨b, off, none⟩ ∧ R b ∧ ∀ j, j < l.length → w.cell? ⟨b, off + j, none⟩ = some (.int .u8 ((gb l j).toNat : Int)) := by
  obtain ⟨b, off, e, hc⟩ := h.1.get (by rw [enc8_length]; exact h0)
  exact ⟨b, off, e, h.2 b off e h0, fun j hj => by rw [← gi_enc8 l j hj]; exact hc j (by rw [enc8_length]; exact hj)⟩
theorem BytesIn.keeps {R S : Nat → Prop} {w w1 : World} {A : Option Addr} {l : List UInt8} (h : BytesIn R w A l) (hk : Keeps S w w1) (hn : ∀ b, R b → ¬ S b) : BytesIn R w1 A l :=
  ⟨h.1.keeps hk (fun b off e h0 => hn b (h.2 b off e (by rwa [enc8_length] at h0))), h.2⟩
theorem BytesIn.kept {R : Nat → Prop} {w w1 : World} {A : Option Addr} {l : List UInt8} (h : BytesIn R w A l) (hk : Keeps NoB w w1) : BytesIn R w1 A l := h.keeps hk (fun _ _ h => h)
theorem BytesIn.mono {R R' : Nat → Prop} {w : World} {A : Option Addr} {l : List UInt8} (h : BytesIn R w A l) (hr : ∀ b, b < w.heap.size → R b → R' b) : BytesIn R' w A l :=
  ⟨h.1, fun b off e h0 => hr b (h.1.lt b off e (by rw [enc8_length]; exact h0)) (h.2 b off e h0)⟩
theorem BytesIn.lt {R : Nat → Prop} {w : World} {A : Option Addr} {l : List UInt8} (h : BytesIn R w A l) : BytesIn (fun b => R b ∧ b < w.heap.size) w A l :=
  h.mono (fun b h1 h2 => ⟨h2, h1⟩)
theorem BytesIn.nil (R : Nat → Prop) (w : World) : BytesIn R w none [] := ⟨⟨by simp [enc8], fun h => by simp [enc8] at h⟩, fun b off e => by cases e⟩
def RowIn (R : Nat → Prop) (w : World) (u : Value) (l : List UInt8) : Prop := ∃ A c, u = .slice A l.length c ∧ l.length ≤ c ∧ (A = none → c = 0) ∧ BytesIn R w A l
theorem RowIn.keeps {R S : Nat → Prop} {w w1 : World} {u : Value} {l : List UInt8} (h : RowIn R w u l) (hk : Keeps S w w1) (hn : ∀ b, R b → ¬ S b) : RowIn R w1 u l := by
  obtain ⟨A, c, h1, h2, h3, h4⟩ := h
  exact ⟨A, c, h1, h2, h3, h4.keeps hk hn⟩
theorem RowIn.mono {R R' : Nat → Prop} {w : World} {u : Value} {l : List UInt8} (h : RowIn R w u l) (hr : ∀ b, b < w.heap.size → R b → R' b) : RowIn R' w u l := by
  obtain ⟨A, c, h1, h2, h3, h4⟩ := h
  exact ⟨A, c, h1, h2, h3, h4.mono hr⟩
def gr (ls : List (List UInt8)) (j : Nat) : List UInt8 := ls.getD j []
theorem gr_eq (ls : List (List UInt8)) (j : Nat) (h : j < ls.length) : gr ls j = ls[j] := by simp [gr, h]
theorem gr_mem (ls : List (List UInt8)) (j : Nat) (h : j < ls.length) : gr ls j ∈ ls := by rw [gr_eq ls j h]; exact List.getElem_mem h
/-- Lists of bytes that are read at an address, all in blocks of some. -/
def RowsIn (R : Nat → Prop) (w : World) (A : Option Addr) (ls : List (List UInt8)) : Prop :=
  ls.length ≤ 9223372036854775807 ∧ (0 < ls.length → ∃ b off, A = some ⟨b, off, none⟩ ∧ R b ∧ ∀ j, j < ls.length → ∃ u, w.cell? ⟨b, off + j, none⟩ = some u ∧ RowIn R w u (gr ls j))
theorem RowsIn.len {R : Nat → Prop} {w : World} {A : Option Addr} {ls : List (List UInt8)} (h : RowsIn R w A ls) : ls.length ≤ 9223372036854775807 := h.1
theorem RowsIn.keeps {R S : Nat → Prop} {w w1 : World} {A : Option Addr} {ls : List (List UInt8)} (h : RowsIn R w A ls) (hk : Keeps S w w1) (hn : ∀ b, R b → ¬ S b) : RowsIn R w1 A ls :=
  ⟨h.1, fun h0 => by
    obtain ⟨b, off, e, hb, hc⟩ := h.2 h0
    refine ⟨b, off, e, hb, fun j hj => ?_⟩
    obtain ⟨u, h1, h2⟩ := hc j hj
    exact ⟨u, hk.cell h1 (hn b hb), h2.keeps hk hn⟩⟩
theorem RowsIn.kept {R : Nat → Prop} {w w1 : World} {A : Option Addr} {ls : List (List UInt8)} (h : RowsIn R w A ls) (hk : Keeps NoB w w1) : RowsIn R w1 A ls := h.keeps hk (fun _ _ h => h)
theorem RowsIn.mono {R R' : Nat → Prop} {w : World} {A : Option Addr} {ls : List (List UInt8)} (h : RowsIn R w A ls) (hr : ∀ b, b < w.heap.size → R b → R' b) : RowsIn R' w A ls :=
  ⟨h.1, fun h0 => by
    obtain ⟨b, off, e, hb, hc⟩ := h.2 h0
    obtain ⟨u0, h1, _⟩ := hc 0 h0
    refine ⟨b, off, e, hr b (World.block_lt_of_cell? w _ h1) hb, fun j hj => ?_⟩
    obtain ⟨u, h1, h2⟩ := hc j hj
    exact ⟨u, h1, h2.mono hr⟩⟩
theorem RowsIn.lt {R : Nat → Prop} {w : World} {A : Option Addr} {ls : List (List UInt8)} (h : RowsIn R w A ls) : RowsIn (fun b => R b ∧ b < w.heap.size) w A ls := h.mono (fun b h1 h2 => ⟨h2, h1⟩)
theorem RowsIn.nil (R : Nat → Prop) (w : World) (A : Option Addr) : RowsIn R w A [] := ⟨by simp, fun h => by simp at h⟩
/-- Bytes of the call's own. -/
def OwnB (w : World) (base : Nat) (v : Value) (l : List UInt8) : Prop := OwnInts w base .u8 5 v (enc8 l)
theorem OwnInts.form {w : World} {base : Nat} {k : IntKind} {e : TypeId} {v : Value} {xs : List Int} (h : OwnInts w base k e v xs) (h0 : 0 < xs.length) : ∃ g c, v = .slice (some ⟨g, 0, none⟩) xs.length c := by
  rcases h.2 with ⟨rfl, h1⟩ | ⟨g, cap, cur, rfl, _⟩
  · omega
  · exact ⟨g, cap, rfl⟩
theorem OwnB.reads {w : World} {base : Nat} {v : Value} {l : List UInt8} (h : OwnB w base v l) : ∃ A c, v = .slice A l.length c ∧ l.length ≤ c ∧ (A = none → c = 0) ∧ BytesIn (fun b => v.ownBlock = some b) w A l := by
  rcases h.2 with ⟨rfl, h0⟩ | ⟨g, cap, cur, rfl, hb, hg, h1, h2, h3, h4⟩
  · rw [enc8_length] at h0
    have hl : l = [] := List.length_eq_zero_iff.1 h0
    subst hl
    exact ⟨none, 0, rfl, Nat.le_refl _, fun _ => rfl, BytesIn.nil _ _⟩
  · obtain ⟨A, c, e, hc, hat⟩ := OwnInts.reads h
    injection e with e1 e2 e3
    subst e1 e3
    rw [enc8_length] at *
    refine ⟨_, cap, rfl, hc, fun e => (by cases e), hat, fun b off e h0 => ?_⟩
    injection e with e; injection e with e _
    subst e
    rfl
theorem OwnB.bytes {w : World} {base : Nat} {A : Option Addr} {n c : Nat} {l : List UInt8} (h : OwnB w base (.slice A n c) l) : BytesIn (fun b => base ≤ b) w A l := by
  obtain ⟨A', c', e, h1, h2, h3⟩ := h.reads
  injection e with e1 e2 e3
  subst e1 e3
  refine ⟨h3.1, fun b off e h0 => ?_⟩
  exact (OwnInts.base_le h b (h3.2 b off e h0)).1
theorem OwnB.row {w : World} {base : Nat} {v : Value} {l : List UInt8} (h : OwnB w base v l) : RowIn (fun b => v.ownBlock = some b) w v l := by
  obtain ⟨A, c, h1, h2, h3, h4⟩ := h.reads
  exact ⟨A, c, h1, h2, h3, h4⟩
/-- Blocks, put upon each other. -/
def xorL (a b : List UInt8) : List UInt8 := List.zipWith (· ^^^ ·) a b
theorem xorL_length {a b : List UInt8} (h : b.length = a.length) : (xorL a b).length = a.length := by simp [xorL, h]
theorem gb_xorL {a b : List UInt8} (h : b.length = a.length) (j : Nat) (hj : j < a.length) : gb (xorL a b) j = gb a j ^^^ gb b j := by
  rw [gb_eq _ _ (by rw [xorL_length h]; exact hj), gb_eq _ _ hj, gb_eq _ _ (by omega)]
  simp [xorL]
/-- The first k bytes are put upon each other. -/
def xorTo (a b : List UInt8) (k : Nat) : List UInt8 := xorL (a.take k) (b.take k) ++ a.drop k
theorem xorTo_zero (a b : List UInt8) : xorTo a b 0 = a := by simp [xorTo, xorL]
theorem xorTo_full (a b : List UInt8) (h : b.length = a.length) : xorTo a b a.length = xorL a b := by
  unfold xorTo; rw [List.take_length, List.drop_length, List.append_nil, ← h, List.take_length]
theorem xorTo_length (a b : List UInt8) (h : b.length = a.length) (k : Nat) : (xorTo a b k).length = a.length := by
  unfold xorTo; rw [List.length_append, xorL_length (by simp [h]), List.length_take, List.length_drop]; omega
theorem xorTo_at (a b : List UInt8) (h : b.length = a.length) (k : Nat) (hk : k < a.length) : gb (xorTo a b k) k = gb a k := by
  unfold xorTo gb
  have hl : (xorL (a.take k) (b.take k)).length = k := by rw [xorL_length (by simp [h])]; simp; omega
  rw [List.getD_eq_getElem?_getD, List.getElem?_append_right (by omega), hl, Nat.sub_self, List.getElem?_drop, Nat.add_zero, List.getD_eq_getElem?_getD]
theorem xorTo_set (a b : List UInt8) (h : b.length = a.length) (k : Nat) (hk : k < a.length) : (xorTo a b k).set k (gb a k ^^^ gb b k) = xorTo a b (k + 1) := by
  have hl : (xorL (a.take k) (b.take k)).length = k := by rw [xorL_length (by simp [h])]; simp; omega
  unfold xorTo
  rw [List.set_append_right _ _ (by omega), hl, Nat.sub_self]
  have hd : a.drop k = a[k] :: a.drop (k + 1) := List.drop_eq_getElem_cons hk
  have ht : xorL (a.take (k + 1)) (b.take (k + 1)) = xorL (a.take k) (b.take k) ++ [gb a k ^^^ gb b k] := by
    unfold xorL
    rw [List.take_succ_eq_append_getElem hk, List.take_succ_eq_append_getElem (by omega : k < b.length), List.zipWith_append (by simp; omega), gb_eq a k hk, gb_eq b k (by omega)]
    rfl
  rw [ht, hd, List.set_cons_zero, List.append_assoc]; rfl
theorem xor_byte (x y : UInt8) : bits BinOp.xor IntKind.u8 (x.toNat : Int) (y.toNat : Int) = ((x ^^^ y).toNat : Int) := by
  rw [u8_xor_nat _ _ (byte_lt x) (byte_lt y), UInt8.toNat_xor]
theorem or_byte (x y : UInt8) : bits BinOp.or IntKind.u8 (x.toNat : Int) (y.toNat : Int) = ((x ||| y).toNat : Int) := by
  rw [u8_or_nat _ _ (byte_lt x) (byte_lt y), UInt8.toNat_or]
/-- All of some blocks, put upon one. -/
def xorAll (a : List UInt8) (ls : List (List UInt8)) : List UInt8 := ls.foldl xorL a
def fitB (n : Nat) (ls : List (List UInt8)) : Bool := ls.all fun l => decide (l.length = n)
theorem fitB_at {n : Nat} {ls : List (List UInt8)} (h : fitB n ls = true) (j : Nat) (hj : j < ls.length) : (gr ls j).length = n := by
  have := List.all_eq_true.1 h (gr ls j) (gr_mem ls j hj)
  simpa using this
theorem xorAll_length (a : List UInt8) (ls : List (List UInt8)) (h : fitB a.length ls = true) : (xorAll a ls).length = a.length := by
  induction ls generalizing a with
  | nil => rfl
  | cons l r ih =>
    simp only [fitB, List.all_cons, Bool.and_eq_true, decide_eq_true_eq] at h
    show (xorAll (xorL a l) r).length = _
    have hl := xorL_length h.1
    rw [ih _ (by rw [hl]; exact h.2), hl]
theorem xorAll_snoc (a : List UInt8) (ls : List (List UInt8)) (l : List UInt8) : xorAll a (ls ++ [l]) = xorL (xorAll a ls) l := by unfold xorAll; rw [List.foldl_append]; rfl
theorem gb_xorAll (a : List UInt8) (ls : List (List UInt8)) (h : fitB a.length ls = true) (j : Nat) (hj : j < a.length) : gb (xorAll a ls) j = ls.foldl (fun x l => x ^^^ gb l j) (gb a j) := by
  induction ls generalizing a with
  | nil => rfl
  | cons l r ih =>
    simp only [fitB, List.all_cons, Bool.and_eq_true, decide_eq_true_eq] at h
    have hl := xorL_length h.1
    show gb (xorAll (xorL a l) r) j = _
    rw [ih _ (by rw [hl]; exact h.2) (by omega), gb_xorL h.1 j hj]; rfl
theorem list_gb (l : List UInt8) : l = (List.range l.length).map (gb l) := by
  apply List.ext_getElem
  · simp
  · intro i h1 h2; simp [gb, h1]
/-- Blocks of so many bytes, all put upon each other. -/
def sumB (n : Nat) (ls : List (List UInt8)) : List UInt8 := xorAll (List.replicate n 0) ls
theorem sumB_length {n : Nat} {ls : List (List UInt8)} (h : fitB n ls = true) : (sumB n ls).length = n := by
  unfold sumB; rw [xorAll_length _ _ (by simpa using h)]; simp
/-- One byte of a sum, of the first i blocks. -/
def sumAt (ls : List (List UInt8)) (k i : Nat) : UInt8 := (ls.take i).foldl (fun x l => x ^^^ gb l k) 0
theorem sumAt_succ (ls : List (List UInt8)) (k i : Nat) (h : i < ls.length) : sumAt ls k (i + 1) = sumAt ls k i ^^^ gb (gr ls i) k := by
  unfold sumAt; rw [List.take_succ_eq_append_getElem h, List.foldl_append, gr_eq ls i h]; rfl
theorem sumB_eq {n : Nat} {ls : List (List UInt8)} (h : fitB n ls = true) : sumB n ls = (List.range n).map fun k => sumAt ls k ls.length := by
  rw [list_gb (sumB n ls), sumB_length h]
  apply List.map_congr_left
  intro k hk
  have hk := List.mem_range.1 hk
  unfold sumB sumAt
  rw [gb_xorAll _ _ (by simpa using h) k (by simpa using hk), List.take_length]
  congr 1
  simp [gb, hk]
def zeroB (l : List UInt8) : Bool := l.all fun x => decide (x = 0)
end Go.Proofs.Ytnnkfopopanfjaa

/- Steps of a region that draws its order: appends. No condition. -/
set_option linter.unusedVariables false
namespace Go.Proofs.Ytnnkfopopanfjaa
open Go.RowKit

theorem step_appInts2 {P : Program} {w : World} {ops : Array Oper} {o : Oper} {a : Act} {K : Act → World → Prop} {Q : Exit → Act → World → Prop} {E : Prop} (hgd : o.guard = none) (s x : Operand) (t : TypeId)
    (ho : o.op = .call { callee := .builtin .append, args := #[s, x], argTypes := #[t, t] }) (base : Nat) (e : TypeId) (k : IntKind) (bytes : Nat) (ht : P.underlying t = some (.slice e))
    (hi : (P.info? e).map (fun i => (i.zero, i.size, i.bytes)) = some (some (.int k 0), 1, bytes)) (v : Value) (ys : List Int) (hs : a.eval s = v) (hown : OwnInts w base k e v ys) (A : Option Addr) (c : Nat) (xs : List Int)
    (hx : a.eval x = .slice A xs.length c) (hA : A = none → c = 0) (hat : IntsAt w k A xs) (hb : (ys.length + xs.length) * bytes ≤ 140737488355328) (hm : ys.length + xs.length ≤ 140737488355328) (hbase : base ≤ w.heap.size)
    (h : ∀ A' c' w', OwnInts w' base k e (.slice A' (ys ++ xs).length c') (ys ++ xs) → w.grownBy w' v.ownBlock → K (a.put o.dst (.slice A' (ys ++ xs).length c')) w') :
    if Region.wanted o (yielded ops a.tmps) = true then Oper.wp P o a w K Q else E := by
  have hw : Region.wanted o (yielded ops a.tmps) = true := by simp [Region.wanted, hgd]
  rw [if_pos hw]
  obtain ⟨i, i1, i2, i3, i4⟩ := info_parts hi
  cases A with
  | none =>
    have hn : xs = [] := by
      rcases Nat.eq_zero_or_pos xs.length with h0 | h0
      · exact List.length_eq_zero_iff.1 h0
      · obtain ⟨b, off, e, _⟩ := hat.get h0; cases e
    subst hn
    rw [hA rfl] at hx
    have hrun := run_append_owned_none (P := P) (w := w) base t o.type e i 1 ht i1 v ys.length _ hown
    unfold Oper.wp
    simp [execOp, ho, resolve, invoke, builtin, hs, hx, hrun, Result.andThen]
    obtain ⟨A', c', e', _⟩ := hown.reads
    have := h A' c' w (by rw [List.append_nil, ← e']; exact hown) ⟨rfl, rfl, rfl, Nat.le_refl _, fun _ _ _ => rfl⟩
    rw [List.append_nil, ← e'] at this
    exact this
  | some ad =>
    refine wp_append_own w s x t ho base e i (.int k 0) 1 bytes ht i1 i2 i3 i4 rfl (by decide) v ys.length (ys.map (Value.int k)) hs hown ad xs.length c (xs.map (Value.int k)) hx (by simp) ?_ (ints_oneCell k xs) (by unfold maxLen; omega) hb hbase ?_
    · intro j u hu
      rw [List.getElem?_map] at hu
      obtain ⟨y, hy, rfl⟩ := Option.map_eq_some_iff.1 hu
      obtain ⟨hj, hyj⟩ := List.getElem?_eq_some_iff.1 hy
      obtain ⟨b, off, e, hc⟩ := hat.get (by omega)
      cases e
      have := hc j hj
      rw [gi_eq xs j hj, hyj] at this
      unfold Addr.add
      split
      · rename_i e0; subst e0; simpa using this
      · exact this
    · intro v' w' h1 h2 h3
      have hO : OwnInts w' base k e v' (ys ++ xs) := by unfold OwnInts; simpa using h1
      obtain ⟨A', c', e', _⟩ := hO.reads
      subst e'
      exact h A' c' w' hO h2
theorem step_app1V2 {P : Program} {w : World} {ops : Array Oper} {o : Oper} {a : Act} {K : Act → World → Prop} {Q : Exit → Act → World → Prop} {E : Prop} (hgd : o.guard = none) (s x : Operand) (t : TypeId)
    (ho : o.op = .call { callee := .builtin .append, args := #[s, x], argTypes := #[t, t] }) (base : Nat) (e : TypeId) (z : Value) (bytes : Nat) (ht : P.underlying t = some (.slice e))
    (hi : (P.info? e).map (fun i => (i.zero, i.size, i.bytes)) = some (some z, 1, bytes)) (hz : z.cells.size = 1) (v : Value) (n : Nat) (xs : List Value) (hs : a.eval s = v) (hown : w.ownsRow base e 1 v n xs) (bx c : Nat) (y : Value) (hy : y.oneCell' = true)
    (hx : a.eval x = .slice (some ⟨bx, 0, none⟩) 1 c) (hcell : w.cell? ⟨bx, 0, none⟩ = some y) (hb : (n + 1) * bytes ≤ 140737488355328) (hm : n + 1 ≤ 140737488355328) (hbase : base ≤ w.heap.size)
    (h : ∀ g cap w', w'.ownsRow base e 1 (.slice (some ⟨g, 0, none⟩) (n + 1) cap) (n + 1) (xs ++ [y]) → w.grownBy w' v.ownBlock → (v.ownBlock = some g ∨ g = w.heap.size) → K (a.put o.dst (.slice (some ⟨g, 0, none⟩) (n + 1) cap)) w') :
    if Region.wanted o (yielded ops a.tmps) = true then Oper.wp P o a w K Q else E := by
  obtain ⟨i, i1, i2, i3, i4⟩ := info_parts hi
  refine step_append_lies (H := w.heap.size) (hH := rfl) (w := w) hgd s x t ho base e i z 1 bytes ht i1 i2 i3 i4 hz (by decide) v n xs hs hown ⟨bx, 0, none⟩ 1 c [y] hx rfl ?_ ?_ (by omega) (by unfold maxLen; omega) hb hbase ?_
  · intro j u hu
    cases j with
    | zero => simp at hu; subst hu; exact hcell
    | succ j => simp at hu
  · intro u hu; simp at hu; subst hu; exact hy
  · intro g cap w' h1 h2 h3 _
    exact h g cap w' h1 h2 h3
end Go.Proofs.Ytnnkfopopanfjaa
