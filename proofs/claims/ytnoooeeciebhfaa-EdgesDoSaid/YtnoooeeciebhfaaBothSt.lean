/- A graph, and two lists of numbers that grow beside it. No condition. -/
import Derived.Test.YtnoooeeciebhfaaEdgesEmptyMath
import Derived.Test.YtnoooeeciebhfaaStep
import Derived.Test.YtnoooeeciebhfaaEqsOwn
import Derived.Test.YtnoooeeciebhfaaAddSt
import Derived.Test.YtnoooeeciebhfaaActs
set_option linter.unusedVariables false
namespace Go.Proofs.Ytnoooeeciebhfaa
open Go.RowKit

/-- 'append(v, xs...)' at a step of a region that draws its order: where what comes of it lies. -/
theorem step_appIntsL {P : Program} {w : World} {ops : Array Oper} {o : Oper} {a : Act} {K : Act → World → Prop} {Q : Exit → Act → World → Prop} {E : Prop} (hgd : o.guard = none) (s x : Operand) (t : TypeId)
    (ho : o.op = .call { callee := .builtin .append, args := #[s, x], argTypes := #[t, t] }) (base : Nat) (e : TypeId) (k : IntKind) (bytes : Nat) (ht : P.underlying t = some (.slice e))
    (hi : (P.info? e).map (fun i => (i.zero, i.size, i.bytes)) = some (some (.int k 0), 1, bytes)) (v : Value) (ys : List Int) (hs : a.eval s = v) (hown : OwnInts w base k e v ys) (A : Option Addr) (c n : Nat) (xs : List Int) (hn : xs.length = n)
    (hx : a.eval x = .slice A n c) (hA : A = none → c = 0) (hat : IntsAt w k A xs) (hb : (ys.length + n) * bytes ≤ 140737488355328) (hm : ys.length + n ≤ 140737488355328) (hbase : base ≤ w.heap.size)
    (h : ∀ v' w', OwnInts w' base k e v' (ys ++ xs) → w.grownBy w' v.ownBlock → (v'.ownBlock = v.ownBlock ∨ v'.ownBlock = some w.heap.size) → K (a.put o.dst v') w') :
    if Region.wanted o (yielded ops a.tmps) = true then Oper.wp P o a w K Q else E := by
  subst hn
  have hw : Region.wanted o (yielded ops a.tmps) = true := by simp [Region.wanted, hgd]
  rw [if_pos hw]
  obtain ⟨i, i1, i2, i3, i4⟩ := info_parts hi
  cases A with
  | none =>
    have hn : xs = [] := by
      rcases Nat.eq_zero_or_pos xs.length with h0 | h0
      · exact List.length_eq_zero_iff.1 h0
      · obtain ⟨b, off, e, _⟩ := hat.get h0; cases e
    subst hn
    rw [hA rfl] at hx
    have hrun := run_append_owned_none (P := P) (w := w) base t o.type e i 1 ht i1 v ys.length _ hown
    unfold Oper.wp
    simp [execOp, ho, resolve, invoke, builtin, hs, hx, hrun, Result.andThen]
    exact h v w (by rw [List.append_nil]; exact hown) ⟨rfl, rfl, rfl, Nat.le_refl _, fun _ _ _ => rfl⟩ (.inl rfl)
  | some ad =>
    refine wp_append_at s x t ho base e i (.int k 0) 1 bytes ht i1 i2 i3 i4 rfl (by decide) v ys.length (ys.map (Value.int k)) hs hown ad xs.length c (xs.map (Value.int k)) hx (by simp) ?_ (ints_oneCell k xs) (by unfold maxLen; omega) hb hbase ?_
    · intro j u hu
      rw [List.getElem?_map] at hu
      obtain ⟨y, hy, rfl⟩ := Option.map_eq_some_iff.1 hu
      obtain ⟨hj, hyj⟩ := List.getElem?_eq_some_iff.1 hy
      obtain ⟨b, off, e, hc⟩ := hat.get (by omega)
      cases e
      have := hc j hj
      rw [gi_eq xs j hj, hyj] at this
      unfold Addr.add
      split
      · rename_i e0; subst e0; simpa using this
      · exact this
    · intro v' w' h1 h2 h3
      exact h v' w' (by unfold OwnInts; simpa using h1) h2 h3
structure BothSt (w : World) (G n : Nat) (F : GF) (c p : Int) (v4 : Value) (es : List Int) (v5 : Value) (bl : List Int) (cur : World) : Prop where
  g : GOk cur G G n F c p
  e : OwnInts cur (G + 1) .i64 3 v4 es
  b : OwnInts cur (G + 1) .i64 3 v5 bl
  apart : ∀ k, v4.ownBlock = some k → v5.ownBlock ≠ some k
  k : Keeps NoB w cur
  hi : G + 1 ≤ cur.heap.size
  lo : w.heap.size ≤ G
variable {w cur W : World} {G n n' : Nat} {F F' : GF} {c p c' p' : Int} {v4 v5 v4' v5' : Value} {es bl es' bl' : List Int}
theorem BothSt.kept (h : BothSt w G n F c p v4 es v5 bl cur) (hk : Keeps NoB cur W) : BothSt w G n F c p v4 es v5 bl W :=
  ⟨h.g.kept hk, h.e.kept hk, h.b.kept hk, h.apart, h.k.fresh hk, Nat.le_trans h.hi hk.size, h.lo⟩
theorem own_neG {base G : Nat} {v : Value} {xs : List Int} (h : OwnInts cur base .i64 3 v xs) (hb : G < base) : v.ownBlock ≠ some G := fun e => by
  have := (h.base_le G e).1
  omega
theorem BothSt.graph (h : BothSt w G n F c p v4 es v5 bl cur) (hg : GOk W G G n' F' c' p') (hk : GKeep G G cur W) : BothSt w G n' F' c' p' v4 es v5 bl W :=
  ⟨hg, h.e.gkept hk (own_neG h.e (Nat.lt_succ_self G)), h.b.gkept hk (own_neG h.b (Nat.lt_succ_self G)), h.apart, GKeep.outer h.k hk h.lo, Nat.le_trans h.hi (Keeps.size hk), h.lo⟩
theorem GOk.own {base gb n : Nat} {F : GF} {c p : Int} (h : GOk cur base gb n F c p) {b0 : Nat} {v : Value} {xs : List Int} (ho : OwnInts cur b0 .i64 3 v xs) (hne : v.ownBlock ≠ some gb) (hg : cur.grownBy W v.ownBlock) : GOk W base gb n F c p :=
  h.keeps (Keeps.ofGrown hg) (fun e => hne e.symm) (fun b hb e => notMap_own ho b e.symm hb)
theorem BothSt.es_grown (h : BothSt w G n F c p v4 es v5 bl cur) (hown : OwnInts W (G + 1) .i64 3 v4' es') (hg : cur.grownBy W v4.ownBlock) (hat : v4'.ownBlock = v4.ownBlock ∨ v4'.ownBlock = some cur.heap.size) : BothSt w G n F c p v4' es' v5 bl W := by
  refine ⟨h.g.own h.e (own_neG h.e (Nat.lt_succ_self G)) hg, hown, h.b.keeps (Keeps.ofGrown hg) (fun b hb e => h.apart b e.symm hb), fun k hk e => ?_, h.k.own h.e hg (by have := h.lo; omega), Nat.le_trans h.hi hg.size, h.lo⟩
  rcases hat with h1 | h1
  · exact h.apart k (h1.symm.trans hk) e
  · have h2 := h1.symm.trans hk
    injection h2 with h2
    have := (h.b.base_le k e).2
    omega
theorem BothSt.bl_grown (h : BothSt w G n F c p v4 es v5 bl cur) (hown : OwnInts W (G + 1) .i64 3 v5' bl') (hg : cur.grownBy W v5.ownBlock) (hat : v5'.ownBlock = v5.ownBlock ∨ v5'.ownBlock = some cur.heap.size) : BothSt w G n F c p v4 es v5' bl' W := by
  refine ⟨h.g.own h.b (own_neG h.b (Nat.lt_succ_self G)) hg, h.e.keeps (Keeps.ofGrown hg) (fun b hb e => h.apart b hb e.symm), hown, fun k hk e => ?_, h.k.own h.b hg (by have := h.lo; omega), Nat.le_trans h.hi hg.size, h.lo⟩
  rcases hat with h1 | h1
  · exact h.apart k hk (h1.symm.trans e)
  · have h2 := h1.symm.trans e
    injection h2 with h2
    have := (h.e.base_le k hk).2
    omega
theorem BothSt.mono (h : BothSt w G n F c p v4 es v5 bl cur) (hn : n ≤ n') (hs : n' ≤ 900000000) : BothSt w G n' F c p v4 es v5 bl cur := ⟨h.g.mono hn hs, h.e, h.b, h.apart, h.k, h.hi, h.lo⟩
theorem wf_app {l m : List Int} (h : ∀ x ∈ l, (Lit.int .i64 x).wf = true) (k : ∀ x ∈ m, (Lit.int .i64 x).wf = true) : ∀ x ∈ l ++ m, (Lit.int .i64 x).wf = true := fun x hx => (List.mem_append.1 hx).elim (h x) (k x)
/-- The same, and an act in a box. -/
structure BothB (w : World) (G n : Nat) (F : GF) (c p : Int) (v4 : Value) (es : List Int) (v5 : Value) (bl : List Int) (bb : Nat) (x y z : Value) (cur : World) : Prop where
  s : BothSt w G n F c p v4 es v5 bl cur
  x : cur.heap[bb]? = some (.cells #[x, y, z] 35 (0, 0))
variable {bb : Nat} {x y z : Value}
theorem BothB.kept (h : BothB w G n F c p v4 es v5 bl bb x y z cur) (hk : Keeps NoB cur W) : BothB w G n F c p v4 es v5 bl bb x y z W := ⟨h.s.kept hk, hk.heap h.x (fun h => h)⟩
theorem BothB.es_grown (h : BothB w G n F c p v4 es v5 bl bb x y z cur) (hown : OwnInts W (G + 1) .i64 3 v4' es') (hg : cur.grownBy W v4.ownBlock) (hat : v4'.ownBlock = v4.ownBlock ∨ v4'.ownBlock = some cur.heap.size) : BothB w G n F c p v4' es' v5 bl bb x y z W :=
  ⟨h.s.es_grown hown hg hat, (Keeps.ofGrown hg).heap h.x (fun e => own_not_box h.s.e h.x (by decide) e.symm)⟩
theorem BothB.bl_grown (h : BothB w G n F c p v4 es v5 bl bb x y z cur) (hown : OwnInts W (G + 1) .i64 3 v5' bl') (hg : cur.grownBy W v5.ownBlock) (hat : v5'.ownBlock = v5.ownBlock ∨ v5'.ownBlock = some cur.heap.size) : BothB w G n F c p v4 es v5' bl' bb x y z W :=
  ⟨h.s.bl_grown hown hg hat, (Keeps.ofGrown hg).heap h.x (fun e => own_not_box h.s.b h.x (by decide) e.symm)⟩
theorem BothB.graph (h : BothB w G n F c p v4 es v5 bl bb x y z cur) (hg : GOk W G G n' F' c' p') (hk : GKeep G G cur W) (hb : bb ≠ G) : BothB w G n' F' c' p' v4 es v5 bl bb x y z W :=
  ⟨h.s.graph hg hk, hk.heap h.x (fun hs => by
    rcases hs.2 with h1 | ⟨em, cl, h1⟩
    · exact hb h1
    · rw [h.x] at h1; cases h1)⟩
theorem BothB.cells (h : BothB w G n F c p v4 es v5 bl bb x y z cur) : cur.cell? ⟨bb, 0, none⟩ = some x ∧ cur.cell? ⟨bb, 1, none⟩ = some y ∧ cur.cell? ⟨bb, 2, none⟩ = some z := by
  have := h.x
  simp [World.cell?, this]
end Go.Proofs.Ytnoooeeciebhfaa
