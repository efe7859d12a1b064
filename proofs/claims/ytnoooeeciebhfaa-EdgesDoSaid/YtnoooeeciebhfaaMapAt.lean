/- A map with keys of type int and whatever elements, as a function from keys to values. No condition. -/
import Derived.Test.YtnoooeeciebhfaaSome
import Derived.Maps.RangeWalk
set_option linter.unusedVariables false
namespace Go.Proofs.Ytnoooeeciebhfaa
open Go.RowKit Go.Maps

/-- An element reads as itself. -/
def selfElem (v : Value) : Option (DataW Value × List MemPlace) := some (.held v, [])
/-- What a datum holds, key by key. -/
def HoldsV (D : DataW Value) (f : Int → Option Value) : Prop := ∀ x, (∀ zd, D.atKey (.int .i64 x) zd = match f x with | some v => .held v | none => zd) ∧ Maps.has D (.int .i64 x) = (f x).isSome
/-- Block b is a map of at most n entries that holds f. -/
def MapAt (w : World) (b n : Nat) (f : Int → Option Value) : Prop := ∃ D : DataW Value, w.ownsMap Try.prog 3 selfElem b n D ∧ HoldsV D f
theorem MapAt.lt {w : World} {b n : Nat} {f : Int → Option Value} (h : MapAt w b n f) : b < w.heap.size := by obtain ⟨D, h, _⟩ := h; exact h.lt
theorem MapAt.keeps {w w1 : World} {b n : Nat} {f : Int → Option Value} (h : MapAt w b n f) {S : Nat → Prop} (hk : Keeps S w w1) (hn : ¬ S b) : MapAt w1 b n f := by
  obtain ⟨D, ⟨es, clock, hb, r⟩, hf⟩ := h
  exact ⟨D, ⟨es, clock, hk.heap hb hn, r⟩, hf⟩
theorem MapAt.mono {w : World} {b n n' : Nat} {f : Int → Option Value} (h : MapAt w b n f) (hn : n ≤ n') : MapAt w b n' f := by
  obtain ⟨D, h, hf⟩ := h
  exact ⟨D, h.mono hn, hf⟩
theorem MapAt.made (w : World) : MapAt (w.alloc (.map #[] 0)) w.heap.size 0 (fun _ => none) := ⟨.map [], World.ownsMap_made w _ _ _, fun x => ⟨fun zd => rfl, rfl⟩⟩
theorem MapAt.ne_own {w : World} {b n : Nat} {f : Int → Option Value} (hm : MapAt w b n f) {base sz m : Nat} {e : TypeId} {v : Value} {xs : List Value} (h : w.ownsRow base e sz v m xs) : v.ownBlock ≠ some b := by
  obtain ⟨D, ⟨es, clock, hb, _⟩, _⟩ := hm
  rcases h.2 with ⟨rfl, _⟩ | ⟨g, cap, cur, rfl, _, hg, _⟩
  · simp [Value.ownBlock]
  · intro e1
    have : g = b := by simpa [Value.ownBlock] using e1
    subst this
    rw [hb] at hg; cases hg
theorem MapAt.ne_cells {w : World} {b n : Nat} {f : Int → Option Value} (hm : MapAt w b n f) {g : Nat} {cs : Array Value} {T : TypeId} {fr : Nat × Nat} (h : w.heap[g]? = some (.cells cs T fr)) : g ≠ b := by
  obtain ⟨D, ⟨es, clock, hb, _⟩, _⟩ := hm
  rintro rfl
  rw [hb] at h; cases h
theorem HoldsV.put {D : DataW Value} {f : Int → Option Value} (h : HoldsV D f) (hm : Maps.IsMap D) (x : Int) (v : Value) : HoldsV (D.put (.int .i64 x) (.held v)) (fun y => if y = x then some v else f y) := fun y => by
  by_cases e : y = x
  · subst e
    refine ⟨fun zd => ?_, ?_⟩
    · rw [Maps.atKey_put_same hm (show WideAt.IsKeyLit (.int .i64 y) from trivial)]; simp
    · rw [Maps.has_put_same hm (show WideAt.IsKeyLit (.int .i64 y) from trivial)]; simp
  · have hne : (Lit.int .i64 y) ≠ .int .i64 x := fun h => e (by injection h)
    refine ⟨fun zd => ?_, ?_⟩
    · rw [Maps.atKey_put_other hne]; simp only [if_neg e]; exact (h y).1 zd
    · rw [Maps.has_put_other hne]; simp only [if_neg e]; exact (h y).2
theorem HoldsV.del {D : DataW Value} {f : Int → Option Value} (h : HoldsV D f) (hm : Maps.Tidy D) (x : Int) : HoldsV (D.del (.int .i64 x)) (fun y => if y = x then none else f y) := fun y => by
  by_cases e : y = x
  · subst e
    refine ⟨fun zd => ?_, ?_⟩
    · rw [Maps.atKey_del_same]; simp
    · rw [Maps.has_del_same]; simp
  · have hne : (Lit.int .i64 y) ≠ .int .i64 x := fun h => e (by injection h)
    refine ⟨fun zd => ?_, ?_⟩
    · rw [Maps.atKey_del_other hne]; simp only [if_neg e]; exact (h y).1 zd
    · rw [Maps.has_del_other hne]; simp only [if_neg e]; exact (h y).2
section
variable (w : World) {ops : Array Oper} {rest : List Oper} {o : Oper} {a : Act} {Q : Exit → Act → World → Prop}
/-- 'm[x]', 'v, ok := m[x]'. -/
theorem MapAt.look {w : World} {b n : Nat} {f : Int → Option Value} (h : MapAt w b n f) {t e : TypeId} (ht : Try.prog.underlying t = some (.map 3 e)) {z : Value} (hz : (zeroValue e).run Try.prog w = .ok z w) {x : Int} (hx : (Lit.int .i64 x).wf = true) :
    (Instr.lookup t (.map (some b)) (.int .i64 x) false).run Try.prog w = .ok ((f x).getD z) w ∧ (Instr.lookup t (.map (some b)) (.int .i64 x) true).run Try.prog w = .ok (.tuple #[(f x).getD z, .bool (f x).isSome]) w := by
  obtain ⟨D, hD, hf⟩ := h
  have hk : keyOf Try.prog 3 (.int .i64 x) = some (.int .i64 x) := Maps.keyOf_int_mk Try.underlying3 hx
  have fact : ∀ (v : Value) (ps : List MemPlace), selfElem v = some (D.atKey (.int .i64 x) (.held z), ps) → v = (f x).getD z := by
    intro v ps hv
    unfold selfElem at hv
    rw [(hf x).1] at hv
    cases hfx : f x with
    | none =>
      rw [hfx] at hv
      simp only [Option.some.injEq, Prod.mk.injEq, DataW.held.injEq] at hv
      exact hv.1
    | some u =>
      rw [hfx] at hv
      simp only [Option.some.injEq, Prod.mk.injEq, DataW.held.injEq] at hv
      exact hv.1
  obtain ⟨v, ps, hrun, hv⟩ := hD.lookup key_law ht hz (show selfElem z = some (.held z, []) from rfl) hk
  obtain ⟨v2, ps2, hrun2, hv2⟩ := hD.look_ok key_law ht hz (show selfElem z = some (.held z, []) from rfl) hk
  rw [fact v ps hv] at hrun
  rw [fact v2 ps2 hv2, (hf x).2] at hrun2
  exact ⟨hrun, hrun2⟩
theorem wpList_look_at (hg : o.guard = none) (m k : Operand) (t : TypeId) (hop : o.op = Op.lookup t m k false) (e : TypeId) (ht : Try.prog.underlying t = some (.map 3 e)) (z : Value) (hz : (zeroValue e).run Try.prog w = .ok z w) (b n : Nat) (f : Int → Option Value)
    (hm : a.eval m = .map (some b)) (h : MapAt w b n f) (x : Int) (hx : a.eval k = .int .i64 x) (hwf : (Lit.int .i64 x).wf = true) (u : Value) (hu : (f x).getD z = u)
    (hK : wpList Try.prog ops Q rest (a.put o.dst u) w) : wpList Try.prog ops Q (o :: rest) a w := by
  refine wpList_plain hg fun K' hK' => ?_
  have hrun := (h.look ht hz hwf).1
  rw [hu] at hrun
  unfold Oper.wp
  simp [execOp, hop, hm, hx, hrun, Result.andThen]
  exact hK' _ _ hK
theorem wpList_look_ok_at (hg : o.guard = none) (m k : Operand) (t : TypeId) (hop : o.op = Op.lookup t m k true) (e : TypeId) (ht : Try.prog.underlying t = some (.map 3 e)) (z : Value) (hz : (zeroValue e).run Try.prog w = .ok z w) (b n : Nat) (f : Int → Option Value)
    (hm : a.eval m = .map (some b)) (h : MapAt w b n f) (x : Int) (hx : a.eval k = .int .i64 x) (hwf : (Lit.int .i64 x).wf = true) (u : Value) (hu : (f x).getD z = u) (r : Bool) (hr : (f x).isSome = r)
    (hK : wpList Try.prog ops Q rest (a.put o.dst (.tuple #[u, .bool r])) w) : wpList Try.prog ops Q (o :: rest) a w := by
  refine wpList_plain hg fun K' hK' => ?_
  have hrun := (h.look ht hz hwf).2
  rw [hu, hr] at hrun
  unfold Oper.wp
  simp [execOp, hop, hm, hx, hrun, Result.andThen]
  exact hK' _ _ hK
/-- 'm[x] = v'. -/
theorem MapAt.store {w : World} {b n : Nat} {f : Int → Option Value} (h : MapAt w b n f) {t e : TypeId} (ht : Try.prog.underlying t = some (.map 3 e)) (hn : n < maxLen) {x : Int} (hx : (Lit.int .i64 x).wf = true) (v : Value) :
    ∃ w', (Instr.mapUpdate t (.map (some b)) (.int .i64 x) v).run Try.prog w = .ok () w' ∧ MapAt w' b (n + 1) (fun y => if y = x then some v else f y) ∧ w.grownBy w' (some b) ∧ w'.heap.size = w.heap.size := by
  obtain ⟨D, hD, hf⟩ := h
  obtain ⟨w', h1, h2, h3⟩ := hD.store key_law ht hn (Maps.keyOf_int_mk Try.underlying3 hx) (show selfElem v = some (.held v, []) from rfl)
  refine ⟨w', h1, ⟨_, h2, hf.put hD.isMap x v⟩, h3.grown, ?_⟩
  obtain ⟨es, clock, es', clock', hb, rfl⟩ := h3
  simp [ChangeMaps.setBlock]
theorem wpList_put_at (hg : o.guard = none) (m k v : Operand) (t : TypeId) (hop : o.op = Op.mapUpdate t m k v) (e : TypeId) (ht : Try.prog.underlying t = some (.map 3 e)) (b n : Nat) (f : Int → Option Value)
    (hm : a.eval m = .map (some b)) (h : MapAt w b n f) (hn : n < maxLen) (x : Int) (hx : a.eval k = .int .i64 x) (hwf : (Lit.int .i64 x).wf = true)
    (hK : ∀ w', MapAt w' b (n + 1) (fun y => if y = x then some (a.eval v) else f y) → w.grownBy w' (some b) → w'.heap.size = w.heap.size → wpList Try.prog ops Q rest (a.put o.dst undef) w') : wpList Try.prog ops Q (o :: rest) a w := by
  refine wpList_plain hg fun K' hK' => ?_
  obtain ⟨w', hrun, r1, r2, r3⟩ := h.store ht hn hwf (a.eval v)
  unfold Oper.wp
  simp [execOp, hop, hm, hx, hrun, Result.andThen]
  exact hK' _ _ (hK w' r1 r2 r3)
/-- The same in a region that draws its order. -/
theorem step_put_at {w : World} {K : Act → World → Prop} {E : Prop} (hg : o.guard = none) (m k v : Operand) (t : TypeId) (hop : o.op = Op.mapUpdate t m k v) (e : TypeId) (ht : Try.prog.underlying t = some (.map 3 e)) (b n : Nat) (f : Int → Option Value)
    (hm : a.eval m = .map (some b)) (h : MapAt w b n f) (hn : n < maxLen) (x : Int) (hx : a.eval k = .int .i64 x) (hwf : (Lit.int .i64 x).wf = true) (val : Value) (hv : a.eval v = val)
    (hK : ∀ w', MapAt w' b (n + 1) (fun y => if y = x then some val else f y) → w.grownBy w' (some b) → w'.heap.size = w.heap.size → K (a.put o.dst undef) w') :
    if Region.wanted o (yielded ops a.tmps) = true then Oper.wp Try.prog o a w K Q else E := by
  have hw : Region.wanted o (yielded ops a.tmps) = true := by simp [Region.wanted, hg]
  rw [if_pos hw]
  obtain ⟨w', hrun, r1, r2, r3⟩ := h.store ht hn hwf val
  unfold Oper.wp
  simp [execOp, hop, hm, hx, hv, hrun, Result.andThen]
  exact hK w' r1 r2 r3
/-- 'delete(m, x)'. -/
theorem MapAt.drop {w : World} {b n : Nat} {f : Int → Option Value} (h : MapAt w b n f) {t e : TypeId} (ht : Try.prog.underlying t = some (.map 3 e)) {x : Int} (hx : (Lit.int .i64 x).wf = true) (ty : TypeId) :
    ∃ w', (Builtin.delete_ #[t, 3] ty #[.map (some b), .int .i64 x]).run Try.prog w = .ok (.tuple #[]) w' ∧ MapAt w' b n (fun y => if y = x then none else f y) ∧ w.grownBy w' (some b) ∧ w'.heap.size = w.heap.size := by
  obtain ⟨D, hD, hf⟩ := h
  obtain ⟨w', h1, h2, h3⟩ := hD.drop key_law ht (Maps.keyOf_int_mk Try.underlying3 hx) ty
  refine ⟨w', h1, ⟨_, h2, hf.del (hD.tidy key_law) x⟩, h3.grown, ?_⟩
  obtain ⟨es, clock, es', clock', hb, rfl⟩ := h3
  simp [ChangeMaps.setBlock]
theorem wpList_delete_at (hg : o.guard = none) (m k : Operand) (t : TypeId) (hop : o.op = Op.call { callee := Callee.builtin Builtin.delete, args := #[m, k], argTypes := #[t, 3] }) (e : TypeId) (ht : Try.prog.underlying t = some (.map 3 e)) (b n : Nat) (f : Int → Option Value)
    (hm : a.eval m = .map (some b)) (h : MapAt w b n f) (x : Int) (hx : a.eval k = .int .i64 x) (hwf : (Lit.int .i64 x).wf = true)
    (hK : ∀ w', MapAt w' b n (fun y => if y = x then none else f y) → w.grownBy w' (some b) → w'.heap.size = w.heap.size → wpList Try.prog ops Q rest (a.put o.dst (.tuple #[])) w') : wpList Try.prog ops Q (o :: rest) a w := by
  refine wpList_plain hg fun K' hK' => ?_
  obtain ⟨w', hrun, r1, r2, r3⟩ := h.drop ht hwf o.type
  unfold Oper.wp
  simp [execOp, hop, resolve, invoke, builtin, hm, hx, hrun, Result.andThen]
  exact hK' _ _ (hK w' r1 r2 r3)
/-- 'len(m)': how many keys there are. -/
theorem keys_count {D : DataW Value} {f : Int → Option Value} {b n : Nat} {w : World} (hD : w.ownsMap Try.prog 3 selfElem b n D) (hf : HoldsV D f) {l : List Int} (hl : l.Nodup) (hm : ∀ x, x ∈ l ↔ (f x).isSome = true) : Maps.size D = l.length := by
  obtain ⟨es, rfl, hp, hk⟩ := hD.entries key_law
  have hint : ∀ p ∈ es, ∃ x : Int, p.1 = .int .i64 x := by
    intro p hpm
    obtain ⟨es0, clock, hb, F, hs, hD0⟩ := hD
    injection hD0 with hD0
    rw [hD0] at hpm
    obtain ⟨x, hx, rfl⟩ := List.mem_map.1 (mem_sorted.1 hpm)
    obtain ⟨y, hy⟩ := F.reads x hx
    obtain ⟨z, _, e, _⟩ := Maps.keyOf_int_inv Try.underlying3 (WideElems.rd_key hy)
    exact ⟨z, by rw [WideElems.rg_of hy]; exact e⟩
  have hmem : ∀ x : Int, x ∈ l ↔ (.int .i64 x) ∈ es.map Prod.fst := by
    intro x
    rw [hm x, ← (hf x).2]
    show es.any (fun p => p.1.sameKey (.int .i64 x)) = true ↔ _
    rw [List.any_eq_true, List.mem_map]
    constructor
    · rintro ⟨p, h1, h2⟩
      obtain ⟨y, hy⟩ := hint p h1
      rw [hy, same_key_int, decide_eq_true_eq] at h2
      exact ⟨p, h1, by rw [hy, h2]⟩
    · rintro ⟨p, h1, h2⟩
      exact ⟨p, h1, by rw [h2, same_key_int]; simp⟩
  have hnd : (es.map Prod.fst).Nodup := by
    unfold List.Nodup
    rw [List.pairwise_map]
    exact hp
  have hperm : (l.map (Lit.int .i64)).Perm (es.map Prod.fst) := by
    refine (List.perm_ext_iff_of_nodup ?_ hnd).2 ?_
    · unfold List.Nodup
      rw [List.pairwise_map]
      exact hl.imp (fun h e => h (by injection e))
    · intro k
      rw [List.mem_map]
      constructor
      · rintro ⟨x, hx, rfl⟩; exact (hmem x).1 hx
      · intro hk
        obtain ⟨p, hp1, rfl⟩ := List.mem_map.1 hk
        obtain ⟨y, hy⟩ := hint p hp1
        exact ⟨y, (hmem y).2 (by rw [← hy]; exact List.mem_map.2 ⟨p, hp1, rfl⟩), hy.symm⟩
  have := hperm.length_eq
  rw [List.length_map, List.length_map] at this
  show es.length = l.length
  omega
theorem wpList_len_at (hg : o.guard = none) (m : Operand) (t : TypeId) (hop : o.op = Op.call { callee := Callee.builtin Builtin.len, args := #[m], argTypes := #[t] }) (e : TypeId) (ht : Try.prog.underlying t = some (.map 3 e)) (b n : Nat) (f : Int → Option Value)
    (hm : a.eval m = .map (some b)) (h : MapAt w b n f) (l : List Int) (hl : l.Nodup) (hlm : ∀ x, x ∈ l ↔ (f x).isSome = true)
    (hK : wpList Try.prog ops Q rest (a.put o.dst (.int .i64 (l.length : Int))) w) : wpList Try.prog ops Q (o :: rest) a w := by
  obtain ⟨D, hD, hf⟩ := h
  refine wpList_len_own w hg m t hop 3 e ht selfElem b n D hm hD ?_
  rw [keys_count hD hf hl hlm]
  exact hK
end
end Go.Proofs.Ytnoooeeciebhfaa
