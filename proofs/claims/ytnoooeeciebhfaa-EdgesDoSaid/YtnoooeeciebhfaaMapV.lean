/- A map value, nil or not, as a function from keys to values; its keys ranged over. No condition. -/
import Derived.Test.YtnoooeeciebhfaaMapAt
set_option linter.unusedVariables false
namespace Go.Proofs.Ytnoooeeciebhfaa
open Go.RowKit Go.Maps

/-- A set's content. -/
def setV (s : Int → Bool) : Int → Option Value := fun x => if s x then some (.agg #[]) else none
theorem setV_some (s : Int → Bool) (x : Int) : (setV s x).isSome = s x := by unfold setV; cases s x <;> rfl
theorem setV_put (s : Int → Bool) (x : Int) : (fun y => if y = x then some (Value.agg #[]) else setV s y) = setV (fun y => decide (y = x) || s y) := by
  funext y
  unfold setV
  by_cases h : y = x <;> simp [h]
theorem setV_del (s : Int → Bool) (x : Int) : (fun y => if y = x then none else setV s y) = setV (fun y => !decide (y = x) && s y) := by
  funext y
  unfold setV
  by_cases h : y = x <;> simp [h]
theorem setV_none : (fun _ => none) = setV (fun _ => false) := by funext y; rfl
/-- A map value that holds f. -/
def MapV (w : World) (v : Value) (n : Nat) (f : Int → Option Value) : Prop := (v = .map none ∧ f = fun _ => none) ∨ ∃ b, v = .map (some b) ∧ MapAt w b n f
theorem MapV.nil (w : World) (n : Nat) : MapV w (.map none) n (fun _ => none) := .inl ⟨rfl, rfl⟩
theorem MapV.of {w : World} {b n : Nat} {f : Int → Option Value} (h : MapAt w b n f) : MapV w (.map (some b)) n f := .inr ⟨b, rfl, h⟩
theorem MapV.keepsB {w w1 : World} {v : Value} {n : Nat} {f : Int → Option Value} (h : MapV w v n f) (hk : Keeps NoB w w1) : MapV w1 v n f := by
  rcases h with h | ⟨b, h1, h2⟩
  · exact .inl h
  · exact .inr ⟨b, h1, h2.keeps hk (fun h => h)⟩
/-- Its keys. -/
theorem MapAt.listed {w : World} {b n : Nat} {f : Int → Option Value} (h : MapAt w b n f) : ∃ l : List Int, l.Nodup ∧ ∀ x, x ∈ l ↔ (f x).isSome = true := by
  obtain ⟨D, hD, hf⟩ := h
  obtain ⟨es, rfl, hp, hk⟩ := hD.entries key_law
  have hint : ∀ p ∈ es, ∃ x : Int, p.1 = .int .i64 x := by
    intro p hpm
    obtain ⟨es0, clock, hb, F, hs, hD0⟩ := hD
    injection hD0 with hD0
    rw [hD0] at hpm
    obtain ⟨x, hx, rfl⟩ := List.mem_map.1 (mem_sorted.1 hpm)
    obtain ⟨y, hy⟩ := F.reads x hx
    obtain ⟨z, _, e, _⟩ := Maps.keyOf_int_inv Try.underlying3 (WideElems.rd_key hy)
    exact ⟨z, by rw [WideElems.rg_of hy]; exact e⟩
  let g : Lit → Int := fun k => match k with | .int _ x => x | _ => 0
  have hg : ∀ p ∈ es, p.1 = .int .i64 (g p.1) := fun p hp => by obtain ⟨x, hx⟩ := hint p hp; rw [hx]
  refine ⟨es.map (fun p => g p.1), ?_, fun x => ?_⟩
  · unfold List.Nodup
    rw [List.pairwise_map]
    refine hp.imp_of_mem ?_
    intro p q hp1 hq1 hne e
    exact hne (by rw [hg p hp1, hg q hq1, e])
  · rw [← (hf x).2, List.mem_map]
    show _ ↔ es.any (fun p => p.1.sameKey (.int .i64 x)) = true
    rw [List.any_eq_true]
    constructor
    · rintro ⟨p, h1, h2⟩
      exact ⟨p, h1, by rw [hg p h1, same_key_int, decide_eq_true_eq]; exact h2⟩
    · rintro ⟨p, h1, h2⟩
      refine ⟨p, h1, ?_⟩
      rw [hg p h1, same_key_int, decide_eq_true_eq] at h2
      exact h2
theorem MapV.listed {w : World} {v : Value} {n : Nat} {f : Int → Option Value} (h : MapV w v n f) : ∃ l : List Int, l.Nodup ∧ ∀ x, x ∈ l ↔ (f x).isSome = true := by
  rcases h with ⟨_, rfl⟩ | ⟨b, _, h⟩
  · exact ⟨[], List.nodup_nil, fun x => by simp⟩
  · exact h.listed
section
variable (w : World) {ops : Array Oper} {rest : List Oper} {o : Oper} {a : Act} {Q : Exit → Act → World → Prop}
theorem wpList_look_v (hg : o.guard = none) (m k : Operand) (t : TypeId) (hop : o.op = Op.lookup t m k false) (e : TypeId) (ht : Try.prog.underlying t = some (.map 3 e)) (z : Value) (hz : (zeroValue e).run Try.prog w = .ok z w) (v : Value) (n : Nat) (f : Int → Option Value)
    (hm : a.eval m = v) (h : MapV w v n f) (x : Int) (hx : a.eval k = .int .i64 x) (hwf : (Lit.int .i64 x).wf = true) (u : Value) (hu : (f x).getD z = u)
    (hK : wpList Try.prog ops Q rest (a.put o.dst u) w) : wpList Try.prog ops Q (o :: rest) a w := by
  rcases h with ⟨rfl, rfl⟩ | ⟨b, rfl, h⟩
  · refine wpList_plain hg fun K' hK' => ?_
    have hrun := Maps.look_nil (w := w) false key_law ht hz (Maps.keyOf_int_mk Try.underlying3 hwf)
    have hu : z = u := hu
    subst hu
    unfold Oper.wp
    simp [execOp, hop, hm, hx, hrun, Result.andThen]
    exact hK' _ _ hK
  · exact wpList_look_at w hg m k t hop e ht z hz b n f hm h x hx hwf u hu hK
theorem wpList_look_ok_v (hg : o.guard = none) (m k : Operand) (t : TypeId) (hop : o.op = Op.lookup t m k true) (e : TypeId) (ht : Try.prog.underlying t = some (.map 3 e)) (z : Value) (hz : (zeroValue e).run Try.prog w = .ok z w) (v : Value) (n : Nat) (f : Int → Option Value)
    (hm : a.eval m = v) (h : MapV w v n f) (x : Int) (hx : a.eval k = .int .i64 x) (hwf : (Lit.int .i64 x).wf = true) (u : Value) (hu : (f x).getD z = u) (r : Bool) (hr : (f x).isSome = r)
    (hK : wpList Try.prog ops Q rest (a.put o.dst (.tuple #[u, .bool r])) w) : wpList Try.prog ops Q (o :: rest) a w := by
  rcases h with ⟨rfl, rfl⟩ | ⟨b, rfl, h⟩
  · refine wpList_plain hg fun K' hK' => ?_
    have hrun := Maps.look_nil (w := w) true key_law ht hz (Maps.keyOf_int_mk Try.underlying3 hwf)
    have hu : z = u := hu
    have hr : false = r := hr
    subst hu hr
    unfold Oper.wp
    simp [execOp, hop, hm, hx, hrun, Result.andThen]
    exact hK' _ _ hK
  · exact wpList_look_ok_at w hg m k t hop e ht z hz b n f hm h x hx hwf u hu r hr hK
theorem wpList_len_v (hg : o.guard = none) (m : Operand) (t : TypeId) (hop : o.op = Op.call { callee := Callee.builtin Builtin.len, args := #[m], argTypes := #[t] }) (e : TypeId) (ht : Try.prog.underlying t = some (.map 3 e)) (v : Value) (n : Nat) (f : Int → Option Value)
    (hm : a.eval m = v) (h : MapV w v n f) (l : List Int) (hl : l.Nodup) (hlm : ∀ x, x ∈ l ↔ (f x).isSome = true)
    (hK : wpList Try.prog ops Q rest (a.put o.dst (.int .i64 (l.length : Int))) w) : wpList Try.prog ops Q (o :: rest) a w := by
  rcases h with ⟨rfl, rfl⟩ | ⟨b, rfl, h⟩
  · refine wpList_plain hg fun K' hK' => ?_
    have hrun := Maps.len_nil (w := w) ht o.type
    have hl0 : l = [] := List.eq_nil_iff_forall_not_mem.2 (fun x hx => by have := (hlm x).1 hx; simp at this)
    subst hl0
    unfold Oper.wp
    simp [execOp, hop, resolve, invoke, builtin, hm, hrun, Result.andThen]
    exact hK' _ _ hK
  · exact wpList_len_at w hg m t hop e ht b n f hm h l hl hlm hK
theorem held_of {o : Option Value} {c : Value} (h1 : (match o with | some v => (DataW.held v : DataW Value) | none => .held (.int .i64 0)) = .held c) (h2 : (match o with | some v => (DataW.held v : DataW Value) | none => .held (.int .i64 1)) = .held c) : o = some c := by
  cases o with
  | none =>
    have h3 := h1.trans h2.symm
    injection h3 with h3
    injection h3 with _ h3
    cases h3
  | some u =>
    injection h1 with h1
    rw [h1]
/-- The range over a map under way. -/
def AtRange (w : World) (b r n : Nat) (f : Int → Option Value) (left : Lit → Bool) (cnt : Nat) : Prop := ∃ D, w.ranges (H := Value) Try.prog 3 selfElem b r n D left cnt ∧ HoldsV D f
theorem AtRange.keeps {w w' : World} {b r n : Nat} {f : Int → Option Value} {left : Lit → Bool} {cnt : Nat} (h : AtRange w b r n f left cnt) {row : Option Nat} (hg : w.grownBy w' row) (hb : some b ≠ row) (hr : some r ≠ row) : AtRange w' b r n f left cnt := by
  obtain ⟨D, h, hf⟩ := h
  exact ⟨D, World.ranges.kept h hg hb hr, hf⟩
theorem AtRange.alloc {w : World} {b r n : Nat} {f : Int → Option Value} {left : Lit → Bool} {cnt : Nat} (h : AtRange w b r n f left cnt) (o : Obj) : AtRange (w.alloc o) b r n f left cnt := by
  obtain ⟨D, h, hf⟩ := h
  exact ⟨D, World.ranges.alloc h o, hf⟩
theorem AtRange.at {w : World} {b r n : Nat} {f : Int → Option Value} {left : Lit → Bool} {cnt : Nat} (h : AtRange w b r n f left cnt) : MapAt w b n f := by
  obtain ⟨D, h, hf⟩ := h
  exact ⟨D, World.ranges.owns h, hf⟩
theorem AtRange.left_eq {w : World} {b r n : Nat} {f : Int → Option Value} {left : Lit → Bool} {cnt : Nat} (h : AtRange w b r n f left cnt) : w.rangeLeft b r = cnt := by
  obtain ⟨D, h, hf⟩ := h
  exact World.ranges.left_eq h
theorem AtRange.ne_iter {w : World} {b r n : Nat} {f : Int → Option Value} {left : Lit → Bool} {cnt : Nat} (h : AtRange w b r n f left cnt) {base sz m : Nat} {e : TypeId} {v : Value} {xs : List Value} (ho : w.ownsRow base e sz v m xs) : some r ≠ v.ownBlock := by
  obtain ⟨D, ⟨es, clock, since, seen, c0, hb, F, hs, hD, hr, _⟩, hf⟩ := h
  rcases ho.2 with ⟨rfl, _⟩ | ⟨g, cap, cur, rfl, _, hg, _⟩
  · simp [Value.ownBlock]
  · intro e1
    have : r = g := by simpa [Value.ownBlock] using e1
    subst this
    rw [hr] at hg; cases hg
/-- What was collected: of the keys those that are no longer to come, none twice. -/
def CollF (f : Int → Option Value) (left : Lit → Bool) (ss : List Int) : Prop := ss.Nodup ∧ (∀ x, x ∈ ss ↔ ((f x).isSome = true ∧ left (.int .i64 x) = false)) ∧ ∀ x ∈ ss, (Lit.int .i64 x).wf = true
theorem CollF.step {f : Int → Option Value} {left : Lit → Bool} {ss : List Int} {x : Int} (h : CollF f left ss) (hl : left (.int .i64 x) = true) (hx : (f x).isSome = true) (hw : (Lit.int .i64 x).wf = true) : CollF f (fun z => left z && !z.sameKey (.int .i64 x)) (ss ++ [x]) := by
  have hn : x ∉ ss := fun hm => by have := ((h.2.1 x).1 hm).2; rw [hl] at this; cases this
  refine ⟨List.nodup_append.2 ⟨h.1, by simp, fun a ha b hb => by rw [List.mem_singleton.1 hb]; exact fun e => hn (e ▸ ha)⟩, fun y => ?_, fun y hy => ?_⟩
  · rw [List.mem_append, List.mem_singleton, h.2.1 y]
    show _ ↔ (f y).isSome = true ∧ (left (.int .i64 y) && !(Lit.int .i64 y).sameKey (.int .i64 x)) = false
    rw [same_key_int]
    by_cases e : y = x
    · subst e; simp [hx]
    · simp [e]
  · rcases List.mem_append.1 hy with hy | hy
    · exact h.2.2 y hy
    · rw [List.mem_singleton.1 hy]; exact hw
theorem CollF.end_ {f : Int → Option Value} {left : Lit → Bool} {ss : List Int} (h : CollF f left ss) (hl : ∀ kl, left kl = false) : ss.Nodup ∧ (∀ x, x ∈ ss ↔ (f x).isSome = true) ∧ ∀ x ∈ ss, (Lit.int .i64 x).wf = true := ⟨h.1, fun x => by rw [h.2.1 x, hl]; simp, h.2.2⟩
/-- 'range m'. -/
theorem wpList_range_at (hg : o.guard = none) (m : Operand) (t : TypeId) (hop : o.op = Op.range t m) (e : TypeId) (ht : Try.prog.underlying t = some (.map 3 e)) (b n : Nat) (f : Int → Option Value)
    (hm : a.eval m = .map (some b)) (hown : MapAt w b n f)
    (hK : ∀ w' left cnt, AtRange w' b w.heap.size n f left cnt → CollF f left [] → cnt ≤ n → w.grownBy w' none → w'.heap.size = w.heap.size + 1 → wpList Try.prog ops Q rest (a.put o.dst (.pointer (some ⟨w.heap.size, 0, none⟩))) w') :
    wpList Try.prog ops Q (o :: rest) a w := by
  obtain ⟨D, hD, hf⟩ := hown
  exact wpList_range_own w hg m t hop 3 e key_law ht selfElem b n D hm hD (fun w' h1 h2 h3 => hK w' _ _ ⟨D, h1, hf⟩ ⟨List.nodup_nil, fun x => ⟨(fun h => by cases h), (fun h => by have h1 := h.1; have h2 := h.2; rw [(hf x).2, h1] at h2; cases h2)⟩, fun x hx => by cases hx⟩ (World.ownsMap.size_le hD) h2 h3)
/-- The step. -/
theorem wpList_next_at (hg : o.guard = none) (it : Operand) (hop : o.op = Op.next it false) (b r n : Nat) (f : Int → Option Value) (left : Lit → Bool) (cnt : Nat)
    (hit : a.eval it = .pointer (some ⟨r, 0, none⟩)) (h : AtRange w b r n f left cnt)
    (hDone : cnt = 0 → (∀ kl, left kl = false) → wpList Try.prog ops Q rest (a.put o.dst (.tuple #[.bool false])) w)
    (hMore : ∀ (x : Int) (u : Value) (w' : World) (cnt' : Nat), (Lit.int .i64 x).wf = true → left (.int .i64 x) = true → f x = some u → AtRange w' b r n f (fun z => left z && !z.sameKey (.int .i64 x)) cnt' → cnt' < cnt → w.grownBy w' (some r) → w'.heap.size = w.heap.size →
      (Instr.entry (.pointer (some ⟨r, 0, none⟩))).run Try.prog w' = .ok (.tuple #[.int .i64 x, u]) w' → wpList Try.prog ops Q rest (a.put o.dst (.tuple #[.bool true, .int .i64 x, u])) w') :
    wpList Try.prog ops Q (o :: rest) a w := by
  obtain ⟨D, hD, hf⟩ := h
  exact wpList_next_ranges (α := Int) (β := Value) w hg it hop 3 key_law selfElem (Value.int .i64) (fun v => v) (fun key kl hkey => by obtain ⟨x, rfl, _⟩ := Maps.keyOf_int_inv Try.underlying3 hkey; exact ⟨x, rfl⟩)
    (fun v y hv => ⟨v, rfl⟩) b r n D left cnt hit hD hDone (fun x c kl y w' cnt' hkey hlk hv hat hrg hlt hgr hsz hen => by
      obtain ⟨x', ex, rfl, hwx⟩ := Maps.keyOf_int_inv Try.underlying3 hkey
      cases ex
      have hfx : f x = some c := by
        have hy : y = (DataW.held c, ([] : List MemPlace)) := (Option.some.inj (show some (DataW.held c, ([] : List MemPlace)) = some y from hv)).symm
        have h1 := hat (.held (.int .i64 0))
        have h2 := hat (.held (.int .i64 1))
        rw [(hf x).1, hy] at h1 h2
        exact held_of h1 h2
      exact hMore x c w' cnt' hwx hlk hfx ⟨D, hrg, hf⟩ hlt hgr hsz hen)
/-- 'range' over a nil map, and its step. -/
theorem wpList_range_nil (hg : o.guard = none) (m : Operand) (t : TypeId) (hop : o.op = Op.range t m) (e : TypeId) (ht : Try.prog.underlying t = some (.map 3 e)) (hm : a.eval m = .map none)
    (hK : wpList Try.prog ops Q rest (a.put o.dst (.pointer (some ⟨w.heap.size, 0, none⟩))) (w.alloc (.mapIter none 0 #[] 0))) : wpList Try.prog ops Q (o :: rest) a w := by
  refine wpList_plain hg fun K' hK' => ?_
  have hrun := run_range_nilMap w t 3 e ht
  unfold Oper.wp
  simp [execOp, hop, hm, hrun, Result.andThen]
  exact hK' _ _ hK
theorem wpList_next_nil (hg : o.guard = none) (it : Operand) (hop : o.op = Op.next it false) (r : Nat) (hit : a.eval it = .pointer (some ⟨r, 0, none⟩)) (h : w.heap[r]? = some (.mapIter none 0 #[] 0))
    (hK : wpList Try.prog ops Q rest (a.put o.dst (.tuple #[.bool false])) w) : wpList Try.prog ops Q (o :: rest) a w := by
  refine wpList_plain hg fun K' hK' => ?_
  have hrun : (Instr.next (.pointer (some ⟨r, 0, none⟩)) false o.type).run Try.prog w = .ok (.tuple #[.bool false]) w := by
    simp only [Instr.next, getObj, Sem.run_bind, Sem.run, h, Result.andThen]
    rfl
  unfold Oper.wp
  simp [execOp, hop, hit, hrun, Result.andThen]
  exact hK' _ _ hK
end
end Go.Proofs.Ytnoooeeciebhfaa
