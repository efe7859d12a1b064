/- The keys of a set that is ranged over, collected. No condition. -/
import Derived.Test.YtkjaacpcnjakcaaSome
import Derived.Maps.RangeWalk
set_option linter.unusedVariables false
namespace Go.Proofs.Ytkjaacpcnjakcaa
open Go.RowKit Go.Maps

def setD (l : List Int) : DataW Unit := Maps.setOf (.agg []) (l.map (Lit.int .i64))
/-- The range over a set under way. -/
def SetRange (w : World) (b r n : Nat) (l : List Int) (left : Lit → Bool) (cnt : Nat) : Prop := w.ranges (H := Unit) Try.prog 3 unitElem b r n (setD l) left cnt
theorem SetRange.set {w : World} {b r n : Nat} {l : List Int} {left : Lit → Bool} {cnt : Nat} (h : SetRange w b r n l left cnt) : SetAt w b n l := World.ranges.owns h
theorem SetRange.keeps {w w' : World} {b r n : Nat} {l : List Int} {left : Lit → Bool} {cnt : Nat} (h : SetRange w b r n l left cnt) {row : Option Nat} (hg : w.grownBy w' row) (hb : some b ≠ row) (hr : some r ≠ row) : SetRange w' b r n l left cnt := World.ranges.kept h hg hb hr
theorem SetRange.alloc {w : World} {b r n : Nat} {l : List Int} {left : Lit → Bool} {cnt : Nat} (h : SetRange w b r n l left cnt) (o : Obj) : SetRange (w.alloc o) b r n l left cnt := World.ranges.alloc h o
/-- What was collected: of the keys those that are no longer to come, none twice. -/
def Coll (l : List Int) (left : Lit → Bool) (ss : List Int) : Prop := ss.Nodup ∧ ∀ x, x ∈ ss ↔ (x ∈ l ∧ left (.int .i64 x) = false)
theorem Coll.start (l : List Int) : Coll l (Maps.has (setD l)) [] := ⟨List.nodup_nil, fun x => by
  have := set_has l x
  unfold setD
  rw [this]
  simp⟩
theorem Coll.step {l : List Int} {left : Lit → Bool} {ss : List Int} {x : Int} (h : Coll l left ss) (hl : left (.int .i64 x) = true) (hx : x ∈ l) : Coll l (fun z => left z && !z.sameKey (.int .i64 x)) (ss ++ [x]) := by
  have hn : x ∉ ss := fun hm => by have := ((h.2 x).1 hm).2; rw [hl] at this; cases this
  refine ⟨List.nodup_append.2 ⟨h.1, by simp, fun a ha b hb => by rw [List.mem_singleton.1 hb]; exact fun e => hn (e ▸ ha)⟩, fun y => ?_⟩
  rw [List.mem_append, List.mem_singleton, h.2 y]
  show _ ↔ y ∈ l ∧ (left (.int .i64 y) && !(Lit.int .i64 y).sameKey (.int .i64 x)) = false
  rw [same_key_int]
  by_cases e : y = x
  · subst e; simp [hx]
  · simp [e]
theorem Coll.end_ {l : List Int} {left : Lit → Bool} {ss : List Int} (h : Coll l left ss) (hl : ∀ kl, left kl = false) : ss.Nodup ∧ ∀ x, x ∈ ss ↔ x ∈ l := ⟨h.1, fun x => by rw [h.2 x, hl]; simp⟩
/-- 'range m', m a set. -/
theorem wpList_range_set (w : World) {ops : Array Oper} {rest : List Oper} {o : Oper} {a : Act} {Q : Exit → Act → World → Prop} (hg : o.guard = none) (m : Operand) (t : TypeId) (hop : o.op = Op.range t m) (ht : Try.prog.underlying t = some (.map 3 73)) (b n : Nat) (l : List Int)
    (hm : a.eval m = .map (some b)) (hown : SetAt w b n l)
    (hK : ∀ w' cnt, SetRange w' b w.heap.size n l (Maps.has (setD l)) cnt → cnt ≤ n → w.grownBy w' none → w'.heap.size = w.heap.size + 1 → wpList Try.prog ops Q rest (a.put o.dst (.pointer (some ⟨w.heap.size, 0, none⟩))) w') :
    wpList Try.prog ops Q (o :: rest) a w :=
  wpList_range_own w hg m t hop 3 73 key_law ht unitElem b n _ hm hown (fun w' h1 h2 h3 => hK w' _ h1 (World.ownsMap.size_le hown) h2 h3)
/-- The step. -/
theorem wpList_next_set (w : World) {ops : Array Oper} {rest : List Oper} {o : Oper} {a : Act} {Q : Exit → Act → World → Prop} (hg : o.guard = none) (it : Operand) (hop : o.op = Op.next it false) (b r n : Nat) (l : List Int) (left : Lit → Bool) (cnt : Nat)
    (hit : a.eval it = .pointer (some ⟨r, 0, none⟩)) (h : SetRange w b r n l left cnt)
    (hDone : cnt = 0 → (∀ kl, left kl = false) → wpList Try.prog ops Q rest (a.put o.dst (.tuple #[.bool false])) w)
    (hMore : ∀ (x : Int) (w' : World) (cnt' : Nat), (Lit.int .i64 x).wf = true → left (.int .i64 x) = true → x ∈ l → SetRange w' b r n l (fun z => left z && !z.sameKey (.int .i64 x)) cnt' → cnt' < cnt → w.grownBy w' (some r) → w'.heap.size = w.heap.size →
      (Instr.entry (.pointer (some ⟨r, 0, none⟩))).run Try.prog w' = .ok (.tuple #[.int .i64 x, .agg #[]]) w' → wpList Try.prog ops Q rest (a.put o.dst (.tuple #[.bool true, .int .i64 x, .agg #[]])) w') :
    wpList Try.prog ops Q (o :: rest) a w :=
  wpList_next_ranges (α := Int) (β := Unit) w hg it hop 3 key_law unitElem (Value.int .i64) (fun _ => .agg #[]) (fun key kl hkey => by obtain ⟨x, rfl, _⟩ := Maps.keyOf_int_inv Try.underlying3 hkey; exact ⟨x, rfl⟩)
    (fun v y hv => ⟨(), (unitElem_inv hv).1⟩) b r n (setD l) left cnt hit h hDone (fun x c kl y w' cnt' hkey hlk hv hat hrg hlt hgr hsz hen => by
      obtain ⟨x', ex, rfl, hwx⟩ := Maps.keyOf_int_inv Try.underlying3 hkey
      cases ex
      have hx : x ∈ l := by
        have h1 := Maps.has_true_of_atKey hat
        unfold setD at h1
        rw [set_has] at h1
        simpa using h1
      exact hMore x w' cnt' hwx hlk hx hrg hlt hgr hsz hen)
theorem SetRange.left_eq {w : World} {b r n : Nat} {l : List Int} {left : Lit → Bool} {cnt : Nat} (h : SetRange w b r n l left cnt) : w.rangeLeft b r = cnt := World.ranges.left_eq h
theorem SetRange.ne_iter {w : World} {b r n : Nat} {l : List Int} {left : Lit → Bool} {cnt : Nat} (h : SetRange w b r n l left cnt) {base : Nat} {q : IntKind} {e : TypeId} {v : Value} {xs : List Int} (ho : OwnInts w base q e v xs) : some r ≠ v.ownBlock := by
  obtain ⟨es, clock, since, seen, c0, hb, F, hs, hD, hr, _⟩ := h
  rcases ho.2 with ⟨rfl, _⟩ | ⟨g, cap, cur, rfl, _, hg, _⟩
  · simp [Value.ownBlock]
  · intro e1
    have : r = g := by simpa [Value.ownBlock] using e1
    subst this
    rw [hr] at hg; cases hg
/-- How many a set has that was put once each. -/
theorem setD_size (l : List Int) (hd : l.Nodup) : Maps.size (setD l) = l.length := by
  unfold setD
  rw [Maps.size_setOf _ _ (fun y hy => by obtain ⟨a, _, rfl⟩ := List.mem_map.1 hy; trivial)]
  suffices H : ∀ (l acc : List Int), (acc ++ l).Nodup → ((l.map (Lit.int .i64)).foldl Maps.addKey (acc.map (Lit.int .i64))) = (acc ++ l).map (Lit.int .i64) by
    have := H l [] (by simpa using hd)
    simp only [List.map_nil, List.nil_append] at this
    rw [this, List.length_map]
  intro l
  induction l with
  | nil => intro acc _; simp
  | cons x l ih =>
    intro acc hn
    have hx : x ∉ acc := by
      intro hm
      rw [List.nodup_append] at hn
      exact hn.2.2 x hm x (by simp) rfl
    have e1 : Maps.addKey (acc.map (Lit.int .i64)) (.int .i64 x) = (acc ++ [x]).map (Lit.int .i64) := by
      unfold Maps.addKey
      rw [if_neg, List.map_append]; rfl
      rw [List.any_eq_true]
      rintro ⟨y, hy, h⟩
      obtain ⟨a, ha, rfl⟩ := List.mem_map.1 hy
      rw [same_key_int, decide_eq_true_eq] at h
      exact hx (h ▸ ha)
    rw [List.map_cons, List.foldl_cons, e1, ih (acc ++ [x]) (by simpa using hn)]
    simp
end Go.Proofs.Ytkjaacpcnjakcaa
