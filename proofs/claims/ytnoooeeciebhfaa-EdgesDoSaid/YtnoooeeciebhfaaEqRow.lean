/- Arguments that are equations. Conditions: the row's. -/
import Derived.Test.YtnoooeeciebhfaaRowsRow
import Derived.Test.YtnoooeeciebhfaaEqAdd
import Derived.SizedLaws
set_option linter.unusedVariables false
namespace Go.Proofs.Ytnoooeeciebhfaa
open Go.ChangeShapes Go.WideShapes Go.ChangeAt Go.RowKit

def Weighs {H : Type} (t : TypeId) (d : DataW H) : Prop := ∀ n ∈ d.weights Try.prog t, n ≤ reachBytes
theorem weighs_slice {H : Type} {t e : TypeId} {elems spare : List (DataW H)} (hu : Try.prog.underlying t = some (.slice e)) (h : Weighs t (.slice elems spare)) : (elems.length + spare.length) * Try.prog.bytesOf e ≤ reachBytes :=
  h _ (by simp [DataW.weights, hu])
theorem weightsAll_mem {H : Type} {P : Program} {e : TypeId} : ∀ {l : List (DataW H)} {d : DataW H}, d ∈ l → ∀ n ∈ d.weights P e, n ∈ DataW.weightsAll P e l
  | d' :: r, d, hd, n, hn => by
    simp only [DataW.weightsAll, List.mem_append]
    rcases List.mem_cons.1 hd with rfl | h
    · exact Or.inl hn
    · exact Or.inr (weightsAll_mem h n hn)
theorem weighs_elem {H : Type} {t e : TypeId} {elems spare : List (DataW H)} {d : DataW H} (hu : Try.prog.underlying t = some (.slice e)) (h : Weighs t (.slice elems spare)) (hd : d ∈ elems) : Weighs e d := fun n hn =>
  h _ (by simp only [DataW.weights, hu, List.mem_cons, List.mem_append]; exact Or.inr (Or.inl (weightsAll_mem hd n hn)))
theorem weighs_part {H : Type} {t e : TypeId} {fs : Array Field} {parts : List (DataW H)} {d : DataW H} {i : Nat} (hu : Try.prog.underlying t = some (.struct fs)) (h : Weighs t (.agg parts)) (hf : (fs.toList.map (·.type))[i]? = some e) (hd : parts[i]? = some d) : Weighs e d := fun n hn =>
  h _ (by simp only [DataW.weights, hu]; exact DataW.weights_mem_each hf hd n hn)
theorem cell_nums {H : Type} {enc : TypeId × Value → H} {W : World} {base : Nat} {sp : Nat → Bool} {held : Bool} {n : Nat} {v : Value} {y : DataW H × List MemPlace}
    (hsp : ∀ b, sp b = true) (h : DataW.trod enc Try.prog W base sp held n 27 [v] = some y) (hw : Weighs 27 y.1) : ∃ (l : List Int) (a : Option Addr) (cap : Nat), v = .slice a l.length cap ∧ l.length ≤ cap ∧ (a = none → cap = 0) ∧ IntsAt W .i64 a l ∧ (∀ n ∈ l, (Lit.int .i64 n).wf = true) ∧ l.length ≤ 17592186044416 := by
  rcases open_ints Try.underlying27 Try.underlying3 (by kernel_rfl) h with ⟨hcs, _⟩ | ⟨x, l, c, zs, hcs, _, hl, hm, hz, hx, hcell, hwz⟩
  · have : v = .slice none 0 0 := by simpa using hcs
    subst this
    exact ⟨[], none, 0, rfl, Nat.le_refl _, fun _ => rfl, ⟨by simp, fun h => by simp at h⟩, fun n hn => by simp at hn, by simp⟩
  · have : v = .slice (some x) l c := by simpa using hcs
    subst this
    rw [hsp, if_pos rfl] at hz
    rw [hx] at hw
    have hwt := weighs_slice Try.underlying27 hw
    rw [show Try.prog.bytesOf 3 = 8 by kernel_rfl] at hwt
    simp only [lits, List.length_map, List.length_take, List.length_drop] at hwt
    obtain ⟨xs, rfl, h1, h2, h3⟩ := IsRow.ints (k := .i64) (w := W) (a := some x) (len := l) (cap := c) (zs := zs) (.inr ⟨x, rfl, hl, hm, hz, hcell, hwz⟩)
    refine ⟨xs, some x, c, rfl, h1, (fun e => by cases e), h2, h3, ?_⟩
    have : reachBytes = 140737488351232 := rfl
    omega
theorem cell_bytesW {H : Type} {enc : TypeId × Value → H} {W : World} {base : Nat} {sp : Nat → Bool} {held : Bool} {n : Nat} {v : Value} {y : DataW H × List MemPlace}
    (hsp : ∀ b, sp b = true) (h : DataW.trod enc Try.prog W base sp held n 66 [v] = some y) (hw : Weighs 66 y.1) : ∃ (l : List UInt8) (a : Option Addr) (cap : Nat), v = .slice a l.length cap ∧ l.length ≤ cap ∧ (a = none → cap = 0) ∧ BytesIn (fun _ => True) W a l ∧ l.length ≤ 140737488351232 := by
  rcases open_ints Try.underlying66 Try.underlying5 (by kernel_rfl) h with ⟨hcs, _⟩ | ⟨x, l, c, zs, hcs, _, hl, hm, hz, hx, hcell, hwz⟩
  · have : v = .slice none 0 0 := by simpa using hcs
    subst this
    exact ⟨[], none, 0, rfl, Nat.le_refl _, fun _ => rfl, BytesIn.nil _ _, by simp⟩
  · have : v = .slice (some x) l c := by simpa using hcs
    subst this
    rw [hsp, if_pos rfl] at hz
    rw [hx] at hw
    have hwt := weighs_slice Try.underlying66 hw
    rw [show Try.prog.bytesOf 5 = 1 by kernel_rfl] at hwt
    simp only [lits, List.length_map, List.length_take, List.length_drop] at hwt
    obtain ⟨xs, rfl, h1, h2, h3⟩ := IsRow.ints (k := .u8) (w := W) (a := some x) (len := l) (cap := c) (zs := zs) (.inr ⟨x, rfl, hl, hm, hz, hcell, hwz⟩)
    obtain ⟨b, hb, hbi⟩ := BytesIn.ofInts h2 h3
    refine ⟨b, some x, c, by rw [hb], by omega, (fun e => by cases e), hbi, ?_⟩
    have : reachBytes = 140737488351232 := rfl
    omega
/-- An equation's two cells, as they are told. -/
def EqCells (W : World) (v1 v2 : Value) (e : EqV) : Prop :=
  (∃ a cap, v1 = .slice a e.of.length cap ∧ e.of.length ≤ cap ∧ (a = none → cap = 0) ∧ IntsAt W .i64 a e.of) ∧ (∀ n ∈ e.of, (Lit.int .i64 n).wf = true) ∧ e.of.length ≤ 17592186044416 ∧
  (∃ a cap, v2 = .slice a e.val.length cap ∧ e.val.length ≤ cap ∧ (a = none → cap = 0) ∧ BytesIn (fun _ => True) W a e.val) ∧ e.val.length ≤ 140737488351232
set_option maxRecDepth 100000 in
theorem cells_eq {H : Type} {enc : TypeId × Value → H} {W : World} {base : Nat} {sp : Nat → Bool} {held : Bool} {fuel : Nat} {l : List Value} {y : DataW H × List MemPlace}
    (hsp : ∀ b, sp b = true) (h : DataW.trod enc Try.prog W base sp held fuel 68 l = some y) (hw : Weighs 68 y.1) : ∃ v1 v2 e, l = [v1, v2] ∧ EqCells W v1 v2 e := by
  have hC : Try.prog.cellsOf 68 = 2 := by kernel_rfl
  have hI : Try.prog.cellsOf 27 = 1 := by kernel_rfl
  have hS : Try.prog.cellsOf 66 = 1 := by kernel_rfl
  obtain ⟨ys, n, _, hy, hcl, hyl, hi⟩ := DataW.trod_struct Try.underlying68 h
  rw [hC] at hcl
  have hyl2 : ys.length = 2 := hyl
  match l, hcl with
  | [v1, v2], _ =>
    have g := fun (i : Nat) (h : i < 2) => List.getElem?_eq_getElem (l := ys) (show i < ys.length by omega)
    have f0 := (hi 0 _ rfl).trans (g 0 (by omega))
    have f1 := (hi 1 _ rfl).trans (g 1 (by omega))
    have f0' : DataW.trod enc Try.prog W base sp held n 27 [v1] = some ys[0] := f0
    have f1' : DataW.trod enc Try.prog W base sp held n 66 [v2] = some ys[1] := f1
    rw [hy] at hw
    obtain ⟨of, a1, c1, e1, p1, q1, r1, s1, t1⟩ := cell_nums hsp f0' (weighs_part (i := 0) Try.underlying68 hw rfl (by rw [List.getElem?_map, g 0 (by omega)]; rfl))
    obtain ⟨vl, a2, c2, e2, p2, q2, r2, t2⟩ := cell_bytesW hsp f1' (weighs_part (i := 1) Try.underlying68 hw rfl (by rw [List.getElem?_map, g 1 (by omega)]; rfl))
    exact ⟨v1, v2, ⟨of, vl⟩, rfl, ⟨a1, c1, e1, p1, q1, r1⟩, s1, t1, ⟨a2, c2, e2, p2, q2, r2⟩, t2⟩
set_option maxRecDepth 100000 in
theorem open_eq {H : Type} {enc : TypeId × Value → H} {W : World} {r : Reach} {b0 base : Nat} {sp : Nat → Bool} {held : Bool} {v : Value} {d : DataW H} {p : List MemPlace}
    (hv : Value.okWide Try.prog W r b0 68 v) (hsp : ∀ b, sp b = true) (h : DataW.Trod enc Try.prog W base sp held 68 v d p) (hw : Weighs 68 d) :
    ∃ (of : List Int) (A1 : Option Addr) (c1 : Nat) (vl : List UInt8) (A2 : Option Addr) (c2 : Nat), v = .agg #[.slice A1 (List.length of) c1, .slice A2 (List.length vl) c2] ∧ (of.length ≤ c1 ∧ (A1 = none → c1 = 0) ∧ IntsAt W .i64 A1 of) ∧ (∀ n ∈ of, (Lit.int .i64 n).wf = true) ∧ of.length ≤ 17592186044416 ∧
      (vl.length ≤ c2 ∧ (A2 = none → c2 = 0) ∧ BytesIn (fun _ => True) W A2 vl) ∧ vl.length ≤ 140737488351232 := by
  obtain ⟨cs, rfl, hsz⟩ := okWide_struct Try.underlying68 hv
  obtain ⟨fuel, hf⟩ := h
  simp only [Value.cells] at hf
  obtain ⟨v1, v2, e, hl, ⟨a1, c1, e1, p1⟩, w1, t1, ⟨a2, c2, e2, p2⟩, t2⟩ := cells_eq hsp hf hw
  obtain ⟨l⟩ := cs
  simp only [] at hl
  subst hl e1 e2
  exact ⟨e.of, a1, c1, e.val, a2, c2, rfl, p1, w1, t1, p2, t2⟩
set_option maxRecDepth 100000 in
theorem open_eqs {H : Type} {enc : TypeId × Value → H} {W : World} {r : Reach} {b0 base : Nat} {held : Bool} {v : Value} {d : DataW H} {p : List MemPlace}
    (hv : Value.okWide Try.prog W r b0 59 v) (h : DataW.Trod enc Try.prog W base (fun _ => true) held 59 v d p) (hw : Weighs 59 d) :
    ∃ es A c, v = .slice A (List.length es) c ∧ es.length ≤ c ∧ (A = none → c = 0) ∧ EqsIn (fun _ => True) W A es ∧ (∀ e ∈ es, e.of.length ≤ 17592186044416 ∧ e.val.length ≤ 140737488351232) ∧ (∀ e ∈ es, ∀ n ∈ e.of, (Lit.int .i64 n).wf = true) := by
  obtain ⟨a, len, cap, rfl⟩ := okWide_slice Try.underlying59 hv
  have hC : Try.prog.cellsOf 68 = 2 := by kernel_rfl
  obtain ⟨fuel, hf⟩ := h
  rcases DataW.trod_slice Try.underlying59 hf with ⟨hcs, _⟩ | ⟨x, l, c, elems, rest, n, _, hcs, hx, hb, hl, hm, hlen, hel, hsp, _⟩
  · simp [Value.cells] at hcs
    obtain ⟨rfl, rfl, rfl⟩ := hcs
    exact ⟨[], none, 0, rfl, Nat.le_refl _, fun _ => rfl, ⟨by simp, fun h => by simp at h⟩, fun e he => by simp at he, fun e he => by simp at he⟩
  · simp [Value.cells] at hcs
    obtain ⟨rfl, rfl, rfl⟩ := hcs
    have hd : d = .slice (elems.map (·.1)) (rest.map (·.1)) := by injection hx
    rw [hd] at hw
    have hwt := weighs_slice Try.underlying59 hw
    rw [show Try.prog.bytesOf 68 = 48 by kernel_rfl] at hwt
    simp only [List.length_map, hlen] at hwt
    rw [hC] at hel
    have each : ∀ j, ∃ e : EqV, j < len → ∃ v1 v2, W.cell? (x.add (j * 2)) = some v1 ∧ W.cell? ((x.add (j * 2)).add 1) = some v2 ∧ EqCells W v1 v2 e := by
      intro j
      by_cases hj : j < len
      · have h1 := hel j hj
        rw [List.getElem?_eq_getElem (by omega), Option.bind_eq_some_iff] at h1
        obtain ⟨cs, hc1, hc2⟩ := h1
        obtain ⟨v1, v2, e, rfl, he⟩ := cells_eq (fun _ => rfl) hc2 (weighs_elem Try.underlying59 hw (List.mem_map.2 ⟨_, List.getElem_mem (by omega), rfl⟩))
        obtain ⟨_, _, hc3⟩ := World.cells?_some hc1
        have h0 := hc3 0 (by omega)
        have h1 := hc3 1 (by omega)
        refine ⟨e, fun _ => ⟨v1, v2, ?_, h1, he⟩⟩
        have : (x.add (j * 2)).add 0 = x.add (j * 2) := rfl
        rw [← this]; exact h0
      · exact ⟨⟨[], []⟩, fun h => absurd h hj⟩
    have f := fun j => Classical.choose_spec (each j)
    generalize hF : (fun j => Classical.choose (each j)) = F at f
    have hF' : ∀ j, Classical.choose (each j) = F j := fun j => by rw [← hF]
    have hge : ∀ j, j < len → ge ((List.range len).map F) j = F j := fun j hj => by simp [ge, hj]
    have hreach : reachBytes = 140737488351232 := rfl
    refine ⟨(List.range len).map F, some x, cap, by simp, by simpa using hl, (fun e => by cases e), ⟨by simp; omega, fun h0 => ?_⟩, fun e he => ?_, fun e he => ?_⟩
    · simp only [List.length_map, List.length_range] at h0
      obtain ⟨xb, xo, xs⟩ := x
      have hs : xs = none := by
        obtain ⟨v1, v2, h1, _⟩ := f 0 h0
        simpa [Addr.add] using World.cell?_spot h1
      subst hs
      refine ⟨xb, xo, rfl, trivial, fun j hj => ?_⟩
      simp only [List.length_map, List.length_range] at hj
      obtain ⟨v1, v2, h1, h2, ⟨a1, c1, e1, p1, q1, r1⟩, _, _, ⟨a2, c2, e2, p2, q2, r2⟩, _⟩ := f j hj
      rw [hF'] at e1 e2 p1 p2 r1 r2
      refine ⟨v1, v2, ?_, ?_, ⟨a1, c1, ?_, ?_, q1, ?_⟩, ⟨a2, c2, ?_, ?_, q2, ?_⟩⟩
      · rw [← h1, add_none rfl]
      · rw [← h2, add_none (by rw [add_none rfl]), add_none rfl]
      · rw [hge j hj]; exact e1
      · rw [hge j hj]; exact p1
      · rw [hge j hj]; exact ⟨r1, fun _ _ _ _ => trivial⟩
      · rw [hge j hj]; exact e2
      · rw [hge j hj]; exact p2
      · rw [hge j hj]; exact r2
    · obtain ⟨j, hj, rfl⟩ := List.mem_map.1 he
      obtain ⟨v1, v2, _, _, _, _, h1, _, h2⟩ := f j (List.mem_range.1 hj)
      rw [hF'] at h1 h2
      exact ⟨h1, h2⟩
    · obtain ⟨j, hj, rfl⟩ := List.mem_map.1 he
      obtain ⟨v1, v2, _, _, _, h1, _⟩ := f j (List.mem_range.1 hj)
      rw [hF'] at h1
      exact h1
end Go.Proofs.Ytnoooeeciebhfaa
