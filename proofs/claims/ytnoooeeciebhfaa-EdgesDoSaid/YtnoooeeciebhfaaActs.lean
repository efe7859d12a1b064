/- An argument that is acts: a kind, a number, some numbers. Conditions: the row's. -/
import Derived.Test.YtnoooeeciebhfaaEqRow
import Derived.Test.YtnoooeeciebhfaaRows2
set_option linter.unusedVariables false
namespace Go.Proofs.Ytnoooeeciebhfaa
open Go.ChangeShapes Go.WideShapes Go.ChangeAt Go.RowKit

structure ActV where
  kind : Int
  num : Int
  blocks : List Int
def ga (es : List ActV) (j : Nat) : ActV := es.getD j ⟨0, 0, []⟩
theorem ga_eq (es : List ActV) (j : Nat) (h : j < es.length) : ga es j = es[j] := by simp [ga, h]
theorem ga_mem {es : List ActV} {j : Nat} (h : j < es.length) : ga es j ∈ es := by rw [ga_eq es j h]; exact List.getElem_mem h
/-- Acts that are read at an address. -/
def ActsAt (w : World) (A : Option Addr) (es : List ActV) : Prop :=
  es.length ≤ 9223372036854775807 ∧ (0 < es.length → ∃ b off, A = some ⟨b, off, none⟩ ∧ ∀ j, j < es.length → w.cell? ⟨b, off + j * 3, none⟩ = some (.int .i64 (ga es j).kind) ∧ w.cell? ⟨b, off + j * 3 + 1, none⟩ = some (.int .i64 (ga es j).num) ∧ ∃ A2 c2, w.cell? ⟨b, off + j * 3 + 2, none⟩ = some (.slice A2 (ga es j).blocks.length c2) ∧ (ga es j).blocks.length ≤ c2 ∧ (A2 = none → c2 = 0) ∧ IntsAt w .i64 A2 (ga es j).blocks)
theorem ActsAt.kept {w w' : World} {A : Option Addr} {es : List ActV} (h : ActsAt w A es) (hk : Keeps NoB w w') : ActsAt w' A es := ⟨h.1, fun h0 => by
  obtain ⟨b, off, e, hc⟩ := h.2 h0
  refine ⟨b, off, e, fun j hj => ?_⟩
  obtain ⟨h1, h2, A2, c2, h3, h4, h5, h6⟩ := hc j hj
  exact ⟨hk.cell h1 (fun h => h), hk.cell h2 (fun h => h), A2, c2, hk.cell h3 (fun h => h), h4, h5, h6.kept hk⟩⟩
/-- An act's three cells, as they are told. -/
def ActCells (W : World) (v1 v2 v3 : Value) (e : ActV) : Prop :=
  v1 = .int .i64 e.kind ∧ (Lit.int .i64 e.kind).wf = true ∧ v2 = .int .i64 e.num ∧ (Lit.int .i64 e.num).wf = true ∧ (∃ a cap, v3 = .slice a e.blocks.length cap ∧ e.blocks.length ≤ cap ∧ (a = none → cap = 0) ∧ IntsAt W .i64 a e.blocks) ∧ (∀ n ∈ e.blocks, (Lit.int .i64 n).wf = true) ∧ e.blocks.length ≤ 17592186044416
set_option maxRecDepth 100000 in
theorem cells_act {H : Type} {enc : TypeId × Value → H} {W : World} {base : Nat} {sp : Nat → Bool} {held : Bool} {fuel : Nat} {l : List Value} {y : DataW H × List MemPlace}
    (hsp : ∀ b, sp b = true) (h : DataW.trod enc Try.prog W base sp held fuel 35 l = some y) (hw : Weighs 35 y.1) : ∃ v1 v2 v3 e, l = [v1, v2, v3] ∧ ActCells W v1 v2 v3 e := by
  have hC : Try.prog.cellsOf 35 = 3 := by kernel_rfl
  have hI : Try.prog.cellsOf 3 = 1 := by kernel_rfl
  have hS : Try.prog.cellsOf 27 = 1 := by kernel_rfl
  obtain ⟨ys, n, _, hy, hcl, hyl, hi⟩ := DataW.trod_struct Try.underlying35 h
  rw [hC] at hcl
  have hyl2 : ys.length = 3 := hyl
  match l, hcl with
  | [v1, v2, v3], _ =>
    have g := fun (i : Nat) (h : i < 3) => List.getElem?_eq_getElem (l := ys) (show i < ys.length by omega)
    have f0 := (hi 0 _ rfl).trans (g 0 (by omega))
    have f1 := (hi 1 _ rfl).trans (g 1 (by omega))
    have f2 := (hi 2 _ rfl).trans (g 2 (by omega))
    have f0' : DataW.trod enc Try.prog W base sp held n 3 [v1] = some ys[0] := f0
    have f1' : DataW.trod enc Try.prog W base sp held n 3 [v2] = some ys[1] := f1
    have f2' : DataW.trod enc Try.prog W base sp held n 27 [v3] = some ys[2] := f2
    rw [hy] at hw
    obtain ⟨x1, e1, w1⟩ := cell_int Try.underlying3 f0'
    obtain ⟨x2, e2, w2⟩ := cell_int Try.underlying3 f1'
    obtain ⟨of, a1, c1, e3, p1, q1, r1, s1, t1⟩ := cell_nums hsp f2' (weighs_part (i := 2) Try.underlying35 hw rfl (by rw [List.getElem?_map, g 2 (by omega)]; rfl))
    exact ⟨v1, v2, v3, ⟨x1, x2, of⟩, rfl, e1, w1, e2, w2, ⟨a1, c1, e3, p1, q1, r1⟩, s1, t1⟩
set_option maxRecDepth 100000 in
theorem open_acts {H : Type} {enc : TypeId × Value → H} {W : World} {r : Reach} {b0 base : Nat} {held : Bool} {v : Value} {d : DataW H} {p : List MemPlace}
    (hv : Value.okWide Try.prog W r b0 33 v) (h : DataW.Trod enc Try.prog W base (fun _ => true) held 33 v d p) (hw : Weighs 33 d) :
    ∃ es A c, v = .slice A (List.length es) c ∧ ActsAt W A es ∧ es.length ≤ 17592186044416 ∧ (∀ e ∈ es, e.blocks.length ≤ 17592186044416) ∧ (∀ e ∈ es, (Lit.int .i64 e.num).wf = true ∧ ∀ n ∈ e.blocks, (Lit.int .i64 n).wf = true) := by
  obtain ⟨a, len, cap, rfl⟩ := okWide_slice Try.underlying33 hv
  have hC : Try.prog.cellsOf 35 = 3 := by kernel_rfl
  obtain ⟨fuel, hf⟩ := h
  rcases DataW.trod_slice Try.underlying33 hf with ⟨hcs, _⟩ | ⟨x, l, c, elems, rest, n, _, hcs, hx, hb, hl, hm, hlen, hel, hsp, _⟩
  · simp [Value.cells] at hcs
    obtain ⟨rfl, rfl, rfl⟩ := hcs
    exact ⟨[], none, 0, rfl, ⟨by simp, fun h => by simp at h⟩, by simp, fun e he => by simp at he, fun e he => by simp at he⟩
  · simp [Value.cells] at hcs
    obtain ⟨rfl, rfl, rfl⟩ := hcs
    have hd : d = .slice (elems.map (·.1)) (rest.map (·.1)) := by injection hx
    rw [hd] at hw
    have hwt := weighs_slice Try.underlying33 hw
    rw [show Try.prog.bytesOf 35 = 40 by kernel_rfl] at hwt
    simp only [List.length_map, hlen] at hwt
    rw [hC] at hel
    have each : ∀ j, ∃ e : ActV, j < len → ∃ v1 v2 v3, W.cell? (x.add (j * 3)) = some v1 ∧ W.cell? ((x.add (j * 3)).add 1) = some v2 ∧ W.cell? ((x.add (j * 3)).add 2) = some v3 ∧ ActCells W v1 v2 v3 e := by
      intro j
      by_cases hj : j < len
      · have h1 := hel j hj
        rw [List.getElem?_eq_getElem (by omega), Option.bind_eq_some_iff] at h1
        obtain ⟨cs, hc1, hc2⟩ := h1
        obtain ⟨v1, v2, v3, e, rfl, he⟩ := cells_act (fun _ => rfl) hc2 (weighs_elem Try.underlying33 hw (List.mem_map.2 ⟨_, List.getElem_mem (by omega), rfl⟩))
        obtain ⟨_, _, hc3⟩ := World.cells?_some hc1
        have h0 := hc3 0 (by omega)
        have h1 := hc3 1 (by omega)
        have h2 := hc3 2 (by omega)
        refine ⟨e, fun _ => ⟨v1, v2, v3, ?_, h1, h2, he⟩⟩
        have : (x.add (j * 3)).add 0 = x.add (j * 3) := rfl
        rw [← this]; exact h0
      · exact ⟨⟨0, 0, []⟩, fun h => absurd h hj⟩
    have f := fun j => Classical.choose_spec (each j)
    generalize hF : (fun j => Classical.choose (each j)) = F at f
    have hF' : ∀ j, Classical.choose (each j) = F j := fun j => by rw [← hF]
    have hge : ∀ j, j < len → ga ((List.range len).map F) j = F j := fun j hj => by simp [ga, hj]
    have hreach : reachBytes = 140737488351232 := rfl
    refine ⟨(List.range len).map F, some x, cap, by simp, ⟨by simp; omega, fun h0 => ?_⟩, by simp; omega, fun e he => ?_, fun e he => ?_⟩
    · simp only [List.length_map, List.length_range] at h0
      obtain ⟨xb, xo, xs⟩ := x
      have hs : xs = none := by
        obtain ⟨v1, v2, v3, h1, _⟩ := f 0 h0
        simpa [Addr.add] using World.cell?_spot h1
      subst hs
      refine ⟨xb, xo, rfl, fun j hj => ?_⟩
      simp only [List.length_map, List.length_range] at hj
      obtain ⟨v1, v2, v3, h1, h2, h3, e1, _, e2, _, ⟨a1, c1, e3, p1, q1, r1⟩, _, _⟩ := f j hj
      rw [hF'] at e1 e2 e3 p1 r1
      rw [hge j hj]
      refine ⟨?_, ?_, a1, c1, ?_, p1, q1, r1⟩
      · rw [← e1, ← h1, add_none rfl]
      · rw [← e2, ← h2, add_none (by rw [add_none rfl]), add_none rfl]
      · rw [← e3, ← h3, add_none (by rw [add_none rfl]), add_none rfl]
    · obtain ⟨j, hj, rfl⟩ := List.mem_map.1 he
      obtain ⟨v1, v2, v3, _, _, _, _, _, _, _, _, _, h2⟩ := f j (List.mem_range.1 hj)
      rw [hF'] at h2
      exact h2
    · obtain ⟨j, hj, rfl⟩ := List.mem_map.1 he
      obtain ⟨v1, v2, v3, _, _, _, _, _, _, h1, _, h2, _⟩ := f j (List.mem_range.1 hj)
      rw [hF'] at h1 h2
      exact ⟨h1, h2⟩
end Go.Proofs.Ytnoooeeciebhfaa
