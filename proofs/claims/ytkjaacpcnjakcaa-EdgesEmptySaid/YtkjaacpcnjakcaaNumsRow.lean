/- An argument that is lists of numbers, with what memory bears of it. Conditions: the row's. -/
import Derived.Test.YtkjaacpcnjakcaaEqRow
import Derived.Test.YtkjaacpcnjakcaaRows2
set_option linter.unusedVariables false
namespace Go.Proofs.Ytkjaacpcnjakcaa
open Go.ChangeShapes Go.WideShapes Go.ChangeAt Go.RowKit

def NumCell (W : World) (v : Value) (l : List Int) : Prop := (∃ a cap, v = .slice a l.length cap ∧ l.length ≤ cap ∧ (a = none → cap = 0) ∧ IntsAt W .i64 a l) ∧ (∀ n ∈ l, (Lit.int .i64 n).wf = true) ∧ l.length ≤ 17592186044416
set_option maxRecDepth 100000 in
theorem open_nrows {H : Type} {enc : TypeId × Value → H} {W : World} {base : Nat} {sp : Nat → Bool} {held : Bool} {v : Value} {d : DataW H} {p : List MemPlace} (hsp0 : ∀ b, sp b = true)
    (hv : ∃ a n c, v = .slice a n c) (h : DataW.Trod enc Try.prog W base sp held 22 v d p) (hw : Weighs 22 d) :
    ∃ ls A c, v = .slice A (List.length ls) c ∧ ls.length ≤ c ∧ (A = none → c = 0) ∧ RowsAt W A ls ∧ ls.length ≤ 5864062014805 ∧ (∀ l ∈ ls, l.length ≤ 17592186044416) ∧ (∀ l ∈ ls, ∀ n ∈ l, (Lit.int .i64 n).wf = true) := by
  obtain ⟨a, len, cap, rfl⟩ := hv
  have hC : Try.prog.cellsOf 27 = 1 := by kernel_rfl
  obtain ⟨fuel, hf⟩ := h
  rcases DataW.trod_slice Try.underlying22 hf with ⟨hcs, _⟩ | ⟨x, l, c, elems, rest, n, _, hcs, hx, hb, hl, hm, hlen, hel, hsp, _⟩
  · simp [Value.cells] at hcs
    obtain ⟨rfl, rfl, rfl⟩ := hcs
    exact ⟨[], none, 0, rfl, Nat.le_refl _, fun _ => rfl, ⟨by simp, fun h => by simp at h⟩, by simp, fun e he => by simp at he, fun e he => by simp at he⟩
  · simp [Value.cells] at hcs
    obtain ⟨rfl, rfl, rfl⟩ := hcs
    have hd : d = .slice (elems.map (·.1)) (rest.map (·.1)) := by injection hx
    rw [hd] at hw
    have hwt := weighs_slice Try.underlying22 hw
    rw [show Try.prog.bytesOf 27 = 24 by kernel_rfl] at hwt
    simp only [List.length_map, hlen] at hwt
    rw [hC] at hel
    have each : ∀ j, ∃ e : List Int, j < len → ∃ v1, W.cell? (x.add j) = some v1 ∧ NumCell W v1 e := by
      intro j
      by_cases hj : j < len
      · have h1 := hel j hj
        rw [List.getElem?_eq_getElem (by omega), Option.bind_eq_some_iff] at h1
        obtain ⟨cs, hc1, hc2⟩ := h1
        obtain ⟨_, hs1, hc3⟩ := World.cells?_some hc1
        obtain ⟨v1, rfl⟩ : ∃ v1, cs = [v1] := List.length_eq_one_iff.1 hs1
        have h0 : W.cell? ((x.add (j * 1)).add 0) = some v1 := hc3 0 (by simp)
        obtain ⟨e, a1, c1, he, g1, g2, g3, g4, g5⟩ := cell_nums hsp0 hc2 (weighs_elem Try.underlying22 hw (List.mem_map.2 ⟨_, List.getElem_mem (by omega), rfl⟩))
        refine ⟨e, fun _ => ⟨v1, ?_, ⟨a1, c1, he, g1, g2, g3⟩, g4, g5⟩⟩
        have : (x.add (j * 1)).add 0 = x.add j := by rw [Nat.mul_one]; rfl
        rw [← this]; exact h0
      · exact ⟨[], fun h => absurd h hj⟩
    have f := fun j => Classical.choose_spec (each j)
    generalize hF : (fun j => Classical.choose (each j)) = F at f
    have hF' : ∀ j, Classical.choose (each j) = F j := fun j => by rw [← hF]
    have hge : ∀ j, j < len → gl ((List.range len).map F) j = F j := fun j hj => by simp [gl, hj]
    have hreach : reachBytes = 140737488351232 := rfl
    refine ⟨(List.range len).map F, some x, cap, by simp, by simpa using hl, (fun e => by cases e), ⟨by simp; omega, fun h0 => ?_⟩, by simp; omega, fun e he => ?_, fun e he => ?_⟩
    · simp only [List.length_map, List.length_range] at h0
      obtain ⟨xb, xo, xs⟩ := x
      have hs : xs = none := by
        obtain ⟨v1, h1, _⟩ := f 0 h0
        simpa [Addr.add] using World.cell?_spot h1
      subst hs
      refine ⟨xb, xo, rfl, fun j hj => ?_⟩
      simp only [List.length_map, List.length_range] at hj
      obtain ⟨v1, h1, ⟨a1, c1, h2, h3, h4, h5⟩, _⟩ := f j hj
      rw [hF'] at h2 h3 h5
      rw [hge j hj]
      refine ⟨v1, ?_, a1, c1, h2, h3, h4, h5⟩
      rw [show (⟨xb, xo + j, none⟩ : Addr) = (⟨xb, xo, none⟩ : Addr).add j from (add_none (a := ⟨xb, xo, none⟩) (i := j) rfl).symm]
      exact h1
    · obtain ⟨j, hj, rfl⟩ := List.mem_map.1 he
      have := f j (List.mem_range.1 hj)
      obtain ⟨v1, h1, _, _, h2⟩ := this
      rw [hF'] at h2
      exact h2
    · obtain ⟨j, hj, rfl⟩ := List.mem_map.1 he
      have := f j (List.mem_range.1 hj)
      obtain ⟨v1, h1, _, h2, _⟩ := this
      rw [hF'] at h2
      exact h2
end Go.Proofs.Ytkjaacpcnjakcaa
