/- Parameters by value, as a row's argument. No condition. -/
import Derived.Test.YtjfilleddekcmaaRow
import Derived.Test.YtjfilleddekcmaaParams
set_option linter.unusedVariables false
namespace Go.Proofs.Ytjfilleddekcmaa
open Go.ChangeShapes Go.WideShapes Go.ChangeAt Go.RowKit
set_option maxRecDepth 100000 in
theorem open_par {H : Type} {enc : TypeId × Value → H} {W : World} {r : Reach} {b0 base : Nat} {sp : Nat → Bool} {held : Bool} {v : Value} {d : DataW H} {p : List MemPlace}
    (hv : Value.okWide Try.prog W r b0 50 v) (h : DataW.Trod enc Try.prog W base sp held 50 v d p) : ∃ q : Par, v = q.val ∧ q.wf := by
  obtain ⟨cs, rfl, hsz⟩ := okWide_struct Try.underlying50 hv
  have hC : Try.prog.cellsOf 50 = 5 := by kernel_rfl
  have hI : Try.prog.cellsOf 3 = 1 := by kernel_rfl
  rw [hC] at hsz
  obtain ⟨fuel, hf⟩ := h
  obtain ⟨ys, n, _, _, hcl, hyl, hi⟩ := DataW.trod_struct Try.underlying50 hf
  rw [hC] at hcl
  simp only [Value.cells] at hf hcl hi
  have hyl5 : ys.length = 5 := hyl
  have one : ∀ (i : Nat) (hi5 : i < 5) (f : Field), (Try.prog.underlying 50 = some (.struct #[]) ∨ True) → f.type = 3 → f.offset = i →
      DataW.trod enc Try.prog W base sp held n f.type ((cs.toList.drop f.offset).take (Try.prog.cellsOf f.type)) = ys[i]? → ∃ x : Int, cs.toList[i]? = some (.int .i64 x) ∧ (Lit.int .i64 x).wf = true := by
    intro i hi5 f _ hT ho ht
    rw [hT, ho, hI] at ht
    have hlen : i < cs.toList.length := by simp at hcl ⊢; omega
    have e1 : (cs.toList.drop i).take 1 = [cs.toList[i]] := by rw [List.drop_eq_getElem_cons hlen]; rfl
    rw [e1, List.getElem?_eq_getElem (by omega)] at ht
    obtain ⟨x, hx, hw⟩ := cell_int Try.underlying3 ht
    exact ⟨x, by rw [List.getElem?_eq_getElem hlen, hx], hw⟩
  obtain ⟨x0, c0, w0⟩ := one 0 (by omega) _ (.inr trivial) rfl rfl (hi 0 _ rfl)
  obtain ⟨x1, c1, w1⟩ := one 1 (by omega) _ (.inr trivial) rfl rfl (hi 1 _ rfl)
  obtain ⟨x2, c2, w2⟩ := one 2 (by omega) _ (.inr trivial) rfl rfl (hi 2 _ rfl)
  obtain ⟨x3, c3, w3⟩ := one 3 (by omega) _ (.inr trivial) rfl rfl (hi 3 _ rfl)
  obtain ⟨x4, c4, w4⟩ := one 4 (by omega) _ (.inr trivial) rfl rfl (hi 4 _ rfl)
  refine ⟨⟨x0, x1, x2, x3, x4⟩, ?_, wf_i64_bounds w0, wf_i64_bounds w1, wf_i64_bounds w2, wf_i64_bounds w3, wf_i64_bounds w4⟩
  obtain ⟨l⟩ := cs
  simp only [] at c0 c1 c2 c3 c4 hsz
  have : l = [.int .i64 x0, .int .i64 x1, .int .i64 x2, .int .i64 x3, .int .i64 x4] := by
    apply List.ext_getElem?
    intro i
    match i with
    | 0 => exact c0
    | 1 => exact c1
    | 2 => exact c2
    | 3 => exact c3
    | 4 => exact c4
    | i + 5 => rw [List.getElem?_eq_none (by simp at hsz; omega), List.getElem?_eq_none (by simp)]
  subst this
  rfl
end Go.Proofs.Ytjfilleddekcmaa
