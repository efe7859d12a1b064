/- The row of the law ClosureAgrees: for every input it returns true, and each argument reads as it read. No condition. -/
import Derived.Test.YtkjaacpcnjakcaaRow
import Derived.Test.YtkjaacpcnjakcaaTClosureAgrees
set_option linter.unusedVariables false
namespace Go.Proofs.Ytkjaacpcnjakcaa.closureAgrees
open Go.ChangeShapes Go.WideShapes Go.ChangeAt Go.RowKit
open Go.ChangeMaps (open_string shut_string)
set_option maxRecDepth 100000 in
theorem lifted (os : Os) (started : os.Started) (H : Type) (enc : TypeId × Value → H) :
    ReturnsInHanded {} Try.checked os 8 .any (Rows.closureAgreesSpec.pre6 enc Try.prog Try.f8 Rows.closureAgreesRow.domain false) (Rows.closureAgreesSpec.post enc Try.prog Try.f8 false true false false) := by
  refine returnsInHanded_of_change_sized (C := Try.checked) own0 started (by kernel_rfl) Try.func8
    (ChangeSpec.witness6 (enc := enc) (C := Try.checked) false ⟨#[], #[.agg #[.int .u8 0, .int .u8 0, .slice none 0 0, .slice none 0 0]], []⟩ 8 (by kernel_rfl) (by kernel_rfl) (by kernel_rfl) (by kernel_rfl)) ?_
  intro W base args ds gs before hval0 hW hcnd hsz0 _
  have hval : ∀ (j : Nat) t v, Try.f8.params[j]? = some t → args[j]? = some v → Value.okWide Try.prog W .any base t v := hval0
  have hW' := hW
  obtain ⟨p, q, hA0, hV, rfl, hfz, hnd⟩ := hW
  have hA : DataW.TrodAll enc Try.prog W 0 (fun _ => true) true Try.f8.params.toList args.toList ds p := hA0
  have hsz : (DataW.weightsEach Try.prog (Try.f8.params.toList ++ Rows.closureAgreesSpec.plain.varTypes Try.prog) (ds ++ gs)).all (· ≤ reachBytes) = true := hsz0
  rw [Try.params8] at hA hval hsz
  obtain ⟨v0, vs0, d0, ds0, p0, q0, hargs, rfl, rfl, h0, r0⟩ := trodAll_cons hA
  obtain ⟨rfl, rfl, rfl⟩ := trodAll_nil r0
  obtain rfl : args = #[v0] := by cases args; simp_all
  obtain ⟨rfl, rfl⟩ := trodVars_none hV
  have k0 := h0
  have lt0 : ∀ x ∈ p0, x.block < W.heap.size := by obtain ⟨m, hm⟩ := k0; exact DataW.trod_lt m _ _ _ hm
  have wz0 : Weighs 59 d0 := fun n hn => of_decide_eq_true (List.all_eq_true.1 hsz _ (DataW.weights_mem_each (j := 0) rfl rfl n hn))
  obtain ⟨ga0, gs0, gl0, gA0, gc0, gb0, gB0, gd0, rfl, ba0, bs0, ⟨o10, o20, o30, o40⟩, ⟨o50, o60, o70⟩⟩ := open_eqs16 (hval 0 59 v0 rfl rfl) h0 wz0
  clear hA0 hval0 hsz0
  have HW : Calls Try.prog 8 #[.agg #[.int .u8 (ga0 : Int), .int .u8 (gs0 : Int), .slice gA0 (List.length gl0) gc0, .slice gB0 (List.length gb0) gd0]] W fun e w' => e = .returned (.bool true) ∧ Keeps NoB W w' := by
    exact closureAgrees_calls ga0 gs0 gl0 gb0 gA0 gB0 gc0 gd0 W ba0 bs0 o30 o70 (fun of hof => by have := o40 of hof; omega)
  refine HW.mono fun e W' ⟨he, kp⟩ => ?_
  have bel := kp.below
  subst he
  exact ⟨_, rfl, _, _, _, [], _, [], hW', trodAll_mk1 (shut_bool Try.underlying4 _), (trodAll_cons_mk (Below.trod laidOut0 (by kernel_rfl) (of_decide_eq_true (by kernel_rfl)) k0 bel lt0) trodAll_mk0), rfl, bel.frame _, fun h => by cases h⟩
theorem over : Rows.closureAgreesRow.holds Try.pinned (OpenSpec.ofChange Rows.closureAgreesSpec) :=
  OpenClaim.holds_of_wide 8 Try.f8 rfl rfl rfl rfl rfl rfl rfl ⟨rfl, rfl, rfl, rfl, rfl⟩ rfl rfl rfl rfl rfl (by kernel_rfl) Try.func8 (by kernel_rfl)
    (of_decide_eq_true (by kernel_rfl)) (by unfold Func.isWrapper; first | (rw [if_pos (by decide +kernel)]; kernel_rfl) | (rw [if_neg (by decide +kernel)]; exact ⟨rfl, rfl⟩))
    (fun os started H enc _ => lifted os started H enc)
end Go.Proofs.Ytkjaacpcnjakcaa.closureAgrees
namespace Go.Proofs.Ytkjaacpcnjakcaa
/-- The row of the law ClosureAgrees. -/
theorem closureAgrees_holds : Rows.ClosureAgreesSaid := closureAgrees.over
#print axioms closureAgrees_holds
end Go.Proofs.Ytkjaacpcnjakcaa
