/- The row of the law ComposeRight: for every input it returns true, and each argument reads as it read. No condition. -/
import Derived.Test.YtnnkfopopanfjaaG1
import Derived.Test.YtnnkfopopanfjaaComposeRight
import Derived.Test.YtnnkfopopanfjaaG5
set_option linter.unusedVariables false
namespace Go.Proofs.Ytnnkfopopanfjaa.composeRight
open Go.ChangeShapes Go.WideShapes Go.ChangeAt Go.RowKit
open Go.ChangeMaps (open_string shut_string)
set_option maxRecDepth 100000 in
theorem lifted (os : Os) (started : os.Started) (H : Type) (enc : TypeId × Value → H) :
    ReturnsInHanded {} Try.checked os 3 .any (Rows.composeRightSpec.pre6 enc Try.prog Try.f3 Rows.composeRightRow.domain false) (Rows.composeRightSpec.post enc Try.prog Try.f3 false true false false) := by
  refine returnsInHanded_of_change_sized (C := Try.checked) own0 started (by kernel_rfl) Try.func3
    (ChangeSpec.witness6 (enc := enc) (C := Try.checked) false ⟨#[], #[.agg #[.int .i64 0, .int .i64 0, .int .i64 0, .int .i64 0, .int .i64 0, .int .u64 0, .slice none 0 0, .int .u8 0, .int .u8 0, .int .u8 0, .int .i64 0, .int .i64 0]], []⟩ 8 (by kernel_rfl) (by kernel_rfl) (by kernel_rfl) (by kernel_rfl)) ?_
  intro W base args ds gs before hval0 hW hcnd hsz0 _
  have hval : ∀ (j : Nat) t v, Try.f3.params[j]? = some t → args[j]? = some v → Value.okWide Try.prog W .any base t v := hval0
  have hW' := hW
  obtain ⟨p, q, hA0, hV, rfl, hfz, hnd⟩ := hW
  have hA : DataW.TrodAll enc Try.prog W 0 (fun _ => true) true Try.f3.params.toList args.toList ds p := hA0
  rw [Try.params3] at hA hval
  obtain ⟨v0, vs0, d0, ds0, p0, q0, hargs, rfl, rfl, h0, r0⟩ := trodAll_cons hA
  obtain ⟨rfl, rfl, rfl⟩ := trodAll_nil r0
  obtain rfl : args = #[v0] := by cases args; simp_all
  obtain ⟨rfl, rfl⟩ := trodVars_none hV
  have k0 := h0
  have lt0 : ∀ x ∈ p0, x.block < W.heap.size := by obtain ⟨m, hm⟩ := k0; exact DataW.trod_lt m _ _ _ hm
  obtain ⟨tp0, ts0, tl0, tA0, tc0, tb0, ta0, ty0, tm0, tn0, rfl, tw0, tws0, to0, twb0, twa0, twy0, twm0, twn0⟩ := open_turned (hval 0 29 v0 rfl rfl) (fun _ => rfl) h0
  clear hA0 hval0 hsz0
  have HW : Calls Try.prog 3 #[.agg #[.int .i64 tp0.n, .int .i64 tp0.b, .int .i64 tp0.q, .int .i64 tp0.eps, .int .i64 tp0.f, .int .u64 ts0, .slice tA0 (List.length tl0) tc0, .int .u8 tb0, .int .u8 ta0, .int .u8 ty0, .int .i64 tm0, .int .i64 tn0]] W fun e w' => e = .returned (.bool true) ∧ Keeps NoB W w' := by
    have hb := wf_u64_bounds tws0; obtain ⟨sm, rfl⟩ : ∃ m : Nat, ts0 = (m : Int) := ⟨ts0.toNat, by omega⟩; have b1 := Go.bounds_u8 twb0; have b2 := Go.bounds_u8 twa0; have b3 := Go.bounds_u8 twy0; have b4 := wf_i64_bounds twm0; have b5 := wf_i64_bounds twn0; exact composeRight_walk tp0 sm tl0 tA0 tc0 tb0 ta0 ty0 tm0 tn0 W tw0 (by omega) to0.2.2 to0.1 to0.2.1 (by omega) (by omega) (by omega) b4 b5
  refine HW.mono fun e W' ⟨he, kp⟩ => ?_
  have bel := kp.below
  subst he
  exact ⟨_, rfl, _, _, _, [], _, [], hW', trodAll_mk1 (shut_bool Try.underlying4 _), (trodAll_cons_mk (Below.trod laidOut0 (by kernel_rfl) (of_decide_eq_true (by kernel_rfl)) k0 bel lt0) trodAll_mk0), rfl, bel.frame _, fun h => by cases h⟩
theorem over : Rows.composeRightRow.holds Try.pinned (OpenSpec.ofChange Rows.composeRightSpec) :=
  OpenClaim.holds_of_wide 3 Try.f3 rfl rfl rfl rfl rfl rfl rfl ⟨rfl, rfl, rfl, rfl, rfl⟩ rfl rfl rfl rfl rfl (by kernel_rfl) Try.func3 (by kernel_rfl)
    (of_decide_eq_true (by kernel_rfl)) (by unfold Func.isWrapper; first | (rw [if_pos (by decide +kernel)]; kernel_rfl) | (rw [if_neg (by decide +kernel)]; exact ⟨rfl, rfl⟩))
    (fun os started H enc _ => lifted os started H enc)
end Go.Proofs.Ytnnkfopopanfjaa.composeRight
namespace Go.Proofs.Ytnnkfopopanfjaa
/-- The row of the law ComposeRight. -/
theorem composeRight_holds : Rows.ComposeRightSaid := composeRight.over
#print axioms composeRight_holds
end Go.Proofs.Ytnnkfopopanfjaa
