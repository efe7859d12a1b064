/- The row of the law SampleApart: for every input it returns true, and each argument reads as it read. No condition. -/
import Derived.Test.YtdjfacdlcnnjnaaRow
import Derived.Test.YtdjfacdlcnnjnaaSampleApart
set_option linter.unusedVariables false
namespace Go.Proofs.Ytdjfacdlcnnjnaa.sampleApart
open Go.ChangeShapes Go.WideShapes Go.ChangeAt Go.RowKit
open Go.ChangeMaps (open_string shut_string)
set_option maxRecDepth 100000 in
theorem lifted (os : Os) (started : os.Started) (H : Type) (enc : TypeId × Value → H) :
    ReturnsInHanded {} Try.checked os 7 .any (Rows.sampleApartSpec.pre6 enc Try.prog Try.f7 Rows.sampleApartRow.domain false) (Rows.sampleApartSpec.post enc Try.prog Try.f7 false true false false) := by
  refine returnsInHanded_of_change_sized (C := Try.checked) own0 started (by kernel_rfl) Try.func7
    (ChangeSpec.witness6 (enc := enc) (C := Try.checked) false ⟨#[], #[.agg #[.slice none 0 0, .int .i64 0, .int .i64 0, .int .i64 0]], []⟩ 8 (by kernel_rfl) (by kernel_rfl) (by kernel_rfl) (by kernel_rfl)) ?_
  intro W base args ds gs before hval0 hW hcnd hsz0 _
  have hval : ∀ (j : Nat) t v, Try.f7.params[j]? = some t → args[j]? = some v → Value.okWide Try.prog W .any base t v := hval0
  have hW' := hW
  obtain ⟨p, q, hA0, hV, rfl, hfz, hnd⟩ := hW
  have hA : DataW.TrodAll enc Try.prog W 0 (fun _ => true) true Try.f7.params.toList args.toList ds p := hA0
  rw [Try.params7] at hA hval
  obtain ⟨v0, vs0, d0, ds0, p0, q0, hargs, rfl, rfl, h0, r0⟩ := trodAll_cons hA
  obtain ⟨rfl, rfl, rfl⟩ := trodAll_nil r0
  obtain rfl : args = #[v0] := by cases args; simp_all
  obtain ⟨rfl, rfl⟩ := trodVars_none hV
  have k0 := h0
  have lt0 : ∀ x ∈ p0, x.block < W.heap.size := by obtain ⟨m, hm⟩ := k0; exact DataW.trod_lt m _ _ _ hm
  obtain ⟨f0, f1, f2, f3, y0, y1, y2, y3, fn0, rfl, _, _, t0, t1, t2, t3⟩ := Joins.open_agg4 Try.underlying62 (by kernel_rfl) (by kernel_rfl) (hval 0 62 v0 rfl rfl) h0
  obtain ⟨fx0, fa0, fc0, rfl, _, xa0, xw0⟩ := cell_ints Try.underlying49 Try.underlying52 (by kernel_rfl) (fun _ => rfl) t0
  obtain ⟨fb0, rfl, wb0⟩ := cell_int Try.underlying3 t1
  obtain ⟨fm0, rfl, wm0⟩ := cell_int Try.underlying3 t2
  obtain ⟨fz0, rfl, wz0⟩ := cell_int Try.underlying3 t3
  obtain ⟨n0, nl0, na0⟩ := NatsAt.ofInts xa0 xw0
  clear hA0 hval0 hsz0
  have HW : Calls Try.prog 7 #[.agg #[.slice fa0 fx0.length fc0, .int .i64 fb0, .int .i64 fm0, .int .i64 fz0]] W fun e w' => e = .returned (.bool true) ∧ Keeps NoB W w' := by
    rw [nl0]
    exact sampleApart_walk n0 fa0 fc0 fb0 fm0 fz0 W na0 (wf_i64_bounds wb0).1 (wf_i64_bounds wm0).1 (wf_i64_bounds wm0).2
  refine HW.mono fun e W' ⟨he, kp⟩ => ?_
  have bel := kp.below
  subst he
  exact ⟨_, rfl, _, _, _, [], _, [], hW', trodAll_mk1 (shut_bool Try.underlying4 _), (trodAll_cons_mk (Below.trod laidOut0 (by kernel_rfl) (of_decide_eq_true (by kernel_rfl)) k0 bel lt0) trodAll_mk0), rfl, bel.frame _, fun h => by cases h⟩
theorem over : Rows.sampleApartRow.holds Try.pinned (OpenSpec.ofChange Rows.sampleApartSpec) :=
  OpenClaim.holds_of_wide 7 Try.f7 rfl rfl rfl rfl rfl rfl rfl ⟨rfl, rfl, rfl, rfl, rfl⟩ rfl rfl rfl rfl rfl (by kernel_rfl) Try.func7 (by kernel_rfl)
    (of_decide_eq_true (by kernel_rfl)) (by unfold Func.isWrapper; first | (rw [if_pos (by decide +kernel)]; kernel_rfl) | (rw [if_neg (by decide +kernel)]; exact ⟨rfl, rfl⟩))
    (fun os started H enc _ => lifted os started H enc)
end Go.Proofs.Ytdjfacdlcnnjnaa.sampleApart
namespace Go.Proofs.Ytdjfacdlcnnjnaa
/-- The row of the law SampleApart. -/
theorem sampleApart_holds : Rows.SampleApartSaid := sampleApart.over
#print axioms sampleApart_holds
end Go.Proofs.Ytdjfacdlcnnjnaa
