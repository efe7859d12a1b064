/- The row of the law ClosureReaches: for every input it returns true, and each argument reads as it read. No condition. -/
import Derived.Test.YtkjaacpcnjakcaaPart1
import Derived.Test.YtkjaacpcnjakcaaPart3
set_option linter.unusedVariables false
namespace Go.Proofs.Ytkjaacpcnjakcaa.closureReaches
open Go.ChangeShapes Go.WideShapes Go.ChangeAt Go.RowKit
open Go.ChangeMaps (open_string shut_string)
set_option maxRecDepth 100000 in
theorem lifted (os : Os) (started : os.Started) (H : Type) (enc : TypeId × Value → H) :
    ReturnsInHanded {} Try.checked os 6 .any (Rows.closureReachesSpec.pre6 enc Try.prog Try.f6 Rows.closureReachesRow.domain false) (Rows.closureReachesSpec.post enc Try.prog Try.f6 false true false false) := by
  refine returnsInHanded_of_change_sized (C := Try.checked) own0 started (by kernel_rfl) Try.func6
    (ChangeSpec.witness6 (enc := enc) (C := Try.checked) false ⟨#[], #[.int .i64 0, .slice none 0 0], []⟩ 8 (by kernel_rfl) (by kernel_rfl) (by kernel_rfl) (by kernel_rfl)) ?_
  intro W base args ds gs before hval0 hW hcnd hsz0 _
  have hval : ∀ (j : Nat) t v, Try.f6.params[j]? = some t → args[j]? = some v → Value.okWide Try.prog W .any base t v := hval0
  have hW' := hW
  obtain ⟨p, q, hA0, hV, rfl, hfz, hnd⟩ := hW
  have hA : DataW.TrodAll enc Try.prog W 0 (fun _ => true) true Try.f6.params.toList args.toList ds p := hA0
  have hsz : (DataW.weightsEach Try.prog (Try.f6.params.toList ++ Rows.closureReachesSpec.plain.varTypes Try.prog) (ds ++ gs)).all (· ≤ reachBytes) = true := hsz0
  rw [Try.params6] at hA hval hsz
  obtain ⟨v0, vs0, d0, ds0, p0, q0, hargs, rfl, rfl, h0, r0⟩ := trodAll_cons hA
  obtain ⟨v1, vs1, d1, ds1, p1, q1, rfl, rfl, rfl, h1, r1⟩ := trodAll_cons r0
  obtain ⟨rfl, rfl, rfl⟩ := trodAll_nil r1
  obtain rfl : args = #[v0, v1] := by cases args; simp_all
  obtain ⟨rfl, rfl⟩ := trodVars_none hV
  obtain ⟨a0, rfl, rfl, rfl, w0⟩ := open_int Try.underlying3 (hval 0 3 v0 rfl rfl) h0
  have k1 := h1
  have lt1 : ∀ x ∈ p1, x.block < W.heap.size := by obtain ⟨m, hm⟩ := k1; exact DataW.trod_lt m _ _ _ hm
  have wz1 : Weighs 22 d1 := fun n hn => of_decide_eq_true (List.all_eq_true.1 hsz _ (DataW.weights_mem_each (j := 1) rfl rfl n hn))
  obtain ⟨nl1, na1, nc1, rfl, nh1, nz1, ni1, nb1, nm1, nw1⟩ := open_nrows (fun _ => rfl) (by obtain ⟨a, n, c, e⟩ := okWide_slice Try.underlying22 (hval 1 22 v1 rfl rfl); exact ⟨a, n, c, e⟩) h1 wz1
  clear hA0 hval0 hsz0
  have HW : Calls Try.prog 6 #[.int .i64 a0, .slice na1 (List.length nl1) nc1] W fun e w' => e = .returned (.bool true) ∧ Keeps NoB W w' := by
    exact closureReaches_calls a0 nl1 na1 nc1 W ni1 (fun of hof => by have := nm1 of hof; omega) (wf_i64_bounds w0).1 (wf_i64_bounds w0).2
  refine HW.mono fun e W' ⟨he, kp⟩ => ?_
  have bel := kp.below
  subst he
  exact ⟨_, rfl, _, _, _, [], _, [], hW', trodAll_mk1 (shut_bool Try.underlying4 _), (trodAll_cons_mk (shut_int Try.underlying3 w0) (trodAll_cons_mk (Below.trod laidOut0 (by kernel_rfl) (of_decide_eq_true (by kernel_rfl)) k1 bel lt1) trodAll_mk0)), rfl, bel.frame _, fun h => by cases h⟩
theorem over : Rows.closureReachesRow.holds Try.pinned (OpenSpec.ofChange Rows.closureReachesSpec) :=
  OpenClaim.holds_of_wide 6 Try.f6 rfl rfl rfl rfl rfl rfl rfl ⟨rfl, rfl, rfl, rfl, rfl⟩ rfl rfl rfl rfl rfl (by kernel_rfl) Try.func6 (by kernel_rfl)
    (of_decide_eq_true (by kernel_rfl)) (by unfold Func.isWrapper; first | (rw [if_pos (by decide +kernel)]; kernel_rfl) | (rw [if_neg (by decide +kernel)]; exact ⟨rfl, rfl⟩))
    (fun os started H enc _ => lifted os started H enc)
end Go.Proofs.Ytkjaacpcnjakcaa.closureReaches
namespace Go.Proofs.Ytkjaacpcnjakcaa
/-- The row of the law ClosureReaches. -/
theorem closureReaches_holds : Rows.ClosureReachesSaid := closureReaches.over
#print axioms closureReaches_holds
end Go.Proofs.Ytkjaacpcnjakcaa
