/- The row of the law ClosureOrder: for every input it returns true, and each argument reads as it read. No condition. -/
import Derived.Test.YtkjaacpcnjakcaaRow
import Derived.Test.YtkjaacpcnjakcaaClosureOrder
import Derived.Test.YtkjaacpcnjakcaaNumsRow
set_option linter.unusedVariables false
namespace Go.Proofs.Ytkjaacpcnjakcaa.closureOrder
open Go.ChangeShapes Go.WideShapes Go.ChangeAt Go.RowKit
open Go.ChangeMaps (open_string shut_string)
set_option maxRecDepth 100000 in
theorem lifted (os : Os) (started : os.Started) (H : Type) (enc : TypeId × Value → H) :
    ReturnsInHanded {} Try.checked os 7 .any (Rows.closureOrderSpec.pre6 enc Try.prog Try.f7 Rows.closureOrderRow.domain false) (Rows.closureOrderSpec.post enc Try.prog Try.f7 false true false false) := by
  refine returnsInHanded_of_change_sized (C := Try.checked) own0 started (by kernel_rfl) Try.func7
    (ChangeSpec.witness6 (enc := enc) (C := Try.checked) false ⟨#[], #[.int .u8 0, .slice none 0 0, .slice none 0 0], []⟩ 8 (by kernel_rfl) (by kernel_rfl) (by kernel_rfl) (by kernel_rfl)) ?_
  intro W base args ds gs before hval0 hW hcnd hsz0 _
  have hval : ∀ (j : Nat) t v, Try.f7.params[j]? = some t → args[j]? = some v → Value.okWide Try.prog W .any base t v := hval0
  have hW' := hW
  obtain ⟨p, q, hA0, hV, rfl, hfz, hnd⟩ := hW
  have hA : DataW.TrodAll enc Try.prog W 0 (fun _ => true) true Try.f7.params.toList args.toList ds p := hA0
  have hsz : (DataW.weightsEach Try.prog (Try.f7.params.toList ++ Rows.closureOrderSpec.plain.varTypes Try.prog) (ds ++ gs)).all (· ≤ reachBytes) = true := hsz0
  rw [Try.params7] at hA hval hsz
  obtain ⟨v0, vs0, d0, ds0, p0, q0, hargs, rfl, rfl, h0, r0⟩ := trodAll_cons hA
  obtain ⟨v1, vs1, d1, ds1, p1, q1, rfl, rfl, rfl, h1, r1⟩ := trodAll_cons r0
  obtain ⟨v2, vs2, d2, ds2, p2, q2, rfl, rfl, rfl, h2, r2⟩ := trodAll_cons r1
  obtain ⟨rfl, rfl, rfl⟩ := trodAll_nil r2
  obtain rfl : args = #[v0, v1, v2] := by cases args; simp_all
  obtain ⟨rfl, rfl⟩ := trodVars_none hV
  obtain ⟨a0, rfl, rfl, rfl, w0⟩ := open_int Try.underlying5 (hval 0 5 v0 rfl rfl) h0
  have k1 := h1
  have lt1 : ∀ x ∈ p1, x.block < W.heap.size := by obtain ⟨m, hm⟩ := k1; exact DataW.trod_lt m _ _ _ hm
  have wz1 : Weighs 22 d1 := fun n hn => of_decide_eq_true (List.all_eq_true.1 hsz _ (DataW.weights_mem_each (j := 1) rfl rfl n hn))
  obtain ⟨nl1, na1, nc1, rfl, nh1, nz1, ni1, nb1, nm1, nw1⟩ := open_nrows (fun _ => rfl) (by obtain ⟨a, n, c, e⟩ := okWide_slice Try.underlying22 (hval 1 22 v1 rfl rfl); exact ⟨a, n, c, e⟩) h1 wz1
  have k2 := h2
  have lt2 : ∀ x ∈ p2, x.block < W.heap.size := by obtain ⟨m, hm⟩ := k2; exact DataW.trod_lt m _ _ _ hm
  have wz2 : Weighs 22 d2 := fun n hn => of_decide_eq_true (List.all_eq_true.1 hsz _ (DataW.weights_mem_each (j := 2) rfl rfl n hn))
  obtain ⟨nl2, na2, nc2, rfl, nh2, nz2, ni2, nb2, nm2, nw2⟩ := open_nrows (fun _ => rfl) (by obtain ⟨a, n, c, e⟩ := okWide_slice Try.underlying22 (hval 2 22 v2 rfl rfl); exact ⟨a, n, c, e⟩) h2 wz2
  clear hA0 hval0 hsz0
  have HW : Calls Try.prog 7 #[.int .u8 a0, .slice na1 (List.length nl1) nc1, .slice na2 (List.length nl2) nc2] W fun e w' => e = .returned (.bool true) ∧ Keeps NoB W w' := by
    exact closureOrder_calls a0 nl1 nl2 na1 na2 nc1 nc2 W ni1 ni2 nz2 (fun of hof => by have := nm1 of hof; omega) (fun of hof => by have := nm2 of hof; omega) (bounds_u8 w0).1 (by have := (bounds_u8 w0).2; omega)
  refine HW.mono fun e W' ⟨he, kp⟩ => ?_
  have bel := kp.below
  subst he
  exact ⟨_, rfl, _, _, _, [], _, [], hW', trodAll_mk1 (shut_bool Try.underlying4 _), (trodAll_cons_mk (shut_int Try.underlying5 w0) (trodAll_cons_mk (Below.trod laidOut0 (by kernel_rfl) (of_decide_eq_true (by kernel_rfl)) k1 bel lt1) (trodAll_cons_mk (Below.trod laidOut0 (by kernel_rfl) (of_decide_eq_true (by kernel_rfl)) k2 bel lt2) trodAll_mk0))), rfl, bel.frame _, fun h => by cases h⟩
theorem over : Rows.closureOrderRow.holds Try.pinned (OpenSpec.ofChange Rows.closureOrderSpec) :=
  OpenClaim.holds_of_wide 7 Try.f7 rfl rfl rfl rfl rfl rfl rfl ⟨rfl, rfl, rfl, rfl, rfl⟩ rfl rfl rfl rfl rfl (by kernel_rfl) Try.func7 (by kernel_rfl)
    (of_decide_eq_true (by kernel_rfl)) (by unfold Func.isWrapper; first | (rw [if_pos (by decide +kernel)]; kernel_rfl) | (rw [if_neg (by decide +kernel)]; exact ⟨rfl, rfl⟩))
    (fun os started H enc _ => lifted os started H enc)
end Go.Proofs.Ytkjaacpcnjakcaa.closureOrder
namespace Go.Proofs.Ytkjaacpcnjakcaa
/-- The row of the law ClosureOrder. -/
theorem closureOrder_holds : Rows.ClosureOrderSaid := closureOrder.over
#print axioms closureOrder_holds
end Go.Proofs.Ytkjaacpcnjakcaa
