/- The row of the law EquationOrder: for every input it returns true, and each argument reads as it read. No condition. -/
import Derived.Test.YtjfilleddekcmaaRow
import Derived.Test.YtjfilleddekcmaaEquationOrder
import Derived.Test.YtjfilleddekcmaaEqRow
set_option linter.unusedVariables false
namespace Go.Proofs.Ytjfilleddekcmaa.equationOrder
open Go.ChangeShapes Go.WideShapes Go.ChangeAt Go.RowKit
open Go.ChangeMaps (open_string shut_string)
set_option maxRecDepth 100000 in
theorem lifted (os : Os) (started : os.Started) (H : Type) (enc : TypeId × Value → H) :
    ReturnsInHanded {} Try.checked os 5 .any (Rows.equationOrderSpec.pre6 enc Try.prog Try.f5 Rows.equationOrderRow.domain false) (Rows.equationOrderSpec.post enc Try.prog Try.f5 false true false false) := by
  refine returnsInHanded_of_change_sized (C := Try.checked) own0 started (by kernel_rfl) Try.func5
    (ChangeSpec.witness6 (enc := enc) (C := Try.checked) false ⟨#[], #[.int .u8 0, .slice none 0 0, .agg #[.slice none 0 0, .slice none 0 0]], []⟩ 8 (by kernel_rfl) (by kernel_rfl) (by kernel_rfl) (by kernel_rfl)) ?_
  intro W base args ds gs before hval0 hW hcnd hsz0 _
  have hval : ∀ (j : Nat) t v, Try.f5.params[j]? = some t → args[j]? = some v → Value.okWide Try.prog W .any base t v := hval0
  have hW' := hW
  obtain ⟨p, q, hA0, hV, rfl, hfz, hnd⟩ := hW
  have hA : DataW.TrodAll enc Try.prog W 0 (fun _ => true) true Try.f5.params.toList args.toList ds p := hA0
  have hsz : (DataW.weightsEach Try.prog (Try.f5.params.toList ++ Rows.equationOrderSpec.plain.varTypes Try.prog) (ds ++ gs)).all (· ≤ reachBytes) = true := hsz0
  rw [Try.params5] at hA hval hsz
  obtain ⟨v0, vs0, d0, ds0, p0, q0, hargs, rfl, rfl, h0, r0⟩ := trodAll_cons hA
  obtain ⟨v1, vs1, d1, ds1, p1, q1, rfl, rfl, rfl, h1, r1⟩ := trodAll_cons r0
  obtain ⟨v2, vs2, d2, ds2, p2, q2, rfl, rfl, rfl, h2, r2⟩ := trodAll_cons r1
  obtain ⟨rfl, rfl, rfl⟩ := trodAll_nil r2
  obtain rfl : args = #[v0, v1, v2] := by cases args; simp_all
  obtain ⟨rfl, rfl⟩ := trodVars_none hV
  obtain ⟨a0, rfl, rfl, rfl, w0⟩ := open_int Try.underlying5 (hval 0 5 v0 rfl rfl) h0
  have k1 := h1
  have lt1 : ∀ x ∈ p1, x.block < W.heap.size := by obtain ⟨m, hm⟩ := k1; exact DataW.trod_lt m _ _ _ hm
  have wz1 : Weighs 22 d1 := fun n hn => of_decide_eq_true (List.all_eq_true.1 hsz _ (DataW.weights_mem_each (j := 1) rfl rfl n hn))
  obtain ⟨ql1, qa1, qc1, rfl, qh1, qz1, qi1, qm1, qw1⟩ := open_eqs (hval 1 22 v1 rfl rfl) h1 wz1
  have k2 := h2
  have lt2 : ∀ x ∈ p2, x.block < W.heap.size := by obtain ⟨m, hm⟩ := k2; exact DataW.trod_lt m _ _ _ hm
  have wz2 : Weighs 29 d2 := fun n hn => of_decide_eq_true (List.all_eq_true.1 hsz _ (DataW.weights_mem_each (j := 2) rfl rfl n hn))
  obtain ⟨eo2, ea2, ec2, ev2, eb2, ed2, rfl, ⟨ei2, en2, ex2⟩, ew2, em2, ⟨fi2, fn2, fx2⟩, fm2⟩ := open_eq (hval 2 29 v2 rfl rfl) (fun _ => rfl) h2 wz2
  clear hA0 hval0 hsz0
  have HW : Calls Try.prog 5 #[.int .u8 a0, .slice qa1 (List.length ql1) qc1, .agg #[.slice ea2 (List.length eo2) ec2, .slice eb2 (List.length ev2) ed2]] W fun e w' => e = .returned (.bool true) ∧ Keeps NoB W w' := by
    obtain ⟨s0, rfl⟩ : ∃ s : Nat, a0 = (s : Int) := ⟨a0.toNat, by have := (bounds_u8 w0).1; omega⟩
    exact equationOrder_calls s0 ql1 ⟨eo2, ev2⟩ qa1 ea2 eb2 qc1 ec2 ed2 W (by have := (bounds_u8 w0).2; omega) qz1 qi1 (fun e he => ⟨by have := (qm1 e he).1; omega, by have := (qm1 e he).2; omega⟩) ex2 ei2 en2 fx2 fi2 fn2 (by show eo2.length ≤ _; omega) (by show ev2.length ≤ _; omega)
  refine HW.mono fun e W' ⟨he, kp⟩ => ?_
  have bel := kp.below
  subst he
  exact ⟨_, rfl, _, _, _, [], _, [], hW', trodAll_mk1 (shut_bool Try.underlying4 _), (trodAll_cons_mk (shut_int Try.underlying5 w0) (trodAll_cons_mk (Below.trod laidOut0 (by kernel_rfl) (of_decide_eq_true (by kernel_rfl)) k1 bel lt1) (trodAll_cons_mk (Below.trod laidOut0 (by kernel_rfl) (of_decide_eq_true (by kernel_rfl)) k2 bel lt2) trodAll_mk0))), rfl, bel.frame _, fun h => by cases h⟩
theorem over : Rows.equationOrderRow.holds Try.pinned (OpenSpec.ofChange Rows.equationOrderSpec) :=
  OpenClaim.holds_of_wide 5 Try.f5 rfl rfl rfl rfl rfl rfl rfl ⟨rfl, rfl, rfl, rfl, rfl⟩ rfl rfl rfl rfl rfl (by kernel_rfl) Try.func5 (by kernel_rfl)
    (of_decide_eq_true (by kernel_rfl)) (by unfold Func.isWrapper; first | (rw [if_pos (by decide +kernel)]; kernel_rfl) | (rw [if_neg (by decide +kernel)]; exact ⟨rfl, rfl⟩))
    (fun os started H enc _ => lifted os started H enc)
end Go.Proofs.Ytjfilleddekcmaa.equationOrder
namespace Go.Proofs.Ytjfilleddekcmaa
/-- The row of the law EquationOrder. -/
theorem equationOrder_holds : Rows.EquationOrderSaid := equationOrder.over
#print axioms equationOrder_holds
end Go.Proofs.Ytjfilleddekcmaa
