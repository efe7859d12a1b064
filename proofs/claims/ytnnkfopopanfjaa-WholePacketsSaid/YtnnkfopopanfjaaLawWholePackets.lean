/- The row of the law WholePackets: for every input it returns true, and each argument reads as it read. No condition. -/
import Derived.Test.YtnnkfopopanfjaaG1
import Derived.Test.YtnnkfopopanfjaaWholePackets
import Derived.Test.YtnnkfopopanfjaaG5
set_option linter.unusedVariables false
namespace Go.Proofs.Ytnnkfopopanfjaa.wholePackets
open Go.ChangeShapes Go.WideShapes Go.ChangeAt Go.RowKit
open Go.ChangeMaps (open_string shut_string)
set_option maxRecDepth 100000 in
theorem lifted (os : Os) (started : os.Started) (H : Type) (enc : TypeId × Value → H) :
    ReturnsInHanded {} Try.checked os 4 .any (Rows.wholePacketsSpec.pre6 enc Try.prog Try.f4 Rows.wholePacketsRow.domain false) (Rows.wholePacketsSpec.post enc Try.prog Try.f4 false true false false) := by
  refine returnsInHanded_of_change_sized (C := Try.checked) own0 started (by kernel_rfl) Try.func4
    (ChangeSpec.witness6 (enc := enc) (C := Try.checked) false ⟨#[], #[.agg #[.int .i64 0, .int .i64 0, .int .i64 0, .int .i64 0, .int .i64 0, .int .u64 0, .slice none 0 0, .slice none 0 0]], []⟩ 8 (by kernel_rfl) (by kernel_rfl) (by kernel_rfl) (by kernel_rfl)) ?_
  intro W base args ds gs before hval0 hW hcnd hsz0 _
  have hval : ∀ (j : Nat) t v, Try.f4.params[j]? = some t → args[j]? = some v → Value.okWide Try.prog W .any base t v := hval0
  have hW' := hW
  obtain ⟨p, q, hA0, hV, rfl, hfz, hnd⟩ := hW
  have hA : DataW.TrodAll enc Try.prog W 0 (fun _ => true) true Try.f4.params.toList args.toList ds p := hA0
  rw [Try.params4] at hA hval
  obtain ⟨v0, vs0, d0, ds0, p0, q0, hargs, rfl, rfl, h0, r0⟩ := trodAll_cons hA
  obtain ⟨rfl, rfl, rfl⟩ := trodAll_nil r0
  obtain rfl : args = #[v0] := by cases args; simp_all
  obtain ⟨rfl, rfl⟩ := trodVars_none hV
  have k0 := h0
  have lt0 : ∀ x ∈ p0, x.block < W.heap.size := by obtain ⟨m, hm⟩ := k0; exact DataW.trod_lt m _ _ _ hm
  obtain ⟨kp0, ks0, kl0, kA0, kc0, ki0, kB0, ke0, rfl, kw0, kws0, ko0, kn0⟩ := open_case14 (hval 0 39 v0 rfl rfl) (fun _ => rfl) h0
  clear hA0 hval0 hsz0
  have HW : Calls Try.prog 4 #[.agg #[.int .i64 kp0.n, .int .i64 kp0.b, .int .i64 kp0.q, .int .i64 kp0.eps, .int .i64 kp0.f, .int .u64 (ks0 : Int), .slice kA0 (List.length kl0) kc0, .slice kB0 (List.length ki0) ke0]] W fun e w' => e = .returned (.bool true) ∧ Keeps NoB W w' := by
    exact wholePackets_walk kp0 ks0 kl0 kA0 kc0 ki0 kB0 ke0 W kw0 kws0 ko0.2.2 ko0.1 ko0.2.1 kn0
  refine HW.mono fun e W' ⟨he, kp⟩ => ?_
  have bel := kp.below
  subst he
  exact ⟨_, rfl, _, _, _, [], _, [], hW', trodAll_mk1 (shut_bool Try.underlying4 _), (trodAll_cons_mk (Below.trod laidOut0 (by kernel_rfl) (of_decide_eq_true (by kernel_rfl)) k0 bel lt0) trodAll_mk0), rfl, bel.frame _, fun h => by cases h⟩
theorem over : Rows.wholePacketsRow.holds Try.pinned (OpenSpec.ofChange Rows.wholePacketsSpec) :=
  OpenClaim.holds_of_wide 4 Try.f4 rfl rfl rfl rfl rfl rfl rfl ⟨rfl, rfl, rfl, rfl, rfl⟩ rfl rfl rfl rfl rfl (by kernel_rfl) Try.func4 (by kernel_rfl)
    (of_decide_eq_true (by kernel_rfl)) (by unfold Func.isWrapper; first | (rw [if_pos (by decide +kernel)]; kernel_rfl) | (rw [if_neg (by decide +kernel)]; exact ⟨rfl, rfl⟩))
    (fun os started H enc _ => lifted os started H enc)
end Go.Proofs.Ytnnkfopopanfjaa.wholePackets
namespace Go.Proofs.Ytnnkfopopanfjaa
/-- The row of the law WholePackets. -/
theorem wholePackets_holds : Rows.WholePacketsSaid := wholePackets.over
#print axioms wholePackets_holds
end Go.Proofs.Ytnnkfopopanfjaa
