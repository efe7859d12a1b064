/- The row of the law ComposeAdds: for every input it returns true, and each argument reads as it read. No condition. -/
import Derived.Test.YtpkkaicpbihjfaaG1
import Derived.Test.YtpkkaicpbihjfaaComposeAdds
import Derived.Test.YtpkkaicpbihjfaaG5
set_option linter.unusedVariables false
namespace Go.Proofs.Ytpkkaicpbihjfaa.composeAdds
open Go.ChangeShapes Go.WideShapes Go.ChangeAt Go.RowKit
open Go.ChangeMaps (open_string shut_string)
set_option maxRecDepth 100000 in
theorem lifted (os : Os) (started : os.Started) (H : Type) (enc : TypeId × Value → H) :
    ReturnsInHanded {} Try.checked os 4 .any (Rows.composeAddsSpec.pre6 enc Try.prog Try.f4 Rows.composeAddsRow.domain false) (Rows.composeAddsSpec.post enc Try.prog Try.f4 false true false false) := by
  refine returnsInHanded_of_change_sized (C := Try.checked) own0 started (by kernel_rfl) Try.func4
    (ChangeSpec.witness6 (enc := enc) (C := Try.checked) false ⟨#[], #[.agg #[.int .i64 0, .int .i64 0, .int .i64 0, .int .i64 0, .int .i64 0], .int .u64 0, .agg #[.slice none 0 0, .slice none 0 0]], []⟩ 8 (by kernel_rfl) (by kernel_rfl) (by kernel_rfl) (by kernel_rfl)) ?_
  intro W base args ds gs before hval0 hW hcnd hsz0 _
  have hval : ∀ (j : Nat) t v, Try.f4.params[j]? = some t → args[j]? = some v → Value.okWide Try.prog W .any base t v := hval0
  have hW' := hW
  obtain ⟨p, q, hA0, hV, rfl, hfz, hnd⟩ := hW
  have hA : DataW.TrodAll enc Try.prog W 0 (fun _ => true) true Try.f4.params.toList args.toList ds p := hA0
  rw [Try.params4] at hA hval
  obtain ⟨v0, vs0, d0, ds0, p0, q0, hargs, rfl, rfl, h0, r0⟩ := trodAll_cons hA
  obtain ⟨v1, vs1, d1, ds1, p1, q1, rfl, rfl, rfl, h1, r1⟩ := trodAll_cons r0
  obtain ⟨v2, vs2, d2, ds2, p2, q2, rfl, rfl, rfl, h2, r2⟩ := trodAll_cons r1
  obtain ⟨rfl, rfl, rfl⟩ := trodAll_nil r2
  obtain rfl : args = #[v0, v1, v2] := by cases args; simp_all
  obtain ⟨rfl, rfl⟩ := trodVars_none hV
  have k0 := h0
  have lt0 : ∀ x ∈ p0, x.block < W.heap.size := by obtain ⟨m, hm⟩ := k0; exact DataW.trod_lt m _ _ _ hm
  obtain ⟨par0, rfl, pw0⟩ := open_par (hval 0 23 v0 rfl rfl) h0
  obtain ⟨a1, rfl, rfl, rfl, w1⟩ := open_int Try.underlying24 (hval 1 24 v1 rfl rfl) h1
  have k2 := h2
  have lt2 : ∀ x ∈ p2, x.block < W.heap.size := by obtain ⟨m, hm⟩ := k2; exact DataW.trod_lt m _ _ _ hm
  obtain ⟨sl2, sA2, sc2, tl2, tA2, tc2, rfl, s2, t2⟩ := open_two (hval 2 37 v2 rfl rfl) (fun _ => rfl) h2
  clear hA0 hval0 hsz0
  have HW : Calls Try.prog 4 #[par0.val, .int .u64 a1, .agg #[.slice sA2 (List.length sl2) sc2, .slice tA2 (List.length tl2) tc2]] W fun e w' => e = .returned (.bool true) ∧ Keeps NoB W w' := by
    have hb := wf_u64_bounds w1; obtain ⟨m, hm⟩ : ∃ m : Nat, a1 = (m : Int) := ⟨a1.toNat, by omega⟩; rw [hm]; exact composeAdds_walk par0 m sl2 tl2 sA2 tA2 sc2 tc2 W pw0 (by omega) s2.2.2 s2.1 t2.2.2 t2.1 s2.2.1 t2.2.1
  refine HW.mono fun e W' ⟨he, kp⟩ => ?_
  have bel := kp.below
  subst he
  exact ⟨_, rfl, _, _, _, [], _, [], hW', trodAll_mk1 (shut_bool Try.underlying4 _), (trodAll_cons_mk (Below.trod laidOut0 (by kernel_rfl) (of_decide_eq_true (by kernel_rfl)) k0 bel lt0) (trodAll_cons_mk (shut_int Try.underlying24 w1) (trodAll_cons_mk (Below.trod laidOut0 (by kernel_rfl) (of_decide_eq_true (by kernel_rfl)) k2 bel lt2) trodAll_mk0))), rfl, bel.frame _, fun h => by cases h⟩
theorem over : Rows.composeAddsRow.holds Try.pinned (OpenSpec.ofChange Rows.composeAddsSpec) :=
  OpenClaim.holds_of_wide 4 Try.f4 rfl rfl rfl rfl rfl rfl rfl ⟨rfl, rfl, rfl, rfl, rfl⟩ rfl rfl rfl rfl rfl (by kernel_rfl) Try.func4 (by kernel_rfl)
    (of_decide_eq_true (by kernel_rfl)) (by unfold Func.isWrapper; first | (rw [if_pos (by decide +kernel)]; kernel_rfl) | (rw [if_neg (by decide +kernel)]; exact ⟨rfl, rfl⟩))
    (fun os started H enc _ => lifted os started H enc)
end Go.Proofs.Ytpkkaicpbihjfaa.composeAdds
namespace Go.Proofs.Ytpkkaicpbihjfaa
/-- The row of the law ComposeAdds. -/
theorem composeAdds_holds : Rows.ComposeAddsSaid := composeAdds.over
#print axioms composeAdds_holds
end Go.Proofs.Ytpkkaicpbihjfaa
