/- The row of the law SendFrames: for every input it returns true, and each argument reads as it read. No condition. -/
import Derived.Test.YtnnkfopopanfjaaGreatG1
import Derived.Test.YtnnkfopopanfjaaGreatSendFrames
import Derived.Test.YtnnkfopopanfjaaGreatG5
set_option linter.unusedVariables false
namespace Go.Proofs.YtnnkfopopanfjaaGreat.sendFrames
open Go.ChangeShapes Go.WideShapes Go.ChangeAt Go.RowKit
open Go.ChangeMaps (open_string shut_string)
set_option maxRecDepth 100000 in
theorem lifted (os : Os) (started : os.Started) (H : Type) (enc : TypeId × Value → H) :
    ReturnsInHanded {} Tryz.checked os 3 .any (Rows.sendFramesSpec.pre6 enc Tryz.prog Tryz.f3 Rows.sendFramesRow.domain false) (Rows.sendFramesSpec.post enc Tryz.prog Tryz.f3 false true false false) := by
  refine returnsInHanded_of_change_sized (C := Tryz.checked) own0 started (by kernel_rfl) Tryz.func3
    (ChangeSpec.witness6 (enc := enc) (C := Tryz.checked) false ⟨#[], #[.agg #[.int .i64 0, .int .i64 0, .int .i64 0, .int .i64 0, .int .i64 0, .int .u64 0, .slice none 0 0, .slice none 0 0], .int .u64 0, .int .u8 0], []⟩ 8 (by kernel_rfl) (by kernel_rfl) (by kernel_rfl) (by kernel_rfl)) ?_
  intro W base args ds gs before hval0 hW hcnd hsz0 _
  have hval : ∀ (j : Nat) t v, Tryz.f3.params[j]? = some t → args[j]? = some v → Value.okWide Tryz.prog W .any base t v := hval0
  have hW' := hW
  obtain ⟨p, q, hA0, hV, rfl, hfz, hnd⟩ := hW
  have hA : DataW.TrodAll enc Tryz.prog W 0 (fun _ => true) true Tryz.f3.params.toList args.toList ds p := hA0
  rw [Tryz.params3] at hA hval
  obtain ⟨v0, vs0, d0, ds0, p0, q0, hargs, rfl, rfl, h0, r0⟩ := trodAll_cons hA
  obtain ⟨v1, vs1, d1, ds1, p1, q1, rfl, rfl, rfl, h1, r1⟩ := trodAll_cons r0
  obtain ⟨v2, vs2, d2, ds2, p2, q2, rfl, rfl, rfl, h2, r2⟩ := trodAll_cons r1
  obtain ⟨rfl, rfl, rfl⟩ := trodAll_nil r2
  obtain rfl : args = #[v0, v1, v2] := by cases args; simp_all
  obtain ⟨rfl, rfl⟩ := trodVars_none hV
  have k0 := h0
  have lt0 : ∀ x ∈ p0, x.block < W.heap.size := by obtain ⟨m, hm⟩ := k0; exact DataW.trod_lt m _ _ _ hm
  obtain ⟨kp0, ks0, kl0, kA0, kc0, ki0, kB0, ke0, rfl, kw0, kws0, ko0, kn0⟩ := open_case14 (hval 0 28 v0 rfl rfl) (fun _ => rfl) h0
  obtain ⟨a1, rfl, rfl, rfl, w1⟩ := open_int Tryz.underlying24 (hval 1 24 v1 rfl rfl) h1
  obtain ⟨a2, rfl, rfl, rfl, w2⟩ := open_int Tryz.underlying5 (hval 2 5 v2 rfl rfl) h2
  clear hA0 hval0 hsz0
  have HW : Calls Tryz.prog 3 #[.agg #[.int .i64 kp0.n, .int .i64 kp0.b, .int .i64 kp0.q, .int .i64 kp0.eps, .int .i64 kp0.f, .int .u64 (ks0 : Int), .slice kA0 (List.length kl0) kc0, .slice kB0 (List.length ki0) ke0], .int .u64 a1, .int .u8 a2] W fun e w' => e = .returned (.bool true) ∧ Keeps NoB W w' := by
    have hb := wf_u64_bounds w1; obtain ⟨m, hm⟩ : ∃ m : Nat, a1 = (m : Int) := ⟨a1.toNat, by omega⟩; have hu := wf_u8_bounds w2; rw [hm]; exact sendFrames_walk kp0 ks0 kl0 kA0 kc0 ki0 kB0 ke0 m a2 W kw0 kws0 ko0.2.2 ko0.1 ko0.2.1 kn0 (by omega) (by omega) (by omega)
  refine HW.mono fun e W' ⟨he, kp⟩ => ?_
  have bel := kp.below
  subst he
  exact ⟨_, rfl, _, _, _, [], _, [], hW', trodAll_mk1 (shut_bool Tryz.underlying4 _), (trodAll_cons_mk (Below.trod laidOut0 (by kernel_rfl) (of_decide_eq_true (by kernel_rfl)) k0 bel lt0) (trodAll_cons_mk (shut_int Tryz.underlying24 w1) (trodAll_cons_mk (shut_int Tryz.underlying5 w2) trodAll_mk0))), rfl, bel.frame _, fun h => by cases h⟩
theorem over : Rows.sendFramesRow.holds Tryz.pinned (OpenSpec.ofChange Rows.sendFramesSpec) :=
  OpenClaim.holds_of_wide 3 Tryz.f3 rfl rfl rfl rfl rfl rfl rfl ⟨rfl, rfl, rfl, rfl, rfl⟩ rfl rfl rfl rfl rfl (by kernel_rfl) Tryz.func3 (by kernel_rfl)
    (of_decide_eq_true (by kernel_rfl)) (by unfold Func.isWrapper; first | (rw [if_pos (by decide +kernel)]; kernel_rfl) | (rw [if_neg (by decide +kernel)]; exact ⟨rfl, rfl⟩))
    (fun os started H enc _ => lifted os started H enc)
end Go.Proofs.YtnnkfopopanfjaaGreat.sendFrames
namespace Go.Proofs.YtnnkfopopanfjaaGreat
/-- The row of the law SendFrames. -/
theorem sendFrames_holds : Rows.SendFramesSaid := sendFrames.over
#print axioms sendFrames_holds
end Go.Proofs.YtnnkfopopanfjaaGreat
