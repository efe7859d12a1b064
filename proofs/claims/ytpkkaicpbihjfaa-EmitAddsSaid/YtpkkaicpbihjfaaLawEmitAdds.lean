/- The row of the law EmitAdds: for every input it returns true, and each argument reads as it read. No condition. -/
import Derived.Test.YtpkkaicpbihjfaaG1
import Derived.Test.YtpkkaicpbihjfaaEmitAdds
import Derived.Test.YtpkkaicpbihjfaaG5
set_option linter.unusedVariables false
namespace Go.Proofs.Ytpkkaicpbihjfaa.emitAdds
open Go.ChangeShapes Go.WideShapes Go.ChangeAt Go.RowKit
open Go.ChangeMaps (open_string shut_string)
set_option maxRecDepth 100000 in
theorem lifted (os : Os) (started : os.Started) (H : Type) (enc : TypeId × Value → H) :
    ReturnsInHanded {} Try.checked os 8 .any (Rows.emitAddsSpec.pre6 enc Try.prog Try.f8 Rows.emitAddsRow.domain false) (Rows.emitAddsSpec.post enc Try.prog Try.f8 false true false false) := by
  refine returnsInHanded_of_change_sized (C := Try.checked) own0 started (by kernel_rfl) Try.func8
    (ChangeSpec.witness6 (enc := enc) (C := Try.checked) false ⟨#[], #[.agg #[.int .i64 0, .int .i64 0, .int .i64 0, .int .i64 0, .int .i64 0, .int .u64 0, .slice none 0 0, .slice none 0 0], .slice none 0 0], []⟩ 8 (by kernel_rfl) (by kernel_rfl) (by kernel_rfl) (by kernel_rfl)) ?_
  intro W base args ds gs before hval0 hW hcnd hsz0 _
  have hval : ∀ (j : Nat) t v, Try.f8.params[j]? = some t → args[j]? = some v → Value.okWide Try.prog W .any base t v := hval0
  have hW' := hW
  obtain ⟨p, q, hA0, hV, rfl, hfz, hnd⟩ := hW
  have hA : DataW.TrodAll enc Try.prog W 0 (fun _ => true) true Try.f8.params.toList args.toList ds p := hA0
  rw [Try.params8] at hA hval
  obtain ⟨v0, vs0, d0, ds0, p0, q0, hargs, rfl, rfl, h0, r0⟩ := trodAll_cons hA
  obtain ⟨v1, vs1, d1, ds1, p1, q1, rfl, rfl, rfl, h1, r1⟩ := trodAll_cons r0
  obtain ⟨rfl, rfl, rfl⟩ := trodAll_nil r1
  obtain rfl : args = #[v0, v1] := by cases args; simp_all
  obtain ⟨rfl, rfl⟩ := trodVars_none hV
  have k0 := h0
  have lt0 : ∀ x ∈ p0, x.block < W.heap.size := by obtain ⟨m, hm⟩ := k0; exact DataW.trod_lt m _ _ _ hm
  obtain ⟨kp0, ks0, kl0, kA0, kc0, ki0, kB0, ke0, rfl, kw0, kws0, ko0, kn0⟩ := open_case14 (hval 0 45 v0 rfl rfl) (fun _ => rfl) h0
  obtain ⟨a1, len1, cap1, rfl⟩ := okWide_slice Try.underlying25 (hval 1 25 v1 rfl rfl)
  have k1 := h1
  have lt1 : ∀ x ∈ p1, x.block < W.heap.size := by obtain ⟨m, hm⟩ := k1; exact DataW.trod_lt m _ _ _ hm
  obtain ⟨z1, w1⟩ : ∃ zs, IsRow .u8 W a1 len1 cap1 zs := by
    obtain ⟨fuel, hf⟩ := h1
    rcases open_ints Try.underlying25 Try.underlying5 (by kernel_rfl) hf with ⟨hcs, _⟩ | ⟨x, l, c, zs, hcs, _, hl, hm, hz, _, hcell, hwz⟩
    · simp [Value.cells] at hcs
      obtain ⟨rfl, rfl, rfl⟩ := hcs
      exact ⟨[], .inl ⟨rfl, rfl, rfl, rfl⟩⟩
    · simp [Value.cells] at hcs
      obtain ⟨rfl, rfl, rfl⟩ := hcs
      exact ⟨zs, .inr ⟨_, rfl, hl, hm, by simpa using hz, hcell, hwz⟩⟩
  obtain ⟨x1, rfl, xc1, xa1, xw1⟩ := w1.ints
  clear hA0 hval0 hsz0
  have HW : Calls Try.prog 8 #[.agg #[.int .i64 kp0.n, .int .i64 kp0.b, .int .i64 kp0.q, .int .i64 kp0.eps, .int .i64 kp0.f, .int .u64 (ks0 : Int), .slice kA0 (List.length kl0) kc0, .slice kB0 (List.length ki0) ke0], .slice a1 x1.length cap1] W fun e w' => e = .returned (.bool true) ∧ Keeps NoB W w' := by
    obtain ⟨l, hl, hbi⟩ := BytesIn.ofInts xa1 xw1; have hc := xc1; have hz : a1 = none → cap1 = 0 := (fun e => by rcases w1 with ⟨_, _, h, _⟩ | ⟨_, h, _⟩; exact h; rw [h] at e; cases e); rw [hl]; exact emitAdds_walk kp0 ks0 kl0 kA0 kc0 ki0 kB0 ke0 l a1 cap1 W kw0 kws0 ko0.2.2 ko0.1 ko0.2.1 kn0 hbi (by omega) hz
  refine HW.mono fun e W' ⟨he, kp⟩ => ?_
  have bel := kp.below
  subst he
  exact ⟨_, rfl, _, _, _, [], _, [], hW', trodAll_mk1 (shut_bool Try.underlying4 _), (trodAll_cons_mk (Below.trod laidOut0 (by kernel_rfl) (of_decide_eq_true (by kernel_rfl)) k0 bel lt0) (trodAll_cons_mk (Below.trod laidOut0 (by kernel_rfl) (of_decide_eq_true (by kernel_rfl)) k1 bel lt1) trodAll_mk0)), rfl, bel.frame _, fun h => by cases h⟩
theorem over : Rows.emitAddsRow.holds Try.pinned (OpenSpec.ofChange Rows.emitAddsSpec) :=
  OpenClaim.holds_of_wide 8 Try.f8 rfl rfl rfl rfl rfl rfl rfl ⟨rfl, rfl, rfl, rfl, rfl⟩ rfl rfl rfl rfl rfl (by kernel_rfl) Try.func8 (by kernel_rfl)
    (of_decide_eq_true (by kernel_rfl)) (by unfold Func.isWrapper; first | (rw [if_pos (by decide +kernel)]; kernel_rfl) | (rw [if_neg (by decide +kernel)]; exact ⟨rfl, rfl⟩))
    (fun os started H enc _ => lifted os started H enc)
end Go.Proofs.Ytpkkaicpbihjfaa.emitAdds
namespace Go.Proofs.Ytpkkaicpbihjfaa
/-- The row of the law EmitAdds. -/
theorem emitAdds_holds : Rows.EmitAddsSaid := emitAdds.over
#print axioms emitAdds_holds
end Go.Proofs.Ytpkkaicpbihjfaa
