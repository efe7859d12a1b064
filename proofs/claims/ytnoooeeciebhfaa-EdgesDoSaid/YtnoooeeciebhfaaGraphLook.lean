/- The graph looked at: Has, Rest, Of, Equations, Edges, Most walked. Conditions: the graph is small. -/
import Derived.Test.YtnoooeeciebhfaaGraphKeys
set_option linter.unusedVariables false
namespace Go.Proofs.Ytnoooeeciebhfaa
open Go.RowKit Go.ChangeShapes

section
variable {w w' : World} {base gb n : Nat} {F : GF} {c p : Int}
theorem GSt.keeps (h : GSt w base gb n F c p) {S : Nat → Prop} (hk : Keeps S w w') (hb : ¬ S gb) (hm : ∀ b, IsMapB w b → ¬ S b) : GSt w' base gb n F c p := by
  obtain ⟨h1, ρ, ω, h2, h3⟩ := h
  refine ⟨h1, ρ, ω, hk.heap h2 hb, ?_⟩
  rcases h3 with h3 | ⟨β, e1, e2, h3⟩
  · exact .inl h3
  · exact .inr ⟨β, e1, e2, MapsAt.keeps h3 hk hm⟩
theorem GSt.kept (h : GSt w base gb n F c p) (hk : Keeps NoB w w') : GSt w' base gb n F c p := h.keeps hk (fun h => h) (fun _ _ h => h)
theorem GSt.mono {n' : Nat} (h : GSt w base gb n F c p) (hn : n ≤ n') : GSt w base gb n' F c p := by
  obtain ⟨h1, ρ, ω, h2, h3⟩ := h
  refine ⟨h1, ρ, ω, h2, ?_⟩
  rcases h3 with h3 | ⟨β, e1, e2, h3⟩
  · exact .inl h3
  · exact .inr ⟨β, e1, e2, MapsAt.mono h3 hn⟩
theorem GSt.lt (h : GSt w base gb n F c p) : gb < w.heap.size := by
  obtain ⟨h1, ρ, ω, h2, h3⟩ := h
  exact (Array.getElem?_eq_some_iff.1 h2).1
theorem GBox.cells {ρ ω : Option Nat} (h : GBox w gb ρ ω c p) : w.cell? ⟨gb, 0, none⟩ = some (.map ρ) ∧ w.cell? ⟨gb, 1, none⟩ = some (.map ω) ∧ w.cell? ⟨gb, 2, none⟩ = some (.int .i64 c) ∧ w.cell? ⟨gb, 3, none⟩ = some (.int .i64 p) := by
  have h : w.heap[gb]? = _ := h
  simp [World.cell?, h]
/-- What its parts hold. -/
theorem GSt.view (h : GSt w base gb n F c p) : ∃ ρ ω fr fo, GBox w gb ρ ω c p ∧ MapV w (.map ρ) n fr ∧ MapV w (.map ω) n fo ∧ (∀ x, (fr x).isSome = (F x).isSome) ∧ (∀ x, ∃ v, (fr x).getD (.map none) = v ∧ MapV w v n (setV (hasF F x))) ∧ (∀ y, ∃ v, (fo y).getD (.map none) = v ∧ MapV w v n (setV (fun x => hasF F x y))) := by
  obtain ⟨h1, ρ, ω, h2, h3⟩ := h
  rcases h3 with ⟨rfl, rfl, rfl⟩ | ⟨β, rfl, rfl, h3⟩
  · exact ⟨none, none, _, _, h2, MapV.nil w n, MapV.nil w n, fun x => rfl, fun x => ⟨_, rfl, MapV.nil w n⟩, fun y => ⟨_, rfl, MapV.nil w n⟩⟩
  · refine ⟨_, _, _, _, h2, MapV.of (GRaw.restAt h3), MapV.of (GRaw.ofAt h3), fun x => by cases F x <;> rfl, fun x => ?_, fun y => ?_⟩
    · cases hf : F x with
      | none =>
        refine ⟨_, rfl, ?_⟩
        rw [show hasF F x = fun _ => false from funext fun y => hasF_none hf y]
        exact MapV.nil w n
      | some s =>
        refine ⟨_, rfl, ?_⟩
        rw [show hasF F x = s from funext fun y => hasF_some hf y]
        exact MapV.of (GRaw.eqAt h3 hf)
    · cases hf : ofF F y with
      | none =>
        refine ⟨_, rfl, ?_⟩
        rw [show (fun x => hasF F x y) = fun _ => false from funext fun x => by rw [← hasF_of, hasF_none hf]]
        exact MapV.nil w n
      | some s =>
        refine ⟨_, rfl, ?_⟩
        rw [show (fun x => hasF F x y) = s from funext fun x => by rw [← hasF_of, hasF_some hf]]
        exact MapV.of (GRaw.blkAt h3 hf)
end
theorem zero_map (w : World) : (zeroValue 71).run Try.prog w = .ok (.map none) w := by kernel_rfl
set_option maxHeartbeats 1600000 in
set_option maxRecDepth 20000 in
theorem ghas_calls (base gb n : Nat) (F : GF) (c p x : Int) (w : World) (h : GSt w base gb n F c p) (hx : (Lit.int .i64 x).wf = true) : Calls Try.prog 27 #[.pointer (some ⟨gb, 0, none⟩), .int .i64 x] w fun e w' => e = .returned (.bool (F x).isSome) ∧ Keeps NoB w w' := by
  obtain ⟨ρ, ω, fr, fo, hbx, hr, ho, h1, h2, h3⟩ := h.view
  obtain ⟨v, hv, hv2⟩ := h2 x
  have HR := hid hr
  have H1 := hid (h1 x)
  have HV := hid hv
  have HX := hid hx
  have c0 := hbx.cells.1
  clear h hbx hr ho h1 h2 h3 hv hv2 hx
  obtain ⟨r, hr⟩ : ∃ r, (F x).isSome = r := ⟨_, rfl⟩
  rw [hr] at H1 ⊢
  clear hr
  go_enter Try.func27, Try.ntmps27
  go_wp2_with (at_lookup; go_must (refine wpList_look_ok_v _ rfl _ _ 24 rfl 71 Try.underlying24 (.map none) (zero_map _) (.map ρ) n fr rfl HR.out x rfl HX.out v HV.out r H1.out ?_))
  go_ret
  exact ⟨rfl, Keeps.refl _ _⟩
set_option maxHeartbeats 1600000 in
set_option maxRecDepth 20000 in
theorem grest_calls (base gb n : Nat) (F : GF) (c p x : Int) (w : World) (h : GSt w base gb n F c p) (hx : (Lit.int .i64 x).wf = true) (hn : n ≤ 1000000000) : Calls Try.prog 15 #[.pointer (some ⟨gb, 0, none⟩), .int .i64 x] w fun e w' => ∃ v l, e = .returned v ∧ OwnInts w' w.heap.size .i64 3 v l ∧ KeysOf (hasF F x) l ∧ Keeps NoB w w' := by
  obtain ⟨ρ, ω, fr, fo, hbx, hr, ho, h1, h2, h3⟩ := h.view
  obtain ⟨v, hv, hv2⟩ := h2 x
  have HR := hid hr
  have HV := hid hv
  have HV2 := hid hv2
  have HX := hid hx
  have c0 := hbx.cells.1
  clear h hbx hr ho h1 h2 h3 hv hv2 hx
  go_enter Try.func15, Try.ntmps15
  go_wp2_with (at_lookup; go_must (refine wpList_look_v _ rfl _ _ 24 rfl 71 Try.underlying24 (.map none) (zero_map _) (.map ρ) n fr rfl HR.out x rfl HX.out v HV.out ?_))
  refine (keys_calls v n _ w HV2.out hn).mono ?_
  rintro e w1 ⟨v1, l, rfl, ho, hl, hk⟩
  have HO := hid ho
  have HL := hid hl
  have HK := hid hk
  clear ho hl hk
  go_wp2_with fail
  go_ret
  exact ⟨_, _, rfl, HO.out, HL.out, HK.out⟩
set_option maxHeartbeats 1600000 in
set_option maxRecDepth 20000 in
theorem gof_calls (base gb n : Nat) (F : GF) (c p x : Int) (w : World) (h : GSt w base gb n F c p) (hx : (Lit.int .i64 x).wf = true) (hn : n ≤ 1000000000) : Calls Try.prog 18 #[.pointer (some ⟨gb, 0, none⟩), .int .i64 x] w fun e w' => ∃ v l, e = .returned v ∧ OwnInts w' w.heap.size .i64 3 v l ∧ KeysOf (fun z => hasF F z x) l ∧ Keeps NoB w w' := by
  obtain ⟨ρ, ω, fr, fo, hbx, hr, ho, h1, h2, h3⟩ := h.view
  obtain ⟨v, hv, hv2⟩ := h3 x
  have HR := hid ho
  have HV := hid hv
  have HV2 := hid hv2
  have HX := hid hx
  have c0 := hbx.cells.2.1
  clear h hbx hr ho h1 h2 h3 hv hv2 hx
  go_enter Try.func18, Try.ntmps18
  go_wp2_with (at_lookup; go_must (refine wpList_look_v _ rfl _ _ 24 rfl 71 Try.underlying24 (.map none) (zero_map _) (.map ω) n fo rfl HR.out x rfl HX.out v HV.out ?_))
  refine (keys_calls v n _ w HV2.out hn).mono ?_
  rintro e w1 ⟨v1, l, rfl, ho, hl, hk⟩
  have HO := hid ho
  have HL := hid hl
  have HK := hid hk
  clear ho hl hk
  go_wp2_with fail
  go_ret
  exact ⟨_, _, rfl, HO.out, HL.out, HK.out⟩
set_option maxHeartbeats 1600000 in
set_option maxRecDepth 20000 in
theorem gequations_calls (base gb n : Nat) (F : GF) (c p : Int) (w : World) (h : GSt w base gb n F c p) (K : List Int) (hK : K.Nodup) (hm : ∀ x, x ∈ K ↔ (F x).isSome = true) : Calls Try.prog 12 #[.pointer (some ⟨gb, 0, none⟩)] w fun e w' => e = .returned (.int .i64 (K.length : Int)) ∧ Keeps NoB w w' := by
  obtain ⟨ρ, ω, fr, fo, hbx, hr, ho, h1, h2, h3⟩ := h.view
  have HR := hid hr
  have HM := hid (show ∀ x, x ∈ K ↔ (fr x).isSome = true from fun x => by rw [hm, h1])
  have HN := hid hK
  have c0 := hbx.cells.1
  clear h hbx hr ho h1 h2 h3 hm hK
  go_enter Try.func12, Try.ntmps12
  go_wp2_with (at_len; refine wpList_len_v _ rfl _ 24 rfl 71 Try.underlying24 (.map ρ) n fr rfl HR.out K HN.out HM.out ?_)
  go_ret
  exact ⟨rfl, Keeps.refl _ _⟩
theorem gedges_calls (base gb n : Nat) (F : GF) (c p : Int) (w : World) (h : GSt w base gb n F c p) : Calls Try.prog 16 #[.pointer (some ⟨gb, 0, none⟩)] w fun e w' => e = .returned (.int .i64 c) ∧ Keeps NoB w w' := by
  obtain ⟨ρ, ω, fr, fo, hbx, hr, ho, h1, h2, h3⟩ := h.view
  have c0 := hbx.cells.2.2.1
  clear h hbx hr ho h1 h2 h3
  go_enter Try.func16, Try.ntmps16
  go_wp2_with fail
  go_ret
  exact ⟨rfl, Keeps.refl _ _⟩
theorem gmost_calls (base gb n : Nat) (F : GF) (c p : Int) (w : World) (h : GSt w base gb n F c p) : Calls Try.prog 39 #[.pointer (some ⟨gb, 0, none⟩)] w fun e w' => e = .returned (.int .i64 p) ∧ Keeps NoB w w' := by
  obtain ⟨ρ, ω, fr, fo, hbx, hr, ho, h1, h2, h3⟩ := h.view
  have c0 := hbx.cells.2.2.2
  clear h hbx hr ho h1 h2 h3
  go_enter Try.func39, Try.ntmps39
  go_wp2_with fail
  go_ret
  exact ⟨rfl, Keeps.refl _ _⟩
end Go.Proofs.Ytnoooeeciebhfaa
