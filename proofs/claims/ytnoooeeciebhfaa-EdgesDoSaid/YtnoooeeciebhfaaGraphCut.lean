/- An edge of the graph cut: cut walked. Conditions: the edge is there. -/
import Derived.Test.YtnoooeeciebhfaaGraphLook
import Derived.IntWalk
set_option linter.unusedVariables false
namespace Go.Proofs.Ytnoooeeciebhfaa
open Go.RowKit Go.ChangeShapes

def cutF (F : GF) (x b : Int) : GF := updF F x ((F x).map fun s y => !decide (y = b) && s y)
theorem cutF_isSome (F : GF) (x b z : Int) : (cutF F x b z).isSome = (F z).isSome := by
  unfold cutF updF
  by_cases e : z = x
  · rw [if_pos e, e]; cases F x <;> rfl
  · rw [if_neg e]
theorem hasF_cut (F : GF) (x b z y : Int) : hasF (cutF F x b) z y = (hasF F z y && !(decide (z = x) && decide (y = b))) := by
  unfold hasF cutF updF
  by_cases e : z = x
  · rw [if_pos e, e]
    cases F x with
    | none => rfl
    | some s => simp [Bool.and_comm]
  · rw [if_neg e]
    cases F z with
    | none => rfl
    | some s => simp [e]
theorem ofF_eq {F : GF} {O : GF} (h1 : ∀ y, (O y).isSome = true → ∃ x, hasF F x y = true) (h2 : ∀ x y, hasF O y x = hasF F x y) : O = ofF F := by
  refine GF.ext (fun y => ?_) (fun y x => by rw [h2, hasF_of])
  cases hy : (O y).isSome with
  | true =>
    obtain ⟨x, hx⟩ := h1 y hy
    rw [ofF_some hx]; rfl
  | false =>
    have h0 : O y = none := by cases ho : O y with
      | none => rfl
      | some s => rw [ho] at hy; cases hy
    rw [ofF_none (fun x => by rw [← h2, hasF_none h0])]; rfl
theorem updF_same (F : GF) (x : Int) (o : Option (Int → Bool)) : updF F x o x = o := if_pos rfl
theorem updF_ne (F : GF) {x z : Int} (o : Option (Int → Bool)) (h : z ≠ x) : updF F x o z = F z := if_neg h
theorem hasF_upd (F : GF) (x : Int) (s : Int → Bool) (z y : Int) : hasF (updF F x (some s)) z y = if z = x then s y else hasF F z y := by
  unfold hasF updF
  by_cases e : z = x
  · rw [if_pos e, if_pos e]
  · rw [if_neg e, if_neg e]
theorem hasF_upd_none (F : GF) (x : Int) (z y : Int) : hasF (updF F x none) z y = (!decide (z = x) && hasF F z y) := by
  unfold hasF updF
  by_cases e : z = x
  · rw [if_pos e]; simp [e]
  · rw [if_neg e]; simp [e]
theorem ofF_isSome {F : GF} {y : Int} (h : (ofF F y).isSome = true) : ∃ x, hasF F x y = true := by
  unfold ofF at h
  by_cases h1 : ∃ x, hasF F x y = true
  · exact h1
  · rw [if_neg h1] at h; cases h
/-- The blocks' maps after a cut: some equation has the block still. -/
theorem ofF_cut_some {F : GF} {x b z : Int} (hz : hasF F z b = true) (hzx : z ≠ x) : updF (ofF F) b (some fun z => !decide (z = x) && hasF F z b) = ofF (cutF F x b) := by
  refine ofF_eq (fun y hy => ?_) (fun u y => ?_)
  · by_cases e : y = b
    · exact ⟨z, by rw [hasF_cut, e, hz]; simp [hzx]⟩
    · rw [updF_ne _ _ e] at hy
      obtain ⟨u, hu⟩ := ofF_isSome hy
      exact ⟨u, by rw [hasF_cut, hu]; simp [e]⟩
  · rw [hasF_upd, hasF_cut]
    by_cases e : y = b
    · rw [if_pos e, e]; simp [Bool.and_comm]
    · rw [if_neg e, hasF_of]; simp [e]
theorem ofF_cut_none {F : GF} {x b : Int} (h : ∀ z, hasF F z b = true → z = x) : updF (ofF F) b none = ofF (cutF F x b) := by
  refine ofF_eq (fun y hy => ?_) (fun u y => ?_)
  · by_cases e : y = b
    · rw [e, updF_same] at hy; cases hy
    · rw [updF_ne _ _ e] at hy
      obtain ⟨u, hu⟩ := ofF_isSome hy
      exact ⟨u, by rw [hasF_cut, hu]; simp [e]⟩
  · rw [hasF_upd_none, hasF_cut, hasF_of]
    by_cases e : y = b
    · subst e
      cases hu : hasF F u y with
      | true => simp [h u hu]
      | false => simp
    · simp [e]
theorem updF_upd (F : GF) (x : Int) (o o' : Option (Int → Bool)) : updF (updF F x o) x o' = updF F x o' := by
  funext z
  unfold updF
  by_cases e : z = x
  · rw [if_pos e, if_pos e]
  · rw [if_neg e, if_neg e, if_neg e]
theorem GKeep.trans {base gb : Nat} {w w1 w2 : World} (h : GKeep base gb w w1) (k : GKeep base gb w1 w2) : GKeep base gb w w2 := by
  refine Keeps.trans h k (fun i _ hi => hi) (fun i hi hs => ?_)
  by_cases hs1 : base ≤ i ∧ (i = gb ∨ IsMapB w i)
  · exact hs1
  · refine ⟨hs.1, ?_⟩
    rcases hs.2 with h1 | ⟨es, cl, h1⟩
    · exact .inl h1
    · have h2 := h.block i hi hs1
      exact .inr ⟨es, cl, by rw [← h2]; exact h1⟩
theorem GKeep.refl (base gb : Nat) (w : World) : GKeep base gb w w := Keeps.refl _ _
theorem GKeep.nob {base gb : Nat} {w w1 : World} (h : Keeps NoB w w1) : GKeep base gb w w1 := h.mono (fun _ hs _ => hs.elim)
theorem GKeep.map {base gb b n : Nat} {f : Int → Option Value} {w w1 : World} (h : MapAt w b n f) (hb : base ≤ b) (hg : w.grownBy w1 (some b)) : GKeep base gb w w1 := (Keeps.ofGrown hg).mono (fun i e _ => by injection e with e; subst e; exact ⟨hb, .inr h.isMap⟩)
theorem GKeep.box {base gb : Nat} (w : World) (hb : base ≤ gb) (o : Nat) (u : Value) : GKeep base gb w (w.setCell ⟨gb, o, none⟩ u) := (Keeps.one w gb o u).mono (fun i e _ => by have e : i = gb := e; exact ⟨by omega, .inl e⟩)
theorem GBox.grown {w w1 : World} {gb b n : Nat} {f : Int → Option Value} {ρ ω : Option Nat} {c p : Int} (h : GBox w gb ρ ω c p) (hm : MapAt w b n f) (hg : w.grownBy w1 (some b)) : GBox w1 gb ρ ω c p := (Keeps.ofGrown hg).heap h (fun e => by injection e with e; exact hm.ne_cells h e)
theorem GBox.kept {w w1 : World} {gb : Nat} {ρ ω : Option Nat} {c p : Int} (h : GBox w gb ρ ω c p) (hk : Keeps NoB w w1) : GBox w1 gb ρ ω c p := hk.heap h (fun h => h)
theorem GRaw.box {w : World} {base n gb : Nat} {β : GKey → Nat} {F O : GF} {ρ ω : Option Nat} {c p : Int} (h : GRaw w base n β F O) (hb : GBox w gb ρ ω c p) (o : Nat) (u : Value) : GRaw (w.setCell ⟨gb, o, none⟩ u) base n β F O := MapsAt.keeps h (Keeps.one w gb o u) (fun b hb1 e => by
  obtain ⟨es, cl, hb1⟩ := hb1
  have e : b = gb := e
  rw [e, hb] at hb1; cases hb1)
theorem heap_set {w : World} {g o : Nat} {cs : Array Value} {T : TypeId} {fr : Nat × Nat} {u : Value} (h : w.heap[g]? = some (.cells cs T fr)) : (w.setCell ⟨g, o, none⟩ u).heap[g]? = some (.cells (cs.setIfInBounds o u) T fr) := by
  show (w.heap.modify g _)[g]? = _
  rw [Array.getElem?_modify, if_pos rfl, h]; rfl
theorem GBox.setC {w : World} {gb : Nat} {ρ ω : Option Nat} {c p : Int} (h : GBox w gb ρ ω c p) (c' : Int) : GBox (w.setCell ⟨gb, 2, none⟩ (.int .i64 c')) gb ρ ω c' p := heap_set h
theorem GBox.setP {w : World} {gb : Nat} {ρ ω : Option Nat} {c p : Int} (h : GBox w gb ρ ω c p) (p' : Int) : GBox (w.setCell ⟨gb, 3, none⟩ (.int .i64 p')) gb ρ ω c p' := heap_set h
theorem GBox.setM {w : World} {gb : Nat} {ρ ω : Option Nat} {c p : Int} (h : GBox w gb ρ ω c p) (ρ' ω' : Option Nat) : GBox ((w.setCell ⟨gb, 0, none⟩ (.map ρ')).setCell ⟨gb, 1, none⟩ (.map ω')) gb ρ' ω' c p := heap_set (heap_set h)
theorem GBox.free {w : World} {gb : Nat} {ρ ω : Option Nat} {c p : Int} (h : GBox w gb ρ ω c p) (o : Nat) : w.frozen? ⟨gb, o, none⟩ = false := by
  have h : w.heap[gb]? = _ := h
  simp [World.frozen?, h]
set_option maxHeartbeats 1600000 in
set_option maxRecDepth 20000 in
theorem cut_calls (base gb n : Nat) (F : GF) (c p x b : Int) (w : World) (h : GSt w base gb n F c p) (hx : (Lit.int .i64 x).wf = true) (hb : (Lit.int .i64 b).wf = true) (hf : hasF F x b = true) (hc : 1 ≤ c) (hc2 : c ≤ 9000000000000000000) : Calls Try.prog 41 #[.pointer (some ⟨gb, 0, none⟩), .int .i64 x, .int .i64 b] w fun e w' => e = .returned (.tuple #[]) ∧ GSt w' base gb n (cutF F x b) (c - 1) p ∧ GKeep base gb w w' := by
  obtain ⟨hlow, ρ, ω, hbx, h3⟩ := h
  rcases h3 with ⟨rfl, rfl, rfl⟩ | ⟨β, rfl, rfl, hG⟩
  · cases hf
  obtain ⟨s, hs⟩ : ∃ s, F x = some s := by
    cases hs : F x with
    | none => rw [hasF_none hs] at hf; cases hf
    | some s => exact ⟨s, rfl⟩
  have ho := ofF_some hf
  have hsub : IntKind.i64.wrap (c - 1) = c - 1 := IntWalk.i64_in _ (by omega)
  have HG := hid hG
  have HBX := hid hbx
  have HX := hid hx
  have HB := hid hb
  have HF := hid hs
  have HO := hid ho
  have c0 := hbx.cells.1
  clear hG hbx hx hb hs ho
  go_enter Try.func41, Try.ntmps41
  go_upto_region 1 with (first
    | (at_lookup; go_must (refine wpList_look_at _ rfl _ _ 24 rfl 71 Try.underlying24 (.map none) (zero_map _) (β .rest) n _ rfl HG.out.restAt x rfl HX.out (.map (some (β (.eq x)))) (by rw [HF.out]; rfl) ?_))
    | (at_delete; go_must (refine wpList_delete_at _ rfl _ _ 71 rfl 73 Try.underlying71 (β (.eq x)) n (setV s) rfl (HG.out.eqAt HF.out) b rfl HB.out ?_); intro w1 hm1 hg1 hs1; rw [setV_del] at hm1))
  have HE := hid (HG.out.eqAt HF.out)
  have HG1 := hid (HG.out.set_eq HF.out hm1 hg1 (Nat.le_refl _))
  have HBX1 := hid (HBX.out.grown HE.out hg1)
  have HK1 := hid (GKeep.map (gb := gb) HE.out (HG.out.low (.eq x) (by show ((F x).map setV).isSome = true; rw [HF.out]; rfl)) hg1)
  have c1 := HBX1.out.cells.2.1
  clear hm1 hg1 hs1 c0 HE HG
  have HF1 := hid (show updF F x (some (fun y => !decide (y = b) && s y)) = cutF F x b by unfold cutF; rw [HF.out]; rfl)
  rw [HF1.out] at HG1
  go_upto_region 2 with (first
    | (at_lookup; go_must (refine wpList_look_at _ rfl _ _ 24 rfl 71 Try.underlying24 (.map none) (zero_map _) (β .of) n _ rfl HG1.out.ofAt b rfl HB.out (.map (some (β (.blk b)))) (by rw [HO.out]; rfl) ?_))
    | (at_delete; go_must (refine wpList_delete_at _ rfl _ _ 71 rfl 73 Try.underlying71 (β (.blk b)) n (setV fun z => hasF F z b) rfl (HG1.out.blkAt HO.out) x rfl HX.out ?_); intro w2 hm2 hg2 hs2; rw [setV_del] at hm2))
  have HE := hid (HG1.out.blkAt HO.out)
  have HG2 := hid (HG1.out.set_blk HO.out hm2 hg2 (Nat.le_refl _))
  have HBX2 := hid (HBX1.out.grown HE.out hg2)
  have HK2 := hid (HK1.out.trans (GKeep.map (gb := gb) HE.out (HG1.out.low (.blk b) (by show ((ofF F b).map setV).isSome = true; rw [HO.out]; rfl)) hg2))
  have c2 := HBX2.out.cells.2.2.1
  have f2 := HBX2.out.free 2
  clear hm2 hg2 hs2 c1 HE HG1 HK1 HBX1
  go_upto_region 3 with fail
  have HG3 := hid (HG2.out.box HBX2.out 2 (.int .i64 (c - 1)))
  have HBX3 := hid (HBX2.out.setC (c - 1))
  have HK3 := hid (HK2.out.trans (GKeep.box (gb := gb) w2 hlow 2 (.int .i64 (c - 1))))
  generalize hw3 : w2.setCell ⟨gb, 2, none⟩ (.int .i64 (c - 1)) = w3 at *
  clear hw3 HG2 HBX2 HK2 c2 f2
  have c3 := HBX3.out.cells.2.1
  have HO3 := hid (updF_same (ofF F) b (some fun y => !decide (y = x) && hasF F y b))
  obtain ⟨K, hK1, hK2, hK3⟩ := (MapV.of (HG3.out.blkAt HO3.out)).count
  have HKN := hid hK1
  have HKM := hid hK2
  clear hK1 hK2 hK3
  have HMV := hid (MapV.of (HG3.out.blkAt HO3.out))
  have HGO := hid HG3.out.ofAt
  cases K with
  | nil =>
    go_wp2_with (first
      | (at_lookup; go_must (refine wpList_look_at _ rfl _ _ 24 rfl 71 Try.underlying24 (.map none) (zero_map _) (β .of) n _ rfl HGO.out b rfl HB.out (.map (some (β (.blk b)))) (by rw [HO3.out]; rfl) ?_))
      | (at_len; refine wpList_len_v _ rfl _ 71 rfl 73 Try.underlying71 (.map (some (β (.blk b)))) n _ rfl HMV.out [] HKN.out HKM.out ?_)
      | (at_delete; go_must (refine wpList_delete_at _ rfl _ _ 24 rfl 71 Try.underlying24 (β .of) n _ rfl HGO.out b rfl HB.out ?_); intro w4 hm4 hg4 hs4))
    have HG4 := hid (HG3.out.del_of hm4 hg4)
    have HBX4 := hid (HBX3.out.grown HGO.out hg4)
    have HK4 := hid (HK3.out.trans (GKeep.map (gb := gb) HGO.out (HG3.out.low .of rfl) hg4))
    have HEQ := hid (show updF (updF (ofF F) b (some fun y => !decide (y = x) && hasF F y b)) b none = ofF (cutF F x b) by
      rw [updF_upd]
      exact ofF_cut_none (fun z hz => Classical.byContradiction (fun hne => by
        have := (HKM.out z).2 (by rw [setV_some]; simp [hne, hz])
        cases this)))
    rw [HEQ.out] at HG4
    clear hm4 hg4 hs4
    go_end0
    exact ⟨rfl, ⟨hlow, _, _, HBX4.out, .inr ⟨β, rfl, rfl, HG4.out⟩⟩, HK4.out⟩
  | cons z K =>
    have hz := (HKM.out z).1 (List.mem_cons_self ..)
    rw [setV_some] at hz
    have hz2 : z ≠ x ∧ hasF F z b = true := by simpa using hz
    have HEQ := hid (ofF_cut_some hz2.2 hz2.1)
    rw [HEQ.out] at HG3
    obtain ⟨m, hm⟩ : ∃ m, (z :: K).length = m := ⟨_, rfl⟩
    have hm0 : 0 < m := by rw [← hm]; simp
    have HM := hid hm
    have d1 : ((m : Int) = 0) = False := eq_false (by omega)
    clear hz hz2 hm
    go_wp2_with (first
      | (at_lookup; go_must (refine wpList_look_at _ rfl _ _ 24 rfl 71 Try.underlying24 (.map none) (zero_map _) (β .of) n _ rfl HGO.out b rfl HB.out (.map (some (β (.blk b)))) (by rw [HO3.out]; rfl) ?_))
      | (at_len; refine wpList_len_v _ rfl _ 71 rfl 73 Try.underlying71 (.map (some (β (.blk b)))) n _ rfl HMV.out (z :: K) HKN.out HKM.out ?_; rw [HM.out]))
    go_end0
    exact ⟨rfl, ⟨hlow, _, _, HBX3.out, .inr ⟨β, rfl, rfl, HG3.out⟩⟩, HK3.out⟩
end Go.Proofs.Ytnoooeeciebhfaa
