/- Blocks and equations that go from the graph: Take and Drop walked. Conditions: the graph is small. -/
import Derived.Test.YtnoooeeciebhfaaGraphCut
set_option linter.unusedVariables false
namespace Go.Proofs.Ytnoooeeciebhfaa
open Go.RowKit Go.ChangeShapes

/-- Edges cut, one behind the other. -/
def cuts (F : GF) (es : List (Int × Int)) : GF := es.foldl (fun F e => cutF F e.1 e.2) F
theorem cuts_snoc (F : GF) (es : List (Int × Int)) (e : Int × Int) : cuts F (es ++ [e]) = cutF (cuts F es) e.1 e.2 := by unfold cuts; rw [List.foldl_append]; rfl
theorem cuts_isSome (F : GF) (es : List (Int × Int)) (z : Int) : (cuts F es z).isSome = (F z).isSome := by
  induction es generalizing F with
  | nil => rfl
  | cons e es ih =>
    show (cuts (cutF F e.1 e.2) es z).isSome = _
    rw [ih, cutF_isSome]
theorem hasF_cuts (F : GF) (es : List (Int × Int)) (z y : Int) : hasF (cuts F es) z y = (hasF F z y && !decide ((z, y) ∈ es)) := by
  induction es generalizing F with
  | nil => simp [cuts]
  | cons e es ih =>
    show hasF (cuts (cutF F e.1 e.2) es) z y = _
    rw [ih, hasF_cut]
    obtain ⟨e1, e2⟩ := e
    by_cases h1 : z = e1 <;> by_cases h2 : y = e2 <;> simp [h1, h2]
theorem take_snoc {l : List Int} {i : Nat} (h : i < l.length) : l.take (i + 1) = l.take i ++ [gi l i] := by rw [List.take_succ_eq_append_getElem h, gi_eq l i h]
theorem nodup_take {l : List Int} (h : l.Nodup) {i : Nat} (hi : i < l.length) : gi l i ∉ l.take i := by
  intro hm
  rw [gi_eq l i hi] at hm
  obtain ⟨j, hj, e⟩ := List.getElem_of_mem hm
  rw [List.length_take] at hj
  rw [List.getElem_take] at e
  exact (List.pairwise_iff_getElem.1 h j i (by omega) hi (by omega)) e
/-- The graph without a block. -/
def takeF (F : GF) (b : Int) : GF := fun x => (F x).map fun s y => s y && !decide (y = b)
theorem hasF_take (F : GF) (b z y : Int) : hasF (takeF F b) z y = (hasF F z y && !decide (y = b)) := by
  unfold hasF takeF
  cases F z <;> rfl
theorem cuts_take {F : GF} {b : Int} {l : List Int} (h : ∀ z, z ∈ l ↔ hasF F z b = true) : cuts F (l.map fun x => (x, b)) = takeF F b := by
  refine GF.ext (fun z => ?_) (fun z y => ?_)
  · rw [cuts_isSome]; unfold takeF; cases F z <;> rfl
  · rw [hasF_cuts, hasF_take]
    by_cases e : y = b
    · subst e
      cases hz : hasF F z y with
      | true => simp [(h z).2 hz]
      | false => simp
    · have : (z, y) ∉ l.map fun x => (x, b) := fun hm => by
        obtain ⟨x, _, e1⟩ := List.mem_map.1 hm
        injection e1 with _ e1
        exact e e1.symm
      simp [this, e]
theorem cuts_drop {F : GF} {x : Int} {l : List Int} (h : ∀ y, y ∈ l ↔ hasF F x y = true) : ofF (cuts F (l.map fun y => (x, y))) = ofF (updF F x none) ∧ updF (cuts F (l.map fun y => (x, y))) x none = updF F x none := by
  have key : ∀ z y, hasF (cuts F (l.map fun y => (x, y))) z y = hasF (updF F x none) z y := fun z y => by
    rw [hasF_cuts, hasF_upd_none]
    by_cases e : z = x
    · subst e
      cases hz : hasF F z y with
      | true => simp [(h y).2 hz]
      | false => simp
    · have : (z, y) ∉ l.map fun y => (x, y) := fun hm => by
        obtain ⟨u, _, e1⟩ := List.mem_map.1 hm
        injection e1 with e1 _
        exact e e1.symm
      simp [this, e]
  refine ⟨(ofF_eq (fun y hy => ?_) (fun u y => by rw [hasF_of, key])), GF.ext (fun z => ?_) (fun z y => ?_)⟩
  · obtain ⟨u, hu⟩ := ofF_isSome hy
    exact ⟨u, by rw [← key]; exact hu⟩
  · by_cases e : z = x
    · rw [e, updF_same, updF_same]
    · rw [updF_ne _ _ e, updF_ne _ _ e, cuts_isSome]
  · rw [hasF_upd_none, hasF_upd_none, key, hasF_upd_none]
    by_cases e : z = x <;> simp [e]
theorem notMap_own {w : World} {base sz n : Nat} {e : TypeId} {v : Value} {xs : List Value} (h : w.ownsRow base e sz v n xs) : ∀ b, v.ownBlock = some b → ¬ IsMapB w b := by
  rintro b hb ⟨es, cl, hm⟩
  rcases h.2 with ⟨rfl, _⟩ | ⟨g, cap, cur, rfl, _, hg, _⟩
  · cases hb
  · have e1 : g = b := by simpa [Value.ownBlock] using hb
    subst e1
    rw [hm] at hg; cases hg
theorem OwnInts.gkept {w w' : World} {base base' gb : Nat} {k : IntKind} {e : TypeId} {v : Value} {xs : List Int} (h : OwnInts w base' k e v xs) (hk : GKeep base gb w w') (hgb : v.ownBlock ≠ some gb) : OwnInts w' base' k e v xs :=
  OwnInts.keeps h hk (fun b hb hs => by
    rcases hs.2 with h1 | h1
    · exact hgb (by rw [hb, h1])
    · exact notMap_own h b hb h1)
set_option maxHeartbeats 1600000 in
set_option maxRecDepth 20000 in
theorem take_calls (base gb n : Nat) (F : GF) (c p b : Int) (w : World) (h : GSt w base gb n F c p) (hb : (Lit.int .i64 b).wf = true) (hn : n ≤ 1000000000) (hc2 : c ≤ 9000000000000000000) (hcl : ∀ l, KeysOf (fun z => hasF F z b) l → (l.length : Int) ≤ c) : Calls Try.prog 14 #[.pointer (some ⟨gb, 0, none⟩), .int .i64 b] w fun e w' => ∃ v l, e = .returned v ∧ OwnInts w' w.heap.size .i64 3 v l ∧ KeysOf (fun z => hasF F z b) l ∧ GSt w' base gb n (takeF F b) (c - l.length) p ∧ GKeep base gb w w' := by
  obtain ⟨ρ, ω, fr, fo, hbx, hr, ho, h1, h2, h3⟩ := h.view
  obtain ⟨v, hv, hv2⟩ := h3 b
  have HS := hid h
  have HR := hid ho
  have HV := hid hv
  have HV2 := hid hv2
  have HX := hid hb
  have HCL := hid hcl
  have c0 := hbx.cells.2.1
  have hgb := h.lt
  clear h hbx hr ho h1 h2 h3 hv hv2 hb hcl
  go_enter Try.func14, Try.ntmps14
  go_wp2_with (at_lookup; go_must (refine wpList_look_v _ rfl _ _ 24 rfl 71 Try.underlying24 (.map none) (zero_map _) (.map ω) n fo rfl HR.out b rfl HX.out v HV.out ?_))
  refine (keys_calls v n _ w HV2.out hn).mono ?_
  rintro e w1 ⟨v1, l, rfl, ho, hl, hk⟩
  have HL := hid hl
  have hlc := HCL.out l hl
  obtain ⟨A1, c1, hv1, _, hat⟩ := ho.reads
  have HO := hid ho
  have HK := hid (GKeep.nob (base := base) (gb := gb) hk)
  have HS1 := hid (HS.out.kept hk)
  have HNG := hid (show v1.ownBlock ≠ some gb from fun e => by have := (ho.base_le gb e).1; omega)
  clear ho hl hk hat HCL HS HV HV2 HR c0
  obtain ⟨m, hm⟩ : ∃ m, l.length = m := ⟨_, rfl⟩
  rw [hm] at hlc hv1
  have HM := hid hm
  clear hm
  subst hv1
  go_wp2_with fail
  go_loopw [7, 17] (fun _ v17 wr => ∃ i : Nat, i ≤ m ∧ v17 = .int .i64 (i : Int) ∧ Hid (GSt wr base gb n (cuts F ((l.take i).map fun x => (x, b))) (c - i) p) ∧ Hid (OwnInts wr w.heap.size .i64 3 (.slice A1 m c1) l) ∧ Hid (GKeep base gb w wr)) (fun _ v17 _ => m - (intOf v17).toNat)
  case atStart => exact ⟨0, Nat.zero_le _, rfl, hid (by simpa [cuts] using HS1.out), HO, HK⟩
  case round =>
    clear HS1 HO HK
    obtain ⟨i, hi, rfl, HS, HO, HK⟩ := hrel
    by_cases hlt : i < m
    · obtain ⟨A2, c2, hv2, _, hat⟩ := HO.out.reads
      obtain ⟨bb, off, hA, hcell⟩ := hat.get (by rw [HM.out]; omega)
      have hA2 : A2 = A1 := by injection hv2 with e1 _ _; exact e1.symm
      subst hA2
      clear hv2
      subst hA
      have cx := hcell i (by rw [HM.out]; exact hlt)
      have hmem := gi_mem l i (by rw [HM.out]; exact hlt)
      have hwf := HL.out.wf _ hmem
      have hts := take_snoc (l := l) (i := i) (by rw [HM.out]; exact hlt)
      have hnt := nodup_take HL.out.nodup (i := i) (by rw [HM.out]; exact hlt)
      have hhas : hasF (cuts F ((l.take i).map fun x => (x, b))) (gi l i) b = true := by
        rw [hasF_cuts, (HL.out.mem _).1 hmem]
        have : (gi l i, b) ∉ (l.take i).map fun x => (x, b) := fun hm => by
          obtain ⟨u, hu, e1⟩ := List.mem_map.1 hm
          injection e1 with e1 _
          exact hnt (e1 ▸ hu)
        rw [decide_eq_false this]; rfl
      have HCT := hid (cut_calls base gb n _ (c - i) p (gi l i) b wr HS.out hwf HX.out hhas (by omega) (by omega))
      have HTS := hid (show cutF (cuts F ((l.take i).map fun x => (x, b))) (gi l i) b = cuts F ((l.take (i + 1)).map fun x => (x, b)) by rw [hts, List.map_append]; exact (cuts_snoc _ _ (gi l i, b)).symm)
      rw [HTS.out] at HCT
      clear hmem hwf hts hnt hhas hcell hat HTS
      generalize gi l i = x at *
      have p0 : (0 : Int) ≤ (i : Int) := by omega
      have p1 : (i : Int) < (m : Int) := by omega
      go_wp2_with fail
      refine HCT.out.mono ?_
      rintro e w2 ⟨rfl, hs2, hk2⟩
      have e1 : c - (i : Int) - 1 = c - ((i + 1 : Nat) : Int) := by omega
      rw [e1] at hs2
      have HS2 := hid hs2
      have HO2 := hid (HO.out.gkept hk2 HNG.out)
      have HK2 := hid (HK.out.trans hk2)
      clear hs2 hk2 e1
      go_wp2_with fail
      go_roundw
      case rel => exact ⟨i + 1, by omega, by go_num, HS2, HO2, HK2⟩
      case measure => simp [intOf]; omega
    · obtain rfl : i = m := by omega
      have ht : l.take i = l := by rw [← HM.out]; exact List.take_length
      rw [ht, cuts_take HL.out.mem] at HS
      go_wp2_with fail
      go_ret
      exact ⟨_, _, rfl, HO.out, HL.out, by rw [HM.out]; exact HS.out, HK.out⟩
set_option maxHeartbeats 1600000 in
set_option maxRecDepth 20000 in
theorem drop_calls (base gb n : Nat) (F : GF) (c p x : Int) (w : World) (h : GSt w base gb n F c p) (hx : (Lit.int .i64 x).wf = true) (hn : n ≤ 1000000000) (hc2 : c ≤ 9000000000000000000) (hcl : ∀ l, KeysOf (hasF F x) l → (l.length : Int) ≤ c) : Calls Try.prog 13 #[.pointer (some ⟨gb, 0, none⟩), .int .i64 x] w fun e w' => ∃ l, e = .returned (.bool (F x).isSome) ∧ KeysOf (hasF F x) l ∧ GSt w' base gb n (updF F x none) (c - l.length) p ∧ GKeep base gb w w' := by
  cases hF : F x with
  | none =>
    obtain ⟨ρ, ω, fr, fo, hbx, hr, ho, h1, h2, h3⟩ := h.view
    obtain ⟨v, hv, hv2⟩ := h2 x
    have HS := hid h
    have HR := hid hr
    have H1 := hid (show (fr x).isSome = false by rw [h1, hF]; rfl)
    have HV := hid hv
    have HX := hid hx
    have c0 := hbx.cells.1
    have HE := hid (show updF F x none = F from GF.ext (fun z => by
      by_cases e : z = x
      · rw [e, updF_same, hF]
      · rw [updF_ne _ _ e]) (fun z y => by
      rw [hasF_upd_none]
      by_cases e : z = x
      · rw [e, hasF_none hF]; simp
      · simp [e]))
    have HK := hid (show KeysOf (hasF F x) [] from ⟨List.Pairwise.nil, (fun y => by rw [hasF_none hF]; simp), (fun y hy => by cases hy)⟩)
    clear h hbx hr ho h1 h2 h3 hv hv2 hx hF hcl
    go_enter Try.func13, Try.ntmps13
    go_wp2_with (at_lookup; go_must (refine wpList_look_ok_v _ rfl _ _ 24 rfl 71 Try.underlying24 (.map none) (zero_map _) (.map ρ) n fr rfl HR.out x rfl HX.out v HV.out false H1.out ?_))
    go_ret
    exact ⟨[], rfl, HK.out, by rw [HE.out]; simpa using HS.out, GKeep.refl _ _ _⟩
  | some s0 =>
    obtain ⟨ρ, ω, fr, fo, hbx, hr, ho, h1, h2, h3⟩ := h.view
    obtain ⟨v, hv, hv2⟩ := h2 x
    have HS := hid h
    have HR := hid hr
    have H1 := hid (show (fr x).isSome = true by rw [h1, hF]; rfl)
    have HV := hid hv
    have HV2 := hid hv2
    have HX := hid hx
    have HCL := hid hcl
    have HF := hid hF
    have c0 := hbx.cells.1
    have hgb := h.lt
    clear h hbx hr ho h1 h2 h3 hv hv2 hx hF hcl
    have tk1 : True := trivial
    go_enter Try.func13, Try.ntmps13
    go_wp2_with (first
      | (at_lookup; have _t := tk1; go_must (refine wpList_look_ok_v _ rfl _ _ 24 rfl 71 Try.underlying24 (.map none) (zero_map _) (.map ρ) n fr rfl HR.out x rfl HX.out v HV.out true H1.out ?_); clear tk1 _t)
      | (at_lookup; go_must (refine wpList_look_v _ rfl _ _ 24 rfl 71 Try.underlying24 (.map none) (zero_map _) (.map ρ) n fr rfl HR.out x rfl HX.out v HV.out ?_)))
    refine (keys_calls v n _ w HV2.out hn).mono ?_
    rintro e w1 ⟨v1, l, rfl, ho, hl, hk⟩
    have HL := hid hl
    have hlc := HCL.out l hl
    obtain ⟨A1, c1, hv1, _, hat⟩ := ho.reads
    have HO := hid ho
    have HK := hid (GKeep.nob (base := base) (gb := gb) hk)
    have HS1 := hid (HS.out.kept hk)
    have HNG := hid (show v1.ownBlock ≠ some gb from fun e => by have := (ho.base_le gb e).1; omega)
    clear ho hl hk hat HCL HS HV HV2 HR c0 H1
    obtain ⟨m, hm⟩ : ∃ m, l.length = m := ⟨_, rfl⟩
    rw [hm] at hlc hv1
    have HM := hid hm
    clear hm
    subst hv1
    go_wp2_with fail
    go_loopw [8, 28] (fun _ v28 wr => ∃ i : Nat, i ≤ m ∧ v28 = .int .i64 (i : Int) ∧ Hid (GSt wr base gb n (cuts F ((l.take i).map fun y => (x, y))) (c - i) p) ∧ Hid (OwnInts wr w.heap.size .i64 3 (.slice A1 m c1) l) ∧ Hid (GKeep base gb w wr)) (fun _ v28 _ => m - (intOf v28).toNat)
    case atStart => exact ⟨0, Nat.zero_le _, rfl, hid (by simpa [cuts] using HS1.out), HO, HK⟩
    case round =>
      clear HS1 HO HK
      obtain ⟨i, hi, rfl, HS, HO, HK⟩ := hrel
      by_cases hlt : i < m
      · obtain ⟨A2, c2, hv2, _, hat⟩ := HO.out.reads
        obtain ⟨bb, off, hA, hcell⟩ := hat.get (by rw [HM.out]; omega)
        have hA2 : A2 = A1 := by injection hv2 with e1 _ _; exact e1.symm
        subst hA2
        clear hv2
        subst hA
        have cx := hcell i (by rw [HM.out]; exact hlt)
        have hmem := gi_mem l i (by rw [HM.out]; exact hlt)
        have hwf := HL.out.wf _ hmem
        have hts := take_snoc (l := l) (i := i) (by rw [HM.out]; exact hlt)
        have hnt := nodup_take HL.out.nodup (i := i) (by rw [HM.out]; exact hlt)
        have hhas : hasF (cuts F ((l.take i).map fun y => (x, y))) x (gi l i) = true := by
          rw [hasF_cuts, (HL.out.mem _).1 hmem]
          have : (x, gi l i) ∉ (l.take i).map fun y => (x, y) := fun hm => by
            obtain ⟨u, hu, e1⟩ := List.mem_map.1 hm
            injection e1 with _ e1
            exact hnt (e1 ▸ hu)
          rw [decide_eq_false this]; rfl
        have HCT := hid (cut_calls base gb n _ (c - i) p x (gi l i) wr HS.out HX.out hwf hhas (by omega) (by omega))
        have HTS := hid (show cutF (cuts F ((l.take i).map fun y => (x, y))) x (gi l i) = cuts F ((l.take (i + 1)).map fun y => (x, y)) by rw [hts, List.map_append]; exact (cuts_snoc _ _ (x, gi l i)).symm)
        rw [HTS.out] at HCT
        clear hmem hwf hts hnt hhas hcell hat HTS
        generalize gi l i = y at *
        have p0 : (0 : Int) ≤ (i : Int) := by omega
        have p1 : (i : Int) < (m : Int) := by omega
        go_wp2_with fail
        refine HCT.out.mono ?_
        rintro e w2 ⟨rfl, hs2, hk2⟩
        have e1 : c - (i : Int) - 1 = c - ((i + 1 : Nat) : Int) := by omega
        rw [e1] at hs2
        have HS2 := hid hs2
        have HO2 := hid (HO.out.gkept hk2 HNG.out)
        have HK2 := hid (HK.out.trans hk2)
        clear hs2 hk2 e1
        go_wp2_with fail
        go_roundw
        case rel => exact ⟨i + 1, by omega, by go_num, HS2, HO2, HK2⟩
        case measure => simp [intOf]; omega
      · obtain rfl : i = m := by omega
        have ht : l.take i = l := by rw [← HM.out]; exact List.take_length
        rw [ht] at HS
        obtain ⟨hlow, ρ2, ω2, hbx2, h5⟩ := HS.out
        have hsome : (cuts F (l.map fun y => (x, y)) x).isSome = true := by rw [cuts_isSome, HF.out]; rfl
        rcases h5 with ⟨rfl, rfl, h5⟩ | ⟨β, rfl, rfl, hG⟩
        · rw [h5] at hsome; cases hsome
        have HG := hid hG
        have HBX := hid hbx2
        have c0 := hbx2.cells.1
        have HD := hid (cuts_drop HL.out.mem)
        clear hG hbx2 hsome ht HS
        go_wp2_with (at_delete; go_must (refine wpList_delete_at _ rfl _ _ 24 rfl 71 Try.underlying24 (β .rest) n _ rfl HG.out.restAt x rfl HX.out ?_); intro w4 hm4 hg4 hs4)
        have HG4 := hid (HG.out.del_rest hm4 hg4)
        have HBX4 := hid (HBX.out.grown HG.out.restAt hg4)
        have HK4 := hid (HK.out.trans (GKeep.map (gb := gb) HG.out.restAt (HG.out.low .rest rfl) hg4))
        rw [HD.out.1, HD.out.2] at HG4
        clear hm4 hg4 hs4
        go_ret
        exact ⟨l, rfl, HL.out, by rw [HM.out]; exact ⟨hlow, _, _, HBX4.out, .inr ⟨β, rfl, rfl, HG4.out⟩⟩, HK4.out⟩
end Go.Proofs.Ytnoooeeciebhfaa
