/- An equation more in the graph: Add walked. Conditions: the graph is small. -/
import Derived.Test.YtnoooeeciebhfaaGraphTake
import Derived.WalkSpells
set_option linter.unusedVariables false
namespace Go.Proofs.Ytnoooeeciebhfaa
open Go.RowKit Go.ChangeShapes

/-- Each once. -/
def distL (l : List Int) : List Int := l.foldl (fun acc y => if y ∈ acc then acc else acc ++ [y]) []
theorem distL_snoc (l : List Int) (y : Int) : distL (l ++ [y]) = if y ∈ distL l then distL l else distL l ++ [y] := by unfold distL; rw [List.foldl_append]; rfl
theorem distL_spec (l : List Int) : (distL l).Nodup ∧ ∀ y, y ∈ distL l ↔ y ∈ l := by
  suffices H : ∀ n (l : List Int), l.length = n → (distL l).Nodup ∧ ∀ y, y ∈ distL l ↔ y ∈ l from H _ l rfl
  intro n
  induction n with
  | zero =>
    intro l hl
    have := List.length_eq_zero_iff.1 hl
    subst this
    exact ⟨List.nodup_nil, fun y => Iff.rfl⟩
  | succ n ih =>
    intro l hl
    rcases List.eq_nil_or_concat l with h | ⟨l', y, h⟩
    · subst h; cases hl
    · subst h
      rw [List.concat_eq_append] at hl ⊢
      rw [List.length_append] at hl
      obtain ⟨h1, h2⟩ := ih l' (by simpa using hl)
      rw [distL_snoc]
      by_cases hy : y ∈ distL l'
      · rw [if_pos hy]
        refine ⟨h1, fun z => ?_⟩
        rw [h2, List.mem_append, List.mem_singleton]
        constructor
        · exact .inl
        · rintro (h | rfl)
          · exact h
          · exact (h2 z).1 hy
      · rw [if_neg hy]
        refine ⟨List.nodup_append.2 ⟨h1, by simp, fun a ha b hb => by rw [List.mem_singleton.1 hb]; exact fun e => hy (e ▸ ha)⟩, fun z => ?_⟩
        rw [List.mem_append, List.mem_append, h2]
def cntD (l : List Int) : Nat := (distL l).length
theorem cntD_in {l : List Int} {y : Int} (h : y ∈ l) : cntD (l ++ [y]) = cntD l := by unfold cntD; rw [distL_snoc, if_pos (((distL_spec l).2 y).2 h)]
theorem cntD_new {l : List Int} {y : Int} (h : y ∉ l) : cntD (l ++ [y]) = cntD l + 1 := by unfold cntD; rw [distL_snoc, if_neg (fun hm => h (((distL_spec l).2 y).1 hm)), List.length_append]; rfl
theorem cntD_le (l : List Int) : cntD l ≤ l.length := by
  unfold cntD
  obtain ⟨h1, h2⟩ := distL_spec l
  exact List.Nodup.length_le_of_subset h1 (fun y hy => (h2 y).1 hy)
/-- The graph with an equation and its blocks. -/
def addK (F : GF) (x : Int) (l : List Int) : GF := updF F x (some fun y => decide (y ∈ l))
theorem ofF_addK_nil {F : GF} {x : Int} (h : F x = none) : ofF F = ofF (addK F x []) := by
  refine ofF_eq (fun y hy => ?_) (fun u y => ?_)
  · obtain ⟨u, hu⟩ := ofF_isSome hy
    refine ⟨u, ?_⟩
    unfold addK
    rw [hasF_upd, if_neg (fun e => by rw [e, hasF_none h] at hu; cases hu)]
    exact hu
  · unfold addK
    rw [hasF_of, hasF_upd]
    by_cases e : u = x
    · rw [if_pos e, e, hasF_none h]; simp
    · rw [if_neg e]
theorem addK_some (F : GF) (x : Int) (l : List Int) : addK F x l x = some fun y => decide (y ∈ l) := updF_same ..
theorem addK_in {F : GF} {x y : Int} {l : List Int} (h : y ∈ l) : addK F x (l ++ [y]) = addK F x l := by
  unfold addK
  congr 2; funext z
  by_cases e : z = y
  · subst e; simp [h]
  · simp [e]
theorem addK_new {F : GF} {x y : Int} {l : List Int} : updF (addK F x l) x (some fun z => decide (z = y) || decide (z ∈ l)) = addK F x (l ++ [y]) := by
  unfold addK
  rw [updF_upd]
  congr 2; funext z
  by_cases e : z = y <;> simp [e]
theorem hasF_addK_snoc (F : GF) (x y : Int) (l : List Int) (u z : Int) : hasF (addK F x (l ++ [y])) u z = (hasF (addK F x l) u z || (decide (u = x) && decide (z = y))) := by
  unfold addK
  rw [hasF_upd, hasF_upd]
  by_cases e : u = x
  · rw [if_pos e, if_pos e]; simp [e]
  · rw [if_neg e, if_neg e]; simp [e]
theorem ofF_addK {F : GF} {x y : Int} {l : List Int} : updF (ofF (addK F x l)) y (some fun z => decide (z = x) || hasF (addK F x l) z y) = ofF (addK F x (l ++ [y])) := by
  refine ofF_eq (fun z hz => ?_) (fun u z => ?_)
  · by_cases e : z = y
    · exact ⟨x, by rw [hasF_addK_snoc]; simp [e]⟩
    · rw [updF_ne _ _ e] at hz
      obtain ⟨u, hu⟩ := ofF_isSome hz
      exact ⟨u, by rw [hasF_addK_snoc, hu]; rfl⟩
  · rw [hasF_upd, hasF_addK_snoc]
    by_cases e : z = y
    · rw [if_pos e, e]; simp [Bool.or_comm]
    · rw [if_neg e, hasF_of]; simp [e]
theorem updF_eta {F : GF} {x : Int} {o : Option (Int → Bool)} (h : F x = o) : updF F x o = F := by
  funext z
  unfold updF
  by_cases e : z = x
  · rw [if_pos e, e, h]
  · rw [if_neg e]
theorem IntsAt.gkept {w w' : World} {base gb : Nat} {k : IntKind} {A : Option Addr} {xs : List Int} (h : IntsAt w k A xs) (hk : GKeep base gb w w') (hA : ∀ b off, A = some ⟨b, off, none⟩ → b ≠ gb) : IntsAt w' k A xs :=
  h.keeps hk (fun b off e h0 hs => by
    rcases hs.2 with h1 | ⟨es, cl, h1⟩
    · exact hA b off e h1
    · obtain ⟨b', off', e', hc⟩ := h.get h0
      have e2 := e.symm.trans e'
      injection e2 with e2
      injection e2 with e2 _ _
      subst e2
      have := hc 0 h0
      simp [World.cell?, h1] at this)
set_option maxHeartbeats 3200000 in
set_option maxRecDepth 20000 in
theorem add_no (base gb n : Nat) (F : GF) (c p x : Int) (bs : List Int) (A : Option Addr) (cb : Nat) (w : World) (h : GSt w base gb n F c p) (hx : (Lit.int .i64 x).wf = true) (hF : (F x).isSome = true ∨ bs = []) (hm : bs.length ≤ 1000000000) : Calls Try.prog 11 #[.pointer (some ⟨gb, 0, none⟩), .int .i64 x, .slice A bs.length cb] w fun e w' => e = .returned (.bool false) ∧ Keeps NoB w w' := by
  obtain ⟨ρ, ω, fr, fo, hbx, hr, ho, h1, h2, h3⟩ := h.view
  obtain ⟨v, hv, hv2⟩ := h2 x
  have HR := hid hr
  have H1 := hid (h1 x)
  have HV := hid hv
  have HX := hid hx
  have c0 := hbx.cells.1
  clear h hbx hr ho h1 h2 h3 hv hv2 hx
  obtain ⟨m, hm1⟩ : ∃ m, bs.length = m := ⟨_, rfl⟩
  rw [hm1] at hm ⊢
  go_enter Try.func11, Try.ntmps11
  cases hf : (F x).isSome with
  | true =>
    rw [hf] at H1
    clear hF hf hm1
    go_wp2_with (at_lookup; go_must (refine wpList_look_ok_v _ rfl _ _ 24 rfl 71 Try.underlying24 (.map none) (zero_map _) (.map ρ) n fr rfl HR.out x rfl HX.out v HV.out true H1.out ?_))
    go_ret
    exact ⟨rfl, Keeps.refl _ _⟩
  | false =>
    rw [hf] at H1
    have hb0 : bs = [] := by rcases hF with h | h
                             · rw [hf] at h; cases h
                             · exact h
    have hm0 : m = 0 := by rw [← hm1, hb0]; rfl
    subst hm0
    clear hF hf hm1 hb0
    go_wp2_with (at_lookup; go_must (refine wpList_look_ok_v _ rfl _ _ 24 rfl 71 Try.underlying24 (.map none) (zero_map _) (.map ρ) n fr rfl HR.out x rfl HX.out v HV.out false H1.out ?_))
    go_ret
    exact ⟨rfl, Keeps.refl _ _⟩
theorem addK_nil (F : GF) (x : Int) : addK F x [] = updF F x (some fun _ => false) := by
  unfold addK
  congr 2
theorem ofF_all_none : ofF (fun _ => none) = fun _ => none := by
  funext y
  exact ofF_none (fun x => rfl)
theorem GRaw.bothAt {base n gb : Nat} {ρ ω : Option Nat} {c p : Int} (w : World) (hbx : GBox w gb ρ ω c p) (hlow : base ≤ gb) (hb : base ≤ w.heap.size) : ∃ (β : GKey → Nat), GBox ((((w.setCell ⟨gb, 0, none⟩ (.map (some w.heap.size))).setCell ⟨gb, 1, none⟩ (.map (some (w.heap.size + 1)))).alloc (.map #[] 0)).alloc (.map #[] 0)) gb (some (β .rest)) (some (β .of)) c p ∧ GRaw ((((w.setCell ⟨gb, 0, none⟩ (.map (some w.heap.size))).setCell ⟨gb, 1, none⟩ (.map (some (w.heap.size + 1)))).alloc (.map #[] 0)).alloc (.map #[] 0)) base n β (fun _ => none) (ofF fun _ => none) ∧ GKeep base gb w ((((w.setCell ⟨gb, 0, none⟩ (.map (some w.heap.size))).setCell ⟨gb, 1, none⟩ (.map (some (w.heap.size + 1)))).alloc (.map #[] 0)).alloc (.map #[] 0)) := by
  have h1 := hbx.setM (some w.heap.size) (some (w.heap.size + 1))
  have hk : GKeep base gb w ((w.setCell ⟨gb, 0, none⟩ (.map (some w.heap.size))).setCell ⟨gb, 1, none⟩ (.map (some (w.heap.size + 1)))) := (GKeep.box (gb := gb) w hlow 0 _).trans (GKeep.box (gb := gb) _ hlow 1 _)
  have hs : ((w.setCell ⟨gb, 0, none⟩ (.map (some w.heap.size))).setCell ⟨gb, 1, none⟩ (.map (some (w.heap.size + 1)))).heap.size = w.heap.size := by simp
  generalize (w.setCell ⟨gb, 0, none⟩ (.map (some w.heap.size))).setCell ⟨gb, 1, none⟩ (.map (some (w.heap.size + 1))) = w2 at *
  obtain ⟨β, e1, e2, hg⟩ := GRaw.both (base := base) (n := n) w2 (by omega)
  have hk2 := ((Keeps.refl NoB w2).alloc (.map #[] 0)).alloc (.map #[] 0)
  refine ⟨β, ?_, ?_, hk.trans (GKeep.nob hk2)⟩
  · rw [e1, e2, hs]; exact h1.kept hk2
  · rw [ofF_all_none]; exact hg
set_option maxHeartbeats 6400000 in
set_option maxRecDepth 20000 in
theorem add_yes (base gb n : Nat) (F : GF) (c p x : Int) (bs : List Int) (A : Option Addr) (cb : Nat) (w : World) (h : GSt w base gb n F c p) (hx : (Lit.int .i64 x).wf = true) (hF : F x = none) (hb0 : bs ≠ []) (hat : IntsAt w .i64 A bs) (hwf : ∀ y ∈ bs, (Lit.int .i64 y).wf = true) (hA : ∀ b off, A = some ⟨b, off, none⟩ → b ≠ gb) (hbw : base ≤ w.heap.size) (hn : n + 3 * bs.length + 4 ≤ 1000000000) (hc0 : 0 ≤ c) (hc : c ≤ 1000000000000) (hp0 : 0 ≤ p) (hp : p ≤ 2000000000000) : Calls Try.prog 11 #[.pointer (some ⟨gb, 0, none⟩), .int .i64 x, .slice A bs.length cb] w fun e w' => e = .returned (.bool true) ∧ GSt w' base gb (n + 3 * bs.length + 1) (addK F x bs) (c + (cntD bs : Int)) (max p (c + (cntD bs : Int))) ∧ GKeep base gb w w' := by
  have hml : 0 < bs.length := by cases bs with
    | nil => exact absurd rfl hb0
    | cons y l => simp
  obtain ⟨hlow, ρ, ω, hbx, hG⟩ := h
  have HBX := hid hbx
  have HGR := hid hG
  have HX := hid hx
  have HF := hid hF
  have HAT := hid hat
  have HWF := hid hwf
  have HA := hid hA
  have HCD := hid (cntD_le bs)
  have hgbl : gb < w.heap.size := (Array.getElem?_eq_some_iff.1 (show w.heap[gb]? = _ from hbx)).1
  have c0 := hbx.cells.1
  have f0 := hbx.free 0
  have f1 := hbx.free 1
  clear hb0 hbx hG hx hF hat hwf hA
  obtain ⟨m, hm1⟩ : ∃ m, bs.length = m := ⟨_, rfl⟩
  rw [hm1] at hn hml HCD ⊢
  have HM := hid hm1
  clear hm1
  have hmm := @run_makeMap Try.prog
  have qmap : ∀ (w : World) (r : Option Nat), (binOp .eql 24 (.map r) (.map none)).run Try.prog w = .ok (.bool r.isNone) w := fun w r => run_eql_map_nil w _ _ _ r Try.underlying24
  have qmap2 : ∀ (w : World) (r : Option Nat), (binOp .eql 71 (.map r) (.map none)).run Try.prog w = .ok (.bool r.isNone) w := fun w r => run_eql_map_nil w _ _ _ r Try.underlying71
  have dm : ((m : Int) = 0) = False := eq_false (by omega)
  go_enter Try.func11, Try.ntmps11
  rcases HGR.out with ⟨rfl, rfl, hFn⟩ | ⟨β, rfl, rfl, hGw⟩
  case' inl =>
    clear HGR
    have c0b := HBX.out.cells.2.1
    go_upto_region 6 with (at_lookup; go_must (refine wpList_look_ok_v _ rfl _ _ 24 rfl 71 Try.underlying24 (.map none) (zero_map _) (.map none) n (fun _ => none) rfl (MapV.nil _ _) x rfl HX.out (.map none) rfl false rfl ?_))
    obtain ⟨β, hb1, hg1, hk1⟩ := GRaw.bothAt (n := n) w HBX.out hlow hbw
    generalize hw1 : ((((w.setCell ⟨gb, 0, none⟩ (.map (some w.heap.size))).setCell ⟨gb, 1, none⟩ (.map (some (w.heap.size + 1)))).alloc (.map #[] 0)).alloc (.map #[] 0)) = w1 at *
    have HBX1 := hid hb1
    have HGW1 := hid (show GRaw w1 base n β F (ofF F) by rw [hFn]; exact hg1)
    have HK1 := hid hk1
    clear hb1 hg1 hk1 hw1 hFn c0b
  case' inr =>
    clear HGR
    have HGW := hid hGw
    clear hGw
    go_upto_region 6 with (at_lookup; go_must (refine wpList_look_ok_v _ rfl _ _ 24 rfl 71 Try.underlying24 (.map none) (zero_map _) (.map (some (β .rest))) n _ rfl (MapV.of HGW.out.restAt) x rfl HX.out (.map none) (by rw [HF.out]; rfl) false (by rw [HF.out]; rfl) ?_))
    obtain ⟨w1, hw1⟩ : ∃ w1, w1 = w := ⟨w, rfl⟩
    rw [← hw1]
    have HBX1 := hid (show GBox w1 gb (some (β .rest)) (some (β .of)) c p by rw [hw1]; exact HBX.out)
    have HGW1 := hid (show GRaw w1 base n β F (ofF F) by rw [hw1]; exact HGW.out)
    have HK1 := hid (show GKeep base gb w w1 by rw [hw1]; exact GKeep.refl _ _ _)
    clear hw1 HGW
  all_goals (first | (have _x := HBX1; clear _x) | (clear hmm qmap qmap2; trace_state))
  all_goals
    have c1 := HBX1.out.cells.1
    have hs1 := Keeps.size HK1.out
    have HRA := hid (HGW1.out.restAt.keeps ((Keeps.refl NoB w1).alloc (.map #[] 0)) (fun h => h))
    clear c0 f0 f1 HBX
    go_wp2_with (at_mapUpdate; go_must (refine wpList_put_at _ rfl _ _ _ 24 rfl 71 Try.underlying24 (β .rest) n _ rfl HRA.out (by unfold maxLen; omega) x rfl HX.out ?_); intro w2 hm2 hg2 hs2)
    obtain ⟨β2, eb1, eb2, hG2⟩ := HGW1.out.new_eq HF.out (by omega) (Nat.le_succ n) hm2 hg2
    have HBX2 := hid (show GBox w2 gb (some (β2 .rest)) (some (β2 .of)) c p by rw [eb1, eb2]; exact (HBX1.out.kept ((Keeps.refl NoB w1).alloc (.map #[] 0))).grown HRA.out hg2)
    have HK2 := hid (HK1.out.trans ((GKeep.nob ((Keeps.refl NoB w1).alloc (.map #[] 0))).trans (GKeep.map (gb := gb) HRA.out (HGW1.out.low .rest rfl) hg2)))
    have HS2 := hid (show GSt w2 base gb (n + 1) (addK F x []) c p from ⟨hlow, _, _, HBX2.out, .inr ⟨β2, rfl, rfl, by rw [← ofF_addK_nil HF.out, addK_nil]; exact hG2⟩⟩)
    clear hm2 hg2 hs2 eb1 eb2 hG2 HBX2 HRA HGW1 HBX1 HK1 c1 hs1
    go_loopw [10, 11, 12, 49] (fun _ _ _ v49 wr => ∃ k : Nat, k ≤ m ∧ v49 = .int .i64 (k : Int) ∧ Hid (GSt wr base gb (n + 1 + 3 * k) (addK F x (bs.take k)) (c + (cntD (bs.take k) : Int)) p) ∧ Hid (GKeep base gb w wr)) (fun _ _ _ v49 _ => m - (intOf v49).toNat)
    case atStart => exact ⟨0, Nat.zero_le _, rfl, hid (by simpa [cntD, distL] using HS2.out), HK2⟩
    case round =>
      clear HS2 HK2
      obtain ⟨k, hk, rfl, HS, HK⟩ := hrel
      by_cases hlt : k < m
      · obtain ⟨bb, off, rfl, hcell⟩ := (HAT.out.gkept HK.out HA.out).get (by rw [HM.out]; omega)
        have cx := hcell k (by rw [HM.out]; exact hlt)
        have hwf := HWF.out _ (gi_mem bs k (by rw [HM.out]; exact hlt))
        have hts := take_snoc (l := bs) (i := k) (by rw [HM.out]; exact hlt)
        have hle := cntD_le (bs.take k)
        have hle2 : (bs.take k).length = k := by rw [List.length_take, HM.out]; omega
        have HTS := hid hts
        have HWY := hid hwf
        clear hcell hts hwf
        generalize gi bs k = y at *
        obtain ⟨l, hl⟩ : ∃ l, bs.take k = l := ⟨_, rfl⟩
        rw [hl] at HS HTS hle hle2
        clear hl
        obtain ⟨d, hd⟩ : ∃ d, cntD l = d := ⟨_, rfl⟩
        rw [hd] at HS hle
        have HD := hid hd
        clear hd
        obtain ⟨N0, hN0⟩ : ∃ N0, n + 1 + 3 * k = N0 := ⟨_, rfl⟩
        rw [hN0] at HS
        have hN1 : N0 + 3 ≤ n + 1 + 3 * (k + 1) := by omega
        have hN2 : N0 + 4 ≤ 1000000000 := by omega
        clear hN0
        have HS0 := HS
        obtain ⟨hlow2, ρ3, ω3, hbx3, h5⟩ := HS.out
        rcases h5 with ⟨rfl, rfl, h5⟩ | ⟨β, rfl, rfl, hG⟩
        · have := congrFun h5 x; rw [addK_some] at this; cases this
        have HG := hid hG
        have HBX := hid hbx3
        have c0 := hbx3.cells.1
        have hsw := Keeps.size HK.out
        have HAS := hid (addK_some F x l)
        have p0 : (0 : Int) ≤ (k : Int) := by omega
        have p1 : (k : Int) < (m : Int) := by omega
        have HEA := hid (HG.out.eqAt HAS.out)
        have HRA := hid HG.out.restAt
        clear hG hbx3 HS hlow2
        by_cases hy : y ∈ l
        · go_wp2_with (first
            | (at_lookup; refine wpList_look_at _ rfl _ _ 24 rfl 71 Try.underlying24 (.map none) (zero_map _) (β .rest) _ _ rfl HRA.out x rfl HX.out (.map (some (β (.eq x)))) (by rw [HAS.out]; rfl) ?_)
            | (at_lookup; go_must (refine wpList_look_ok_at _ rfl _ _ 71 rfl 73 Try.underlying71 (.agg #[]) (zero_set _) (β (.eq x)) _ _ rfl HEA.out y rfl HWY.out (.agg #[]) (by rw [setV]; simp [hy]) true (by rw [setV_some]; simp [hy]) ?_)))
          go_roundw
          case rel => exact ⟨k + 1, by omega, by go_num, hid (by rw [HTS.out, addK_in hy, cntD_in hy, HD.out]; exact (HS0.out.kept ((Keeps.refl NoB wr).alloc _)).mono (by omega)), hid (HK.out.trans (GKeep.nob ((Keeps.refl NoB wr).alloc _)))⟩
          case measure => simp [intOf]; omega
        · clear HS0
          have HRA2 := hid (HRA.out.keeps ((Keeps.refl NoB wr).alloc (.cells #[] 73)) (fun h => h))
          have HEA2 := hid (HEA.out.keeps ((Keeps.refl NoB wr).alloc (.cells #[] 73)) (fun h => h))
          have c0a := (HBX.out.kept ((Keeps.refl NoB wr).alloc (.cells #[] 73))).cells.1
          have tk1 : True := trivial
          have tk2 : True := trivial
          go_upto_region 13 with (first
            | (at_lookup; have _t := tk1; go_must (refine wpList_look_at _ rfl _ _ 24 rfl 71 Try.underlying24 (.map none) (zero_map _) (β .rest) (N0) _ rfl HRA.out x rfl HX.out (.map (some (β (.eq x)))) (by rw [HAS.out]; rfl) ?_); clear tk1 _t)
            | (at_lookup; have _t := tk2; go_must (refine wpList_look_ok_at _ rfl _ _ 71 rfl 73 Try.underlying71 (.agg #[]) (zero_set _) (β (.eq x)) N0 _ rfl HEA.out y rfl HWY.out (.agg #[]) (by rw [setV]; simp [hy]) false (by rw [setV_some]; simp [hy]) ?_); clear tk2 _t)
            | (at_lookup; go_must (refine wpList_look_at _ rfl _ _ 24 rfl 71 Try.underlying24 (.map none) (zero_map _) (β .rest) (N0) _ rfl HRA2.out x rfl HX.out (.map (some (β (.eq x)))) (by rw [HAS.out]; rfl) ?_))
            | (at_mapUpdate; go_must (refine wpList_put_at _ rfl _ _ _ 71 rfl 73 Try.underlying71 (β (.eq x)) (N0) _ rfl HEA2.out (by unfold maxLen; omega) y rfl HWY.out ?_); intro w3 hm3 hg3 hs3))
          clear c0a
          have hm3 : MapAt w3 (β (.eq x)) (N0 + 1) (fun z => if z = y then some (.agg #[]) else setV (fun y => decide (y ∈ l)) z) := hm3
          rw [setV_put] at hm3
          have hG3 := GRaw.set_eq (MapsAt.keeps HG.out ((Keeps.refl NoB wr).alloc (.cells #[] 73)) (fun _ _ h => h)) HAS.out hm3 hg3 (Nat.le_succ N0)
          rw [addK_new] at hG3
          have HG3 := hid hG3
          have HBX3 := hid ((HBX.out.kept ((Keeps.refl NoB wr).alloc (.cells #[] 73))).grown HEA2.out hg3)
          have HK3 := hid (HK.out.trans ((GKeep.nob ((Keeps.refl NoB wr).alloc (.cells #[] 73))).trans (GKeep.map (gb := gb) HEA2.out (HG.out.low (.eq x) (by show ((addK F x l x).map setV).isSome = true; rw [HAS.out]; rfl)) hg3)))
          have c3 := HBX3.out.cells.2.1
          clear hm3 hg3 hs3 hG3 HRA2 HEA2 HRA HEA HAS HBX HG HK c0 cx
          have HOA := hid HG3.out.ofAt
          have hs3 := Keeps.size HK3.out
          cases hO : ofF (addK F x l) y
          case' none =>
            have HO := hid hO
            clear hO
            have HOA2 := hid (HOA.out.keeps ((Keeps.refl NoB w3).alloc (.map #[] 0)) (fun h => h))
            go_upto_region 15 with (first
              | (at_lookup; go_must (refine wpList_look_at _ rfl _ _ 24 rfl 71 Try.underlying24 (.map none) (zero_map _) (β .of) (N0 + 1) _ rfl HOA.out y rfl HWY.out (.map none) (by rw [HO.out]; rfl) ?_))
              | (at_mapUpdate; go_must (refine wpList_put_at _ rfl _ _ _ 24 rfl 71 Try.underlying24 (β .of) (N0 + 1) _ rfl HOA2.out (by unfold maxLen; omega) y rfl HWY.out ?_); intro w4 hm4 hg4 hs4))
            obtain ⟨β4, eb1, eb2, hG4⟩ := HG3.out.new_blk HO.out (by omega) (Nat.le_succ _) hm4 hg4
            have HBX4 := hid (show GBox w4 gb (some (β4 .rest)) (some (β4 .of)) (c + (d : Int)) p by rw [eb1, eb2]; exact (HBX3.out.kept ((Keeps.refl NoB w3).alloc (.map #[] 0))).grown HOA2.out hg4)
            have HK4 := hid (HK3.out.trans ((GKeep.nob ((Keeps.refl NoB w3).alloc (.map #[] 0))).trans (GKeep.map (gb := gb) HOA2.out (HG3.out.low .of rfl) hg4)))
            have HG4 := hid (show GRaw w4 base (N0 + 2) β4 (addK F x (l ++ [y])) (updF (ofF (addK F x l)) y (some fun z => hasF (addK F x l) z y)) by
              rw [show (fun z => hasF (addK F x l) z y) = fun _ => false from funext fun z => by rw [← hasF_of, hasF_none HO.out]]
              exact hG4)
            clear hm4 hg4 hs4 eb1 eb2 hG4 HOA2 HO
          case' some t =>
            have HO := hid hO
            clear hO
            go_upto_region 15 with (at_lookup; go_must (refine wpList_look_at _ rfl _ _ 24 rfl 71 Try.underlying24 (.map none) (zero_map _) (β .of) (N0 + 1) _ rfl HOA.out y rfl HWY.out (.map (some (β (.blk y)))) (by rw [HO.out]; rfl) ?_))
            obtain ⟨w4, hw4⟩ : ∃ w4, w4 = w3 := ⟨w3, rfl⟩
            obtain ⟨β4, hb4⟩ : ∃ β4, β4 = β := ⟨β, rfl⟩
            rw [← hw4]
            have HBX4 := hid (show GBox w4 gb (some (β4 .rest)) (some (β4 .of)) (c + (d : Int)) p by rw [hw4, hb4]; exact HBX3.out)
            have HK4 := hid (show GKeep base gb w w4 by rw [hw4]; exact HK3.out)
            have HG4 := hid (show GRaw w4 base (N0 + 2) β4 (addK F x (l ++ [y])) (updF (ofF (addK F x l)) y (some fun z => hasF (addK F x l) z y)) by
              rw [hw4, hb4, updF_eta (by rw [HO.out]; congr 1; funext z; rw [← hasF_of, hasF_some HO.out])]
              exact MapsAt.mono HG3.out (Nat.le_succ _))
            clear hw4 hb4 HO
          all_goals
            have c4 := HBX4.out.cells.2.1
            have HO4 := hid (updF_same (ofF (addK F x l)) y (some fun z => hasF (addK F x l) z y))
            have HOA4 := hid HG4.out.ofAt
            have HBA4 := hid (HG4.out.blkAt HO4.out)
            clear HOA c3 HBX3 HG3 HK3
            go_upto_region 16 with (first
              | (at_lookup; go_must (refine wpList_look_at _ rfl _ _ 24 rfl 71 Try.underlying24 (.map none) (zero_map _) (β4 .of) (N0 + 2) _ rfl HOA4.out y rfl HWY.out (.map (some (β4 (.blk y)))) (by rw [HO4.out]; rfl) ?_))
              | (at_mapUpdate; go_must (refine wpList_put_at _ rfl _ _ _ 71 rfl 73 Try.underlying71 (β4 (.blk y)) (N0 + 2) _ rfl HBA4.out (by unfold maxLen; omega) x rfl HX.out ?_); intro w5 hm5 hg5 hs5))
            have hm5 : MapAt w5 (β4 (.blk y)) (N0 + 3) (fun z => if z = x then some (.agg #[]) else setV (fun z => hasF (addK F x l) z y) z) := hm5
            rw [setV_put] at hm5
            have hG5 := HG4.out.set_blk HO4.out hm5 hg5 (Nat.le_succ _)
            rw [updF_upd, ofF_addK] at hG5
            have HG5 := hid hG5
            have HBX5 := hid (HBX4.out.grown HBA4.out hg5)
            have HK5 := hid (HK4.out.trans (GKeep.map (gb := gb) HBA4.out (HG4.out.low (.blk y) (by show ((updF (ofF (addK F x l)) y _ y).map setV).isSome = true; rw [HO4.out]; rfl)) hg5))
            have c5 := HBX5.out.cells.2.2.1
            have f5 := HBX5.out.free 2
            have hadd : IntKind.i64.wrap (c + (d : Int) + 1) = c + (d : Int) + 1 := IntWalk.i64_in _ (by omega)
            clear hm5 hg5 hs5 hG5 c4 HOA4 HBA4 HO4 HG4 HBX4 HK4
            go_wp2_with fail
            go_roundw
            case rel =>
              have e9 : c + ((d + 1 : Nat) : Int) = c + (d : Int) + 1 := by omega
              exact ⟨k + 1, by omega, by go_num, hid (by rw [HTS.out, cntD_new hy, HD.out, e9]; exact ⟨hlow, _, _, HBX5.out.setC (c + (d : Int) + 1), .inr ⟨β4, rfl, rfl, MapsAt.mono (HG5.out.box HBX5.out 2 _) (by omega)⟩⟩), hid (HK5.out.trans (GKeep.box (gb := gb) w5 hlow 2 _))⟩
            case measure => simp [intOf]; omega
      · obtain rfl : k = m := by omega
        have ht : bs.take k = bs := by rw [← HM.out]; exact List.take_length
        rw [ht] at HS
        obtain ⟨hlow2, ρ3, ω3, hbx3, h5⟩ := HS.out
        have HBX := hid hbx3
        have H5 := hid h5
        have c5 := hbx3.cells.2.2.1
        have c6 := hbx3.cells.2.2.2
        have f6 := hbx3.free 3
        clear hbx3 h5 HS
        go_wp2_with fail
        go_region
        all_goals
          go_wp2_with fail
          go_ret
          have HK9 := hid (HK.out.trans (GKeep.box (gb := gb) wr hlow 3 (.int .i64 (max p (c + (cntD bs : Int))))))
          refine ⟨rfl, GSt.kept ⟨hlow, _, _, HBX.out.setP _, ?_⟩ ((Keeps.refl NoB _).drew), HK9.out.fresh ((Keeps.refl NoB _).drew)⟩
          rcases H5.out with ⟨h1, h2, h3⟩ | ⟨β9, h1, h2, h3⟩
          · exact .inl ⟨h1, h2, h3⟩
          · exact .inr ⟨β9, h1, h2, MapsAt.mono (h3.box HBX.out 3 _) (by omega)⟩
end Go.Proofs.Ytnoooeeciebhfaa
