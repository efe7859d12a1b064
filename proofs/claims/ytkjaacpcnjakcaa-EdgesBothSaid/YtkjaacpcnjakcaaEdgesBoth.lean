/- The law EdgesBoth: its walk. Conditions: lengths that memory bears. -/
import Derived.Test.YtkjaacpcnjakcaaSpeaks19
import Derived.Test.YtkjaacpcnjakcaaBothSt
import Derived.IntWalk
set_option linter.unusedVariables false
namespace Go.Proofs.Ytkjaacpcnjakcaa
open Go.RowKit Go.ChangeShapes

set_option maxHeartbeats 4000000 in
set_option maxRecDepth 20000 in
theorem edgesBoth_calls (acts : List ActV) (A : Option Addr) (ca : Nat) (w : World) (ha : ActsAt w A acts) (hlen : acts.length ≤ 140737488355328) (hmx : ∀ e ∈ acts, e.blocks.length ≤ 140737488355328) (hwf : ∀ e ∈ acts, (Lit.int .i64 e.num).wf = true ∧ ∀ n ∈ e.blocks, (Lit.int .i64 n).wf = true) :
    Calls Try.prog 4 #[.slice A acts.length ca] w fun e w' => e = .returned (.bool true) ∧ Keeps NoB w w' := by
  have HO := hid ha
  have HWF := hid (fun k (hk : k < acts.length) => hwf (ga acts k) (ga_mem hk))
  have HMX := hid (fun k (hk : k < acts.length) => hmx (ga acts k) (ga_mem hk))
  have hol := ha.1
  clear ha hwf hmx
  obtain ⟨m, hm⟩ : ∃ m, acts.length = m := ⟨_, rfl⟩
  rw [hm] at hol hlen HWF HMX ⊢
  have HM := hid hm
  clear hm
  have hui := Try.underlying27
  go_enter Try.func4, Try.ntmps4
  go_wp2_with fail
  refine (speaks19_calls w).mono ?_
  rintro e w1 ⟨rfl, hk1⟩
  have HK1 := hid hk1
  clear hk1
  by_cases hm60 : 100 < m
  · have d1 : decide ((100 : Int) < (m : Int)) = true := decide_eq_true (by omega)
    go_wp2_with fail
    go_ret
    exact ⟨rfl, HK1.out⟩
  · have d1 : decide ((100 : Int) < (m : Int)) = false := decide_eq_false (by omega)
    go_wp2_with fail
    clear d1
    have hs0 : (w1.alloc (.cells #[.map none, .map none, .int .i64 0, .int .i64 0] 26)).heap.size = w1.heap.size + 1 := by simp
    have hst := hid (show BothSt w w1.heap.size 0 (fun _ => none) 0 0 (.slice (some ⟨w1.heap.size + 1, 0, none⟩) 0 0) [] (.slice (some ⟨w1.heap.size + 1 + 1, 0, none⟩) 0 0) [] (((w1.alloc (.cells #[.map none, .map none, .int .i64 0, .int .i64 0] 26)).alloc (.cells #[] 3)).alloc (.cells #[] 3)) by
      have hg := GOk.zero w1
      generalize hw2 : w1.alloc (.cells #[.map none, .map none, .int .i64 0, .int .i64 0] 26) = w2 at *
      have h1 := OwnInts.empty w2 (w1.heap.size + 1) .i64 3 (by omega)
      have h2 := OwnInts.empty (w2.alloc (.cells #[] 3)) (w1.heap.size + 1) .i64 3 (by simp; omega)
      have hs3 : (w2.alloc (.cells #[] 3)).heap.size = w1.heap.size + 1 + 1 := by simp; omega
      rw [hs0] at h1
      rw [hs3] at h2
      exact ⟨(hg.kept ((Keeps.refl NoB w2).alloc _)).kept ((Keeps.refl NoB _).alloc _), h1.kept ((Keeps.refl NoB _).alloc _), h2, fun k hk e => by (simp [Value.ownBlock] at hk e; omega), by rw [← hw2]; exact ((HK1.out.alloc _).alloc _).alloc _, by simp; omega, HK1.out.size⟩)
    obtain ⟨G, hG⟩ : ∃ G, w1.heap.size = G := ⟨_, rfl⟩
    rw [hG] at hst
    clear hs0
    generalize hw3 : (((w1.alloc (.cells #[.map none, .map none, .int .i64 0, .int .i64 0] 26)).alloc (.cells #[] 3)).alloc (.cells #[] 3)) = w3 at *
    rw [hG]
    clear hw3 HK1 hG
    go_loopw [4, 5, 7, 21] (fun v4 v5 _ v21 wr => ∃ (k : Nat) (F : GF) (c p : Int) (es bl : List Int), k ≤ m ∧ v21 = .int .i64 (k : Int) ∧ Hid (BothSt w G (61 * k) F c p v4 es v5 bl wr) ∧ es.length ≤ k ∧ bl.length ≤ 20 * k ∧ Hid (∀ x ∈ es, (Lit.int .i64 x).wf = true) ∧ Hid (∀ y ∈ bl, (Lit.int .i64 y).wf = true)) (fun _ _ _ v21 _ => m - (intOf v21).toNat)
    case atStart => exact ⟨0, _, 0, 0, [], [], Nat.zero_le _, rfl, hst, Nat.zero_le _, Nat.zero_le _, hid (fun x hx => by cases hx), hid (fun x hx => by cases hx)⟩
    case round =>
      clear hst
      obtain ⟨k, F, c, p, es, bl, hk, rfl, HS, hel, hbl, HWE, HWB⟩ := hrel
      by_cases hlt : k < m
      · obtain ⟨b6, o6, rfl, hc6⟩ := HO.out.2 (by rw [HM.out]; omega)
        obtain ⟨ck0, cn0, A2, c2, cb0, hb1, hb2, hat⟩ := hc6 k (by rw [HM.out]; exact hlt)
        have hwa := HWF.out k hlt
        have hma := HMX.out k hlt
        have HAT := hid hat
        have HA2 := hid hb2
        have ck1 := HS.out.k.cell ck0 (fun h => h)
        have cn1 := HS.out.k.cell cn0 (fun h => h)
        have cb1 := HS.out.k.cell cb0 (fun h => h)
        have p0 : (0 : Int) ≤ (k : Int) := by omega
        have p1 : (k : Int) < (m : Int) := by omega
        have hlo := HS.out.lo
        have hhi := HS.out.hi
        clear hc6 hat hb2 hb1 ck0 cn0 cb0
        generalize ga acts k = a at *
        obtain ⟨kd, x, bs⟩ := a
        have HWX := hid hwa.1
        have HWS := hid hwa.2
        clear hwa
        obtain ⟨lb, hlb⟩ : ∃ lb, bs.length = lb := ⟨_, rfl⟩
        have ck : wr.cell? ⟨b6, o6 + k * 3, none⟩ = some (.int .i64 kd) := ck1
        have cn : wr.cell? ⟨b6, o6 + k * 3 + 1, none⟩ = some (.int .i64 x) := cn1
        have cb : wr.cell? ⟨b6, o6 + k * 3 + 2, none⟩ = some (.slice A2 bs.length c2) := cb1
        clear ck1 cn1 cb1
        have hmb : bs.length ≤ 140737488355328 := hma
        clear hma
        rw [hlb] at cb hmb
        have HLB := hid hlb
        clear hlb
        by_cases h20 : 20 < lb
        · have d1 : decide ((20 : Int) < (lb : Int)) = true := decide_eq_true (by omega)
          go_wp2_with fail
          go_ret
          exact ⟨rfl, HS.out.k.alloc _⟩
        · have d1 : decide ((20 : Int) < (lb : Int)) = false := decide_eq_false (by omega)
          have HBB := hid (show BothB w G (61 * k) F c p u4 es u5 bl wr.heap.size (.int .i64 kd) (.int .i64 x) (.slice A2 lb c2) (wr.alloc (.cells #[.int .i64 kd, .int .i64 x, .slice A2 lb c2] 35)) from ⟨HS.out.kept ((Keeps.refl NoB wr).alloc _), heap_alloc_new wr _⟩)
          have hbb : wr.heap.size ≠ G := by omega
          by_cases hk0 : kd = 0
          · subst hk0
            have HAC := hid (gadd_calls G G (61 * k) F c p x bs A2 c2 _ HBB.out.s.g HWX.out (HAT.out.kept HBB.out.s.k) HWS.out (fun b off e h0 => by have := HAT.out.lt b off e h0; omega) (by have := HBB.out.s.hi; omega) (by rw [HLB.out]; omega))
            rw [HLB.out] at HAC
            go_wp2_with fail
            refine HAC.out.mono ?_
            rintro e w4 ⟨rfl, hg, hk4⟩
            have HB4 := hid (HBB.out.graph hg hk4 hbb)
            generalize addG F x bs = F' at *
            generalize addC F x bs c = c' at *
            generalize max p c' = p' at *
            clear hg hk4 HAC HBB
            go_wp2_with fail
            have tka : True := trivial
            have tkb : True := trivial
            have ST := HB4
            clear HB4
            go_region_held3 (fun w' => w'.cell? ⟨wr.heap.size, 1, none⟩ = some (.int .i64 x) ∧ w'.cell? ⟨wr.heap.size, 2, none⟩ = some (.slice A2 lb c2)) (first | (exact ST.out.cells.2) | (exact (ST.out.kept (by first | exact Keeps.refl NoB _ | exact (Keeps.refl NoB _).drew | exact ((Keeps.refl NoB _).drew.alloc _) | exact ((Keeps.refl NoB _).alloc _).drew | exact (Keeps.refl NoB _).alloc _)).cells.2) | go_keep) (first
              | (clear tka; refine step_appIntsL rfl _ _ 27 rfl (G + 1) 3 .i64 8 hui info_int4 u5 bl rfl (ST.out.kept (by first | exact Keeps.refl NoB _ | exact (Keeps.refl NoB _).drew | exact ((Keeps.refl NoB _).drew.alloc _) | exact ((Keeps.refl NoB _).alloc _).drew | exact (Keeps.refl NoB _).alloc _)).s.b A2 c2 lb bs HLB.out rfl HA2.out (HAT.out.kept (ST.out.kept (by first | exact Keeps.refl NoB _ | exact (Keeps.refl NoB _).drew | exact ((Keeps.refl NoB _).drew.alloc _) | exact ((Keeps.refl NoB _).alloc _).drew | exact (Keeps.refl NoB _).alloc _)).s.k) (by omega) (by omega) (ST.out.kept (by first | exact Keeps.refl NoB _ | exact (Keeps.refl NoB _).drew | exact ((Keeps.refl NoB _).drew.alloc _) | exact ((Keeps.refl NoB _).alloc _).drew | exact (Keeps.refl NoB _).alloc _)).s.hi ?_; intro v5 w5 hown5 hgr5 hat5; (first | (have HX5 := hid ((Keeps.ofGrown hgr5).cell (cell_one _ _ _) (fun e => by have := (ST.out.s.b.base_le _ e.symm).2; simp at this))) | skip); have ST := hid ((ST.out.kept (by first | exact Keeps.refl NoB _ | exact (Keeps.refl NoB _).drew | exact ((Keeps.refl NoB _).drew.alloc _) | exact ((Keeps.refl NoB _).alloc _).drew | exact (Keeps.refl NoB _).alloc _)).bl_grown hown5 hgr5 hat5); clear hown5 hgr5 hat5)
              | (clear tkb; refine step_app1 rfl _ _ 27 rfl (G + 1) 3 .i64 8 hui info_int4 u4 es rfl (ST.out.kept (by first | exact Keeps.refl NoB _ | exact (Keeps.refl NoB _).drew | exact ((Keeps.refl NoB _).drew.alloc _) | exact ((Keeps.refl NoB _).alloc _).drew | exact (Keeps.refl NoB _).alloc _)).s.e _ _ x rfl (by first | exact cell_one _ _ _ | exact HX5.out) (by omega) (by omega) (ST.out.kept (by first | exact Keeps.refl NoB _ | exact (Keeps.refl NoB _).drew | exact ((Keeps.refl NoB _).drew.alloc _) | exact ((Keeps.refl NoB _).alloc _).drew | exact (Keeps.refl NoB _).alloc _)).s.hi ?_; intro g9 cap9 w9 hown9 hgr9 hat9; have ST := hid ((ST.out.kept (by first | exact Keeps.refl NoB _ | exact (Keeps.refl NoB _).drew | exact ((Keeps.refl NoB _).drew.alloc _) | exact ((Keeps.refl NoB _).alloc _).drew | exact (Keeps.refl NoB _).alloc _)).es_grown hown9 hgr9 (hat9.imp (fun e => e.symm) (fun e => congrArg some e))); clear hown9 hgr9 hat9))
            all_goals go_wp2_with fail
            all_goals go_roundw
            case rel => exact ⟨k + 1, _, _, _, es ++ [x], bl ++ bs, by omega, by go_num, hid (ST.out.s.mono (by omega) (by omega)), by simp; omega, by rw [List.length_append, HLB.out]; omega, hid (wf_app HWE.out (fun y hy => by rw [List.mem_singleton.1 hy]; exact HWX.out)), hid (wf_app HWB.out HWS.out)⟩
            case measure => simp [intOf]; omega
          · by_cases hk1 : kd = 1
            · subst hk1
              have HTC := hid (gtake_calls G G (61 * k) F c p x _ HBB.out.s.g HWX.out)
              go_wp2_with fail
              refine HTC.out.mono ?_
              rintro e w4 ⟨v, l, rfl, _, _, hg, hk4⟩
              have HB4 := hid (HBB.out.s.graph hg hk4)
              clear hg hk4 HTC HBB
              go_wp2_with fail
              go_roundw
              case rel => exact ⟨k + 1, _, _, _, es, bl, by omega, by go_num, hid (HB4.out.mono (by omega) (by omega)), by omega, by omega, HWE, HWB⟩
              case measure => simp [intOf]; omega
            · by_cases hk2 : kd = 2
              · subst hk2
                have HTC := hid (gdrop_calls G G (61 * k) F c p x _ HBB.out.s.g HWX.out)
                go_wp2_with fail
                refine HTC.out.mono ?_
                rintro e w4 ⟨l, rfl, _, hg, hk4⟩
                have HB4 := hid (HBB.out.s.graph hg hk4)
                clear hg hk4 HTC HBB
                go_wp2_with fail
                go_roundw
                case rel => exact ⟨k + 1, _, _, _, es, bl, by omega, by go_num, hid (HB4.out.mono (by omega) (by omega)), by omega, by omega, HWE, HWB⟩
                case measure => simp [intOf]; omega
              · have e0 : (kd = 0) = False := eq_false hk0
                have e1 : (kd = 1) = False := eq_false hk1
                have e2 : (kd = 2) = False := eq_false hk2
                go_wp2_with fail
                go_roundw
                case rel => exact ⟨k + 1, _, _, _, es, bl, by omega, by go_num, hid (HBB.out.s.mono (by omega) (by omega)), by omega, by omega, HWE, HWB⟩
                case measure => simp [intOf]; omega
      · obtain rfl : k = m := by omega
        obtain ⟨A4, c4, hv4, _, hat4⟩ := HS.out.e.reads
        obtain ⟨A5, c5, hv5, _, hat5⟩ := HS.out.b.reads
        obtain ⟨le, hle⟩ : ∃ le, es.length = le := ⟨_, rfl⟩
        obtain ⟨lb, hlb⟩ : ∃ lb, bl.length = lb := ⟨_, rfl⟩
        rw [hle] at hv4 hel
        rw [hlb] at hv5 hbl
        have HLE := hid hle
        have HLB := hid hlb
        have HA4 := hid hat4
        have HA5 := hid hat5
        have HG := hid HS.out.g
        have HK := hid HS.out.k
        clear hle hlb hat4 hat5 HS
        subst hv4 hv5
        go_wp2_with fail
        generalize hwe : wr = we at *
        clear hwe
        go_loopw [9, 11, 60] (fun _ _ v60 wr => ∃ i : Nat, i ≤ le ∧ v60 = .int .i64 (i : Int) ∧ Hid (Keeps NoB we wr)) (fun _ _ v60 _ => le - (intOf v60).toNat)
        case atStart => exact ⟨0, Nat.zero_le _, rfl, hid (Keeps.refl _ _)⟩
        case round =>
          obtain ⟨i, hi, rfl, HK2⟩ := hrel
          by_cases hlt2 : i < le
          · obtain ⟨b8, o8, rfl, hc8⟩ := (HA4.out.kept HK2.out).get (by rw [HLE.out]; omega)
            have cx := hc8 i (by rw [HLE.out]; exact hlt2)
            have HWX := hid (HWE.out (gi es i) (gi_mem es i (by rw [HLE.out]; exact hlt2)))
            have p0 : (0 : Int) ≤ (i : Int) := by omega
            have p1 : (i : Int) < (le : Int) := by omega
            clear hc8
            generalize gi es i = x at *
            go_wp2_with fail
            go_loopw [11, 66] (fun _ v66 wr => ∃ j : Nat, j ≤ lb ∧ v66 = .int .i64 (j : Int) ∧ Hid (Keeps NoB we wr)) (fun _ v66 _ => lb - (intOf v66).toNat)
            case atStart => exact ⟨0, Nat.zero_le _, rfl, HK2⟩
            case round =>
              obtain ⟨j, hj, rfl, HK3⟩ := hrel
              by_cases hlt3 : j < lb
              · obtain ⟨b9, o9, rfl, hc9⟩ := (HA5.out.kept HK3.out).get (by rw [HLB.out]; omega)
                have cy := hc9 j (by rw [HLB.out]; exact hlt3)
                have HWY := hid (HWB.out (gi bl j) (gi_mem bl j (by rw [HLB.out]; exact hlt3)))
                have q0 : (0 : Int) ≤ (j : Int) := by omega
                have q1 : (j : Int) < (lb : Int) := by omega
                clear hc9
                generalize gi bl j = y at *
                go_wp2_with fail
                refine (grest_calls G G (61 * k) F c p x _ (HG.out.st.kept HK3.out) HWX.out (by omega)).mono ?_
                rintro e w5 ⟨v5, l5, rfl, ho5, hl5, hk5⟩
                obtain ⟨A6, c6, hv6, _, hat6⟩ := ho5.reads
                subst hv6
                have HK5 := hid (HK3.out.fresh hk5)
                have HH5 := hid (has_calls l5 y A6 c6 w5 hat6)
                rw [show decide (y ∈ l5) = hasF F x y from by rw [Bool.eq_iff_iff, decide_eq_true_iff]; exact hl5.mem y] at HH5
                clear ho5 hl5 hk5 hat6
                go_wp2_with fail
                refine HH5.out.mono ?_
                rintro e w6 ⟨rfl, hk6⟩
                have HK6 := hid (HK5.out.fresh hk6)
                clear hk6 HH5
                go_wp2_with fail
                refine (gof_calls G G (61 * k) F c p y _ (HG.out.st.kept HK6.out) HWY.out (by omega)).mono ?_
                rintro e w7 ⟨v7, l7, rfl, ho7, hl7, hk7⟩
                obtain ⟨A8, c8, hv8, _, hat8⟩ := ho7.reads
                subst hv8
                have HK7 := hid (HK6.out.fresh hk7)
                have HH7 := hid (has_calls l7 x A8 c8 w7 hat8)
                rw [show decide (x ∈ l7) = hasF F x y from by rw [Bool.eq_iff_iff, decide_eq_true_iff]; exact hl7.mem x] at HH7
                clear ho7 hl7 hk7 hat8
                go_wp2_with fail
                refine HH7.out.mono ?_
                rintro e w8 ⟨rfl, hk8⟩
                have HK8 := hid (HK7.out.fresh hk8)
                clear hk8 HH7
                generalize hasF F x y = t
                cases t
                all_goals
                  go_wp2_with fail
                  go_roundw
                  case rel => exact ⟨j + 1, by omega, by go_num, HK8⟩
                  case measure => simp [intOf]; omega
              · obtain rfl : j = lb := by omega
                go_wp2_with fail
                go_roundw
                case rel => exact ⟨i + 1, by omega, by go_num, HK3⟩
                case measure => simp [intOf]; omega
          · obtain rfl : i = le := by omega
            have HKF := hid (HK.out.fresh HK2.out)
            go_wp2_with fail
            go_ret
            exact ⟨rfl, HKF.out⟩
end Go.Proofs.Ytkjaacpcnjakcaa
