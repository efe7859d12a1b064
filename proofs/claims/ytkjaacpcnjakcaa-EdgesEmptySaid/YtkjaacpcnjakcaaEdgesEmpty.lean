/- The law EdgesEmpty: its walk. Conditions: lengths that memory bears. -/
import Derived.Test.YtkjaacpcnjakcaaSpeaks19
import Derived.Test.YtkjaacpcnjakcaaEdgesEmptyMath
import Derived.IntWalk
set_option linter.unusedVariables false
namespace Go.Proofs.Ytkjaacpcnjakcaa
open Go.RowKit Go.ChangeShapes

set_option maxHeartbeats 4000000 in
set_option maxRecDepth 20000 in
theorem edgesEmpty_calls (eqs : List (List Int)) (dr : Bool) (A : Option Addr) (ca : Nat) (w : World) (ha : RowsAt w A eqs) (hlen : eqs.length ≤ 140737488355328) (hmx : ∀ l ∈ eqs, l.length ≤ 140737488355328) (hwf : ∀ l ∈ eqs, ∀ n ∈ l, (Lit.int .i64 n).wf = true) :
    Calls Try.prog 3 #[.slice A eqs.length ca, .bool dr] w fun e w' => e = .returned (.bool true) ∧ Keeps NoB w w' := by
  have HO := hid ha
  have HWF := hid (fun k (hk : k < eqs.length) => hwf (gl eqs k) (gl_in hk))
  have HMX := hid (fun k (hk : k < eqs.length) => hmx (gl eqs k) (gl_in hk))
  have hol := ha.1
  clear ha hwf hmx
  obtain ⟨m, hm⟩ : ∃ m, eqs.length = m := ⟨_, rfl⟩
  rw [hm] at hol hlen HWF HMX ⊢
  have HM := hid hm
  clear hm
  go_enter Try.func3, Try.ntmps3
  go_wp2_with fail
  refine (speaks19_calls w).mono ?_
  rintro e w1 ⟨rfl, hk1⟩
  have HK1 := hid hk1
  clear hk1
  by_cases hm60 : 60 < m
  · have d1 : decide ((60 : Int) < (m : Int)) = true := decide_eq_true (by omega)
    go_wp2_with fail
    go_ret
    exact ⟨rfl, HK1.out⟩
  · have d1 : decide ((60 : Int) < (m : Int)) = false := decide_eq_false (by omega)
    go_wp2_with fail
    clear d1
    have HK2 := hid (HK1.out.alloc (.cells #[.map none, .map none, .int .i64 0, .int .i64 0] 26))
    have HG2 := hid (GOk.zero w1)
    have hsw := HK1.out.size
    have hb2 : w1.heap.size ≤ (w1.alloc (.cells #[.map none, .map none, .int .i64 0, .int .i64 0] 26)).heap.size := by simp
    generalize w1.alloc (.cells #[.map none, .map none, .int .i64 0, .int .i64 0] 26) = w2 at *
    obtain ⟨G, hG⟩ : ∃ G, w1.heap.size = G := ⟨_, rfl⟩
    rw [hG] at HG2 hsw hb2
    rw [hG]
    clear HK1 hG
    go_loopw [6, 7, 8, 20] (fun v6 _ _ v20 wr => ∃ (k : Nat) (c p : Int), k ≤ m ∧ v20 = .int .i64 (k : Int) ∧ v6 = .int .i64 (neN (eqs.take k) : Int) ∧ Hid (GOk wr G G (91 * k) (repE (eqs.take k)) c p) ∧ Hid (Keeps NoB w wr) ∧ G ≤ wr.heap.size) (fun _ _ _ v20 _ => m - (intOf v20).toNat)
    case atStart => exact ⟨0, 0, 0, Nat.zero_le _, rfl, rfl, hid (by rw [List.take_zero, repE_nil]; exact HG2.out), HK2, hb2⟩
    case round =>
      clear HG2 HK2
      obtain ⟨k, c, p, hk, rfl, rfl, HG, HK, hbr⟩ := hrel
      by_cases hlt : k < m
      · obtain ⟨b6, o6, rfl, hc6⟩ := HO.out.2 (by rw [HM.out]; omega)
        obtain ⟨u, cu0, A6, c6, rfl, hc6', hA6, hat6⟩ := hc6 k (by rw [HM.out]; exact hlt)
        have cu := HK.out.cell cu0 (fun h => h)
        have HAT := hid (hat6.kept HK.out)
        have HLT := hid hat6.lt
        have hll := HMX.out k hlt
        have HWL := hid (HWF.out k hlt)
        have htl : (eqs.take k).length = k := by rw [List.length_take, HM.out]; omega
        have HTS := hid (show eqs.take (k + 1) = eqs.take k ++ [gl eqs k] by rw [List.take_succ_eq_append_getElem (by rw [HM.out]; exact hlt), gl_eq eqs k (by rw [HM.out]; exact hlt)])
        have HOKA := hid (show ∀ l, okA (repE (eqs.take k)) (k : Int) l = !l.isEmpty from fun l => by have := repE_ok (eqs.take k) l; rw [htl] at this; exact this)
        have HADD := hid (show ∀ l, addG (repE (eqs.take k)) (k : Int) l = repE (eqs.take k ++ [l]) from fun l => by have := repE_add (eqs.take k) l; rw [htl] at this; exact this)
        have HNE := hid (neN_snoc (eqs.take k))
        have hnle := neN_le (eqs.take k)
        have p0 : (0 : Int) ≤ (k : Int) := by omega
        have p1 : (k : Int) < (m : Int) := by omega
        clear hc6 hc6' hA6 cu0 hat6
        generalize gl eqs k = l at *
        obtain ⟨tk, htk⟩ : ∃ tk, eqs.take k = tk := ⟨_, rfl⟩
        rw [htk] at HTS HOKA HADD HNE HG hnle htl
        rw [htk]
        clear htk
        obtain ⟨ll, hll1⟩ : ∃ ll, l.length = ll := ⟨_, rfl⟩
        have HLL := hid hll1
        rw [hll1] at cu hll
        clear hll1
        by_cases h30 : 30 < ll
        · have d1 : decide ((30 : Int) < (ll : Int)) = true := decide_eq_true (by omega)
          go_wp2_with fail
          go_ret
          exact ⟨rfl, HK.out⟩
        · have d1 : decide ((30 : Int) < (ll : Int)) = false := decide_eq_false (by omega)
          have HAC := hid (gadd_calls G G (91 * k) (repE tk) c p (k : Int) l A6 c6 wr HG.out (WalkArith.wf_i64 ⟨by omega, by omega⟩) HAT.out HWL.out (fun b off e h0 => by have := HLT.out b off e h0; omega) hbr (by rw [HLL.out]; omega))
          rw [HOKA.out, HADD.out, HLL.out] at HAC
          go_wp2_with fail
          refine HAC.out.mono ?_
          rintro e w3 ⟨rfl, hg, hk3⟩
          have HG3 := hid (show GOk w3 G G (91 * (k + 1)) (repE (eqs.take (k + 1))) (addC (repE tk) (k : Int) l c) (max p (addC (repE tk) (k : Int) l c)) by rw [HTS.out]; exact hg.mono (by omega) (by omega))
          have HK3 := hid (GKeep.outer HK.out hk3 hsw)
          have hb3 : G ≤ w3.heap.size := by have := Keeps.size hk3; omega
          have hne := HNE.out l
          rw [← HTS.out] at hne
          generalize addC (repE tk) (k : Int) l c = c9 at *
          clear hg hk3 HAC d1
          cases hle : l.isEmpty with
          | true =>
            rw [hle] at hne
            go_wp2_with fail
            go_roundw
            case rel => exact ⟨k + 1, c9, _, by omega, by go_num, by rw [hne]; rfl, HG3, HK3, hb3⟩
            case measure => simp [intOf]; omega
          | false =>
            rw [hle] at hne
            go_wp2_with fail
            go_roundw
            case rel => exact ⟨k + 1, c9, _, by omega, by go_num, by rw [hne]; rfl, HG3, HK3, hb3⟩
            case measure => simp [intOf]; omega
      · obtain rfl : k = m := by omega
        have htk : eqs.take k = eqs := by rw [← HM.out]; exact List.take_length
        rw [htk] at HG
        rw [htk]
        obtain ⟨K, hK1, hK2, hK3⟩ := repE_keys eqs
        have HK9 := hid hK2
        have HKN := hid hK1
        have HEC := hid (gequations_calls G G (91 * k) (repE eqs) c p wr HG.out.st K hK1 hK2)
        rw [hK3] at HEC
        have HKL := hid hK3
        have hnn : neN eqs ≤ 60 := by have := neN_le eqs; rw [HM.out] at this; omega
        clear hK1 hK2 hK3 htk
        generalize neN eqs = nn at *
        go_wp2_with fail
        refine HEC.out.mono ?_
        rintro e w3 ⟨rfl, hk3⟩
        have HK3 := hid (HK.out.fresh hk3)
        have HG3 := hid (HG.out.kept hk3)
        have hb3 : G ≤ w3.heap.size := by have := Keeps.size hk3; omega
        clear hk3 HEC HG HK hbr
        go_wp2_with fail
        cases dr with
        | true =>
          go_loopw [9, 10, 12, 39] (fun _ _ _ v39 wr => ∃ (i : Nat) (c p : Int), i ≤ k ∧ v39 = .int .i64 (i : Int) ∧ Hid (GOk wr G G (91 * k) (dropE eqs i) c p) ∧ Hid (Keeps NoB w wr)) (fun _ _ _ v39 _ => k - (intOf v39).toNat)
          case atStart => exact ⟨0, c, p, Nat.zero_le _, rfl, hid (by rw [dropE_zero]; exact HG3.out), HK3⟩
          case round =>
            clear HG3 HK3 hb3
            obtain ⟨i, c1, p1', hi, rfl, HG, HK⟩ := hrel
            by_cases hlt : i < k
            · obtain ⟨b6, o6, rfl, hc6⟩ := HO.out.2 (by rw [HM.out]; omega)
              obtain ⟨u, cu0, A6, c6, rfl, hc6', hA6, hat6⟩ := hc6 i (by rw [HM.out]; exact hlt)
              have cu := HK.out.cell cu0 (fun h => h)
              have HD := hid (gdrop_calls G G (91 * k) (dropE eqs i) c1 p1' (i : Int) wr HG.out (WalkArith.wf_i64 ⟨by omega, by omega⟩))
              rw [dropE_at (by rw [HM.out]; exact hlt), dropE_succ] at HD
              have p0 : (0 : Int) ≤ (i : Int) := by omega
              have p1 : (i : Int) < (k : Int) := by omega
              clear hc6 hc6' hA6 cu0 hat6
              generalize gl eqs i = l at *
              cases l with
              | nil =>
                go_wp2_with fail
                refine HD.out.mono ?_
                rintro e w4 ⟨l1, rfl, _, hg, hk4⟩
                have HG4 := hid hg
                have HK4 := hid (GKeep.outer HK.out hk4 hsw)
                clear hg hk4 HD
                go_wp2_with fail
                go_roundw
                case rel => exact ⟨i + 1, _, _, by omega, by go_num, HG4, HK4⟩
                case measure => simp [intOf]; omega
              | cons y l =>
                obtain ⟨ll, hll1⟩ : ∃ ll, (y :: l).length = ll := ⟨_, rfl⟩
                have hl0 : 0 < ll := by rw [← hll1]; simp
                rw [hll1] at cu
                have d1 : decide ((0 : Int) < (ll : Int)) = true := decide_eq_true (by omega)
                clear hll1
                go_wp2_with fail
                refine HD.out.mono ?_
                rintro e w4 ⟨l1, rfl, _, hg, hk4⟩
                have HG4 := hid hg
                have HK4 := hid (GKeep.outer HK.out hk4 hsw)
                clear hg hk4 HD
                go_wp2_with fail
                go_roundw
                case rel => exact ⟨i + 1, _, _, by omega, by go_num, HG4, HK4⟩
                case measure => simp [intOf]; omega
            · obtain rfl : i = k := by omega
              have hda := dropE_all eqs
              rw [HM.out] at hda
              rw [hda] at HG
              have hc0 := HG.out.cnt.empty (fun x y => rfl)
              subst hc0
              have HEC := hid (fun (w5 : World) (hk : Keeps NoB wr w5) => gequations_calls G G (91 * i) (fun _ => none) 0 p1' w5 (HG.out.st.kept hk) [] (by simp) (fun x => by simp))
              clear hda
              go_wp2_with fail
              refine (gedges_calls G G (91 * i) (fun _ => none) 0 p1' wr HG.out.st).mono ?_
              rintro e w5 ⟨rfl, hk5⟩
              have HE5 := hid (HEC.out w5 hk5)
              have HK5 := hid (HK.out.fresh hk5)
              clear hk5
              go_wp2_with fail
              refine HE5.out.mono ?_
              rintro e w6 ⟨rfl, hk6⟩
              have HK6 := hid (HK5.out.fresh hk6)
              clear hk6
              go_wp2_with fail
              go_ret
              exact ⟨rfl, HK6.out⟩
        | false =>
          go_loopw [9, 10, 12, 39] (fun _ _ _ v39 wr => ∃ (i : Nat) (c p : Int), i ≤ k ∧ v39 = .int .i64 (i : Int) ∧ Hid (GOk wr G G (91 * k) (takenF (repE eqs) (eqs.take i).flatten) c p) ∧ Hid (Keeps NoB w wr)) (fun _ _ _ v39 _ => k - (intOf v39).toNat)
          case atStart => exact ⟨0, c, p, Nat.zero_le _, rfl, hid (by rw [List.take_zero, List.flatten_nil, takenF_nil]; exact HG3.out), HK3⟩
          case round =>
            clear HG3 HK3 hb3
            obtain ⟨i, c1, p1', hi, rfl, HG, HK⟩ := hrel
            by_cases hlt : i < k
            · obtain ⟨b6, o6, rfl, hc6⟩ := HO.out.2 (by rw [HM.out]; omega)
              obtain ⟨u, cu0, A6, c6, rfl, hc6', hA6, hat6⟩ := hc6 i (by rw [HM.out]; exact hlt)
              have cu := HK.out.cell cu0 (fun h => h)
              have HAT := hid hat6
              have HWL := hid (HWF.out i hlt)
              have hll := HMX.out i hlt
              have HTS := hid (show (eqs.take (i + 1)).flatten = (eqs.take i).flatten ++ gl eqs i by rw [List.take_succ_eq_append_getElem (by rw [HM.out]; exact hlt), List.flatten_append, gl_eq eqs i (by rw [HM.out]; exact hlt)]; simp)
              have HROW := hid (fun y => taken_row (ls := eqs) (i := i) y)
              have p0 : (0 : Int) ≤ (i : Int) := by omega
              have p1 : (i : Int) < (k : Int) := by omega
              clear hc6 hc6' hA6 cu0 hat6
              generalize gl eqs i = l at *
              obtain ⟨ll, hll1⟩ : ∃ ll, l.length = ll := ⟨_, rfl⟩
              have HLL := hid hll1
              rw [hll1] at cu hll
              clear hll1
              obtain ⟨S, hS⟩ : ∃ S, (eqs.take i).flatten = S := ⟨_, rfl⟩
              rw [hS] at HG HTS
              clear hS
              go_wp2_with fail
              go_loopw [12, 53] (fun _ v53 w7 => ∃ (j : Nat) (c p : Int), j ≤ ll ∧ v53 = .int .i64 (j : Int) ∧ Hid (GOk w7 G G (91 * k) (takenF (repE eqs) (S ++ l.take j)) c p) ∧ Hid (Keeps NoB w w7)) (fun _ v53 _ => ll - (intOf v53).toNat)
              case atStart => exact ⟨0, c1, p1', Nat.zero_le _, rfl, hid (by rw [List.take_zero, List.append_nil]; exact HG.out), HK⟩
              case round =>
                clear HG
                obtain ⟨j, c2, p2, hj, rfl, HG, HK7⟩ := hrel
                by_cases hlt2 : j < ll
                · obtain ⟨b8, o8, rfl, hc8⟩ := (HAT.out.kept HK7.out).get (by rw [HLL.out]; omega)
                  have cx := hc8 j (by rw [HLL.out]; exact hlt2)
                  have hwy := HWL.out (gi l j) (gi_mem l j (by rw [HLL.out]; exact hlt2))
                  have HTJ := hid (take_snoc (l := l) (i := j) (by rw [HLL.out]; exact hlt2))
                  have HTK := hid (gtake_calls G G (91 * k) (takenF (repE eqs) (S ++ l.take j)) c2 p2 (gi l j) wr HG.out hwy)
                  rw [takenF_take, List.append_assoc, ← HTJ.out] at HTK
                  clear hc8 hwy HTJ
                  generalize gi l j = y at *
                  have q0 : (0 : Int) ≤ (j : Int) := by omega
                  have q1 : (j : Int) < (ll : Int) := by omega
                  go_wp2_with fail
                  refine HTK.out.mono ?_
                  rintro e w8 ⟨v, l8, rfl, _, _, hg, hk8⟩
                  have HG8 := hid hg
                  have HK8 := hid (GKeep.outer HK7.out hk8 hsw)
                  clear hg hk8 HTK
                  go_wp2_with fail
                  go_roundw
                  case rel => exact ⟨j + 1, _, _, by omega, by go_num, HG8, HK8⟩
                  case measure => simp [intOf]; omega
                · obtain rfl : j = ll := by omega
                  have htl : l.take j = l := by rw [← HLL.out]; exact List.take_length
                  rw [htl, ← HTS.out] at HG
                  have HRC := hid (grest_calls G G (91 * k) (takenF (repE eqs) (eqs.take (i + 1)).flatten) c2 p2 (i : Int) wr HG.out.st (WalkArith.wf_i64 ⟨by omega, by omega⟩) (by omega))
                  clear htl
                  go_wp2_with fail
                  refine HRC.out.mono ?_
                  rintro e w8 ⟨v8, l8, rfl, ho8, hl8, hk8⟩
                  obtain rfl : l8 = [] := hl8.eq (by simp) (fun y => by rw [HROW.out]; simp)
                  obtain ⟨A8, c8, hv8, _, _⟩ := ho8.reads
                  subst hv8
                  have HG8 := hid (HG.out.kept hk8)
                  have HK8 := hid (HK7.out.fresh hk8)
                  clear hk8 HRC ho8 hl8
                  go_wp2_with fail
                  go_roundw
                  case rel => exact ⟨i + 1, c2, p2, by omega, by go_num, HG8, HK8⟩
                  case measure => simp [intOf]; omega
            · obtain rfl : i = k := by omega
              have hda : eqs.take i = eqs := by rw [← HM.out]; exact List.take_length
              rw [hda] at HG
              have hc0 := HG.out.cnt.empty (taken_all eqs)
              subst hc0
              have HEC := hid (fun (w5 : World) (hk : Keeps NoB wr w5) => gequations_calls G G (91 * i) (takenF (repE eqs) eqs.flatten) 0 p1' w5 (HG.out.st.kept hk) K HKN.out (fun x => by rw [takenF_isSome]; exact HK9.out x))
              rw [HKL.out] at HEC
              clear hda
              go_wp2_with fail
              refine (gedges_calls G G (91 * i) (takenF (repE eqs) eqs.flatten) 0 p1' wr HG.out.st).mono ?_
              rintro e w5 ⟨rfl, hk5⟩
              have HE5 := hid (HEC.out w5 hk5)
              have HK5 := hid (HK.out.fresh hk5)
              clear hk5
              go_wp2_with fail
              refine HE5.out.mono ?_
              rintro e w6 ⟨rfl, hk6⟩
              have HK6 := hid (HK5.out.fresh hk6)
              clear hk6
              go_wp2_with fail
              go_ret
              exact ⟨rfl, HK6.out⟩
end Go.Proofs.Ytkjaacpcnjakcaa
