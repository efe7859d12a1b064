/- Whether equations agree: closure.Agrees' walk. Conditions: lengths are small. -/
import Derived.Test.YtpkkaicpbihjfaaG7
import Derived.Test.YtpkkaicpbihjfaaReach
import Derived.Test.YtpkkaicpbihjfaaG6
set_option linter.unusedVariables false
namespace Go.Proofs.Ytpkkaicpbihjfaa
open Go.RowKit

theorem zero_eqn (w : World) : (zeroValue 75).run Try.prog w = .ok (.agg #[.slice none 0 0, .slice none 0 0]) w := by kernel_rfl
set_option maxHeartbeats 1600000 in
set_option maxRecDepth 20000 in
theorem agrees_calls (all : Int) (n : Nat) (es : List EqV) (A : Option Addr) (c : Nat) (R : Nat → Prop) (w : World) (h : EqsIn R w A es) (hn : n ≤ 1000000) (hlen : es.length ≤ 1000000) (hofs : (ofsE es).length ≤ 1000000) (hall : all ≤ 9223372036854775807) (hof : ∀ e ∈ es, e.of.length ≤ 1000000) :
    Calls Try.prog 40 #[.int .i64 all, .int .i64 (n : Int), .slice A es.length c] w fun e w' => e = .returned (.bool (agreesN all n es)) ∧ Keeps NoB w w' := by
  have HE := hid h.lt
  have HOF := hid hofs
  have HO1 := hid (fun k (hk : k < es.length) => hof (ge es k) (ge_mem es k hk))
  have HT := hid (take_ge es)
  have hu := Try.underlying82
  clear h hofs hof
  obtain ⟨m, hm⟩ : ∃ m, es.length = m := ⟨_, rfl⟩
  rw [hm] at hlen ⊢
  have HM := hid hm
  clear hm
  go_enter Try.func40, Try.ntmps40
  go_wp2_with fail
  go_loopw [7, 18] (fun v7 v18 wr => ∃ k : Nat, k ≤ m ∧ v18 = .int .i64 (k : Int) ∧ Hid (OwnNRows (fun b => R b ∧ b < w.heap.size) wr w.heap.size v7 ((es.take k).map EqV.of)) ∧ Hid (Keeps NoB w wr)) (fun _ v18 _ => m - (intOf v18).toNat)
  case atStart => exact ⟨0, Nat.zero_le _, rfl, hid (OwnNRows.nil _ _ _), hid (Keeps.refl NoB w)⟩
  case round =>
    obtain ⟨k, hk, rfl, HO, HK⟩ := hrel
    by_cases hlt : k < m
    · obtain ⟨b, off, rfl, hbR, hc⟩ := HE.out.2 (by rw [HM.out]; omega)
      obtain ⟨u1, u2, h1, h2, h3, h4⟩ := hc k (by rw [HM.out]; exact hlt)
      have e1 := HK.out.cell h1 (fun h => h)
      have e2 := HK.out.cell h2 (fun h => h)
      have H3 := hid (h3.keeps HK.out (fun _ _ h => h))
      have p0 : (0 : Int) ≤ (k : Int) := by omega
      have p1 : (k : Int) < (m : Int) := by omega
      have hsz := HK.out.size
      have ht := hid (HT.out k (by rw [HM.out]; exact hlt))
      have hvl := hid (show ((es.take k).map EqV.of).length = k by rw [List.length_map, List.length_take, HM.out]; omega)
      obtain ⟨A2, c2, e2', _⟩ := h4
      obtain ⟨A1, c1, e1', _⟩ := h3
      subst e1' e2'
      clear hc h1 h2 hbR
      have HKA := hid (((Keeps.refl NoB wr).alloc (.cells #[.slice A1 (ge es k).of.length c1, .slice A2 (ge es k).val.length c2] 75)).alloc (.cells #[.slice A1 (ge es k).of.length c1] 62))
      have HROW := hid ((H3.out.keeps HKA.out (fun _ _ h => h)).mono (R' := fun b => (R b ∧ b < w.heap.size) ∧ u7.ownBlock ≠ some b) (fun b _ hb => ⟨hb, fun e => by have := (HO.out.base_le b e).1; omega⟩))
      have HCELL := hid (show ((wr.alloc (.cells #[.slice A1 (ge es k).of.length c1, .slice A2 (ge es k).val.length c2] 75)).alloc (.cells #[.slice A1 (ge es k).of.length c1] 62)).cell? ⟨wr.heap.size + 1, 0, none⟩ = some (.slice A1 (ge es k).of.length c1) by
        have h := cell_one (wr.alloc (.cells #[.slice A1 (ge es k).of.length c1, .slice A2 (ge es k).val.length c2] 75)) (.slice A1 (ge es k).of.length c1) 62
        rw [World.size_alloc] at h; exact h)
      generalize ge es k = ek at *
      go_wp2_with (at_builtin; go_must (refine wpList_app1Row rfl _ _ 82 (fun b => R b ∧ b < w.heap.size) rfl w.heap.size hu _ ((es.take k).map EqV.of) rfl (HO.out.kept HKA.out) (wr.heap.size + 1) _ (.slice A1 ek.of.length c1) ek.of rfl HCELL.out HROW.out (by rw [hvl.out]; omega) (by simp; omega) ?_); intro v3 w3 hown3 hgr3 hat3)
      have HO3 := hid (show OwnNRows (fun b => R b ∧ b < w.heap.size) w3 w.heap.size v3 ((es.take (k + 1)).map EqV.of) by rw [ht.out, List.map_append]; exact hown3)
      have HK3 := hid ((HK.out.fresh HKA.out).grown hgr3 (fun i e hi => by have := (HO.out.base_le i e.symm).1; omega))
      clear hown3 hgr3 hat3
      go_roundw
      case rel => exact ⟨k + 1, by omega, by go_num, HO3, HK3⟩
      case measure => simp [intOf]; omega
    · obtain rfl : k = m := by omega
      have hall' : es.take k = es := by rw [← HM.out, List.take_length]
      rw [hall'] at HO
      clear hall'
      obtain ⟨Ar, cr, hvr, _, _, hrows⟩ := HO.out.reads
      have hml : (es.map EqV.of).length = k := by rw [List.length_map, HM.out]
      have HR2 := hid (reach_calls all (es.map EqV.of) Ar cr wr hrows (by rw [flat_ofs]; exact HOF.out) (fun of hof => by
        obtain ⟨e, he, rfl⟩ := List.mem_map.1 hof
        obtain ⟨j, hj, rfl⟩ := List.getElem_of_mem he
        rw [← ge_eq es j hj]
        exact HO1.out j hj) (by rw [hml]; exact hlen) hall)
      rw [hml] at HR2 hvr
      subst hvr
      clear hrows hml
      go_wp2_with fail
      refine HR2.out.mono ?_
      rintro e w4 ⟨vk, rfl, hok, hkk⟩
      have HKW := hid (HK.out.fresh hkk)
      have hsz := hid (HK.out.size)
      have HKN := hid hok
      obtain ⟨Ak, ck, hvk, _, hki⟩ := hok.reads
      have HKI := hid hki
      have HKR := hid (reachN_rising all (es.map EqV.of))
      have HKL := hid (show (reachN all (es.map EqV.of)).length ≤ 1000000 by
        have h1 := reachN_length all (es.map EqV.of)
        rw [flat_ofs] at h1
        exact Nat.le_trans h1 HOF.out)
      have HKF := hid (show ∀ x ∈ reachN all (es.map EqV.of), 0 ≤ x ∧ x < all from fun x hx => by
        obtain ⟨of, _, hf, hm⟩ := ((mem_reachN _ _ x).1 hx).mem
        exact fitsN_in hf x hm)
      have hmm := @run_makeMap Try.prog
      clear hok hkk hki HR2 HO
      subst hvk
      obtain ⟨known, hkn⟩ : ∃ known, reachN all (es.map EqV.of) = known := ⟨_, rfl⟩
      rw [hkn] at HKN HKI HKR HKL HKF ⊢
      have HKD := hid hkn
      clear hkn
      obtain ⟨kl, hkl⟩ : ∃ kl, known.length = kl := ⟨_, rfl⟩
      rw [hkl] at HKL HKN ⊢
      have HL := hid hkl
      clear hkl
      have hmm := @run_makeMap Try.prog
      go_wp2_with fail
      go_loopw [34] (fun v34 wr => ∃ (q nm : Nat) (tab : List EqV), q ≤ k ∧ v34 = .int .i64 (q : Int) ∧ nm ≤ q ∧ Hid (ATab wr w4.heap.size nm tab) ∧ Hid (Elim all n known (es.take q) tab) ∧ Hid (∀ t ∈ tab, ∀ y ∈ t.of, y ∈ known) ∧ Hid (Keeps NoB w4 wr)) (fun v34 _ => k - (intOf v34).toNat)
      case atStart => exact ⟨0, 0, [], Nat.zero_le _, rfl, Nat.le_refl _, hid (ATab.made w4), hid (Elim.none all n known), hid (by simp), hid ((Keeps.refl NoB w4).alloc _)⟩
      case round =>
        obtain ⟨q, nm, tab, hq, rfl, hnm, HTAB, HEL, HTK, HK⟩ := hrel
        by_cases hlt : q < k
        · obtain ⟨b, off, rfl, hbR, hc⟩ := HE.out.2 (by rw [HM.out]; omega)
          obtain ⟨u1, u2, h1, h2, h3, h4⟩ := hc q (by rw [HM.out]; exact hlt)
          have HKE := hid (HKW.out.fresh HK.out)
          have e1 := HKE.out.cell h1 (fun h => h)
          have e2 := HKE.out.cell h2 (fun h => h)
          have HP := hid (PairIn.any (R := fun b => R b ∧ b < w.heap.size) ⟨h3.keeps HKE.out (fun _ _ h => h), h4.keeps HKE.out (fun _ _ h => h)⟩)
          have p0 : (0 : Int) ≤ (q : Int) := by omega
          have p1 : (q : Int) < (k : Int) := by omega
          have hsz4 := HK.out.size
          have ht := hid (HT.out q (by rw [HM.out]; exact hlt))
          clear hc h1 h2 h3 h4 hbR
          obtain ⟨e0, he0⟩ : ∃ e0, ge es q = e0 := ⟨_, rfl⟩
          rw [he0] at HP ht
          have HE0 := hid he0
          clear he0
          obtain ⟨A1, c1, A2, c2, rfl, rfl, hi1, hb2, hA2⟩ := HP.out.form
          have HI1 := hid hi1
          have HB2 := hid hb2
          have hof1 := HO1.out q (by rw [HM.out]; exact hlt)
          have hvn := hb2.len
          rw [HE0.out] at hof1
          clear hi1 hb2
          have HKB := hid ((Keeps.refl NoB wr).alloc (.cells #[.slice A1 e0.of.length c1, .slice A2 e0.val.length c2] 75))
          have HI1 := hid (HI1.out.kept HKB.out)
          have HF := hid (cfits_calls all e0.of A1 c1 _ HI1.out)
          have HKI2 := hid (HKI.out.kept (HK.out.fresh HKB.out))
          cases hf : fitsN all e0.of with
          | false =>
            rw [hf] at HF
            have HC := hid (show closedE all n known e0 = false by unfold closedE; rw [hf]; rfl)
            clear hf
            go_wp2_with fail
            refine HF.out.mono ?_
            rintro e w5 ⟨rfl, rfl⟩
            go_wp2_with fail
            go_roundw
            case rel => exact ⟨q + 1, nm, tab, by omega, by go_num, by omega, hid (HTAB.out.kept HKB.out), hid (by rw [ht.out]; exact HEL.out.skip HC.out), HTK, hid (HK.out.fresh HKB.out)⟩
            case measure => simp [intOf]; omega
          | true =>
            rw [hf] at HF
            have HF1 := hid hf
            clear hf
            by_cases hv : e0.val.length = n
            · have HV := hid hv
              have d1 : (e0.val.length : Int) = (n : Int) := by omega
              clear hv
              have HCL := hid (fun qd => closed_calls known e0.of Ak A1 ck c1 ((wr.alloc (.cells #[.slice A1 e0.of.length c1, .slice A2 e0.val.length c2] 75)).drewN qd) HKI2.out (HKR.out.imp (fun h => by omega)) (by rw [HL.out]; have := HKL.out; omega) HI1.out)
              rw [HL.out] at HCL
              cases hcl : inAllN known e0.of with
              | false =>
                have HC := hid (show closedE all n known e0 = false by unfold closedE; rw [show (e0.of.all fun i => decide (i ∈ known)) = false from hcl]; simp)
                rw [hcl] at HCL
                clear hcl
                go_wp2_with fail
                refine HF.out.mono ?_
                rintro e w5 ⟨rfl, rfl⟩
                go_wp2_with fail
                refine (HCL.out 0).mono ?_
                rintro e w5 ⟨rfl, q5, rfl⟩
                clear d1
                go_wp2_with fail
                go_roundw
                case rel => exact ⟨q + 1, nm, tab, by omega, by go_num, by omega, hid (HTAB.out.kept (HKB.out.drewN q5)), hid (by rw [ht.out]; exact HEL.out.skip HC.out), HTK, hid ((HK.out.fresh HKB.out).drewN q5)⟩
                case measure => simp [intOf]; omega
              | true =>
                have HC := hid (show closedE all n known e0 = true by unfold closedE; rw [HF1.out, show (e0.of.all fun i => decide (i ∈ known)) = true from hcl, decide_eq_true HV.out]; rfl)
                have HIN := hid (show ∀ y ∈ e0.of, y ∈ known from fun y hy => by simpa using List.all_eq_true.1 hcl y hy)
                rw [hcl] at HCL
                clear hcl
                go_wp2_with fail
                refine HF.out.mono ?_
                rintro e w5 ⟨rfl, rfl⟩
                go_wp2_with fail
                refine (HCL.out 0).mono ?_
                rintro e w5 ⟨rfl, q5, rfl⟩
                clear d1
                go_wp2_with fail
                have HBX := hid (show ((wr.alloc (.cells #[.slice A1 e0.of.length c1, .slice A2 e0.val.length c2] 75)).drewN q5).heap[wr.heap.size]? = some (.cells #[.slice A1 e0.of.length c1, .slice A2 e0.val.length c2] 75 (0, 0)) from heap_alloc_new wr _)
                have HPX := hid (show PairIn Any ((wr.alloc (.cells #[.slice A1 e0.of.length c1, .slice A2 e0.val.length c2] 75)).drewN q5) (.slice A1 e0.of.length c1) (.slice A2 e0.val.length c2) e0 from HP.out.kept (HKB.out.drewN q5))
                have HTX := hid (HTAB.out.kept (HKB.out.drewN q5))
                have HKX := hid ((Keeps.refl NoB wr).fresh (HKB.out.drewN q5))
                have hk4 : q + 1 ≤ 1000001 := by omega
                obtain ⟨wo, rfl⟩ : ∃ wo : World, wo = wr := ⟨_, rfl⟩
                go_loopg [14] (stepsLeft all e0) (fun gn _ wr => ∃ (e : EqV) (v1 v2 : Value), Hid (wr.heap[wo.heap.size]? = some (.cells #[v1, v2] 75 (0, 0))) ∧ Hid (PairIn Any wr v1 v2 e) ∧ Hid (Under n tab e0 e) ∧ Hid (ATab wr w4.heap.size nm tab) ∧ Hid (∀ y ∈ e.of, y ∈ known) ∧ Hid (Keeps NoB wo wr) ∧ Hid (stepsLeft all e ≤ gn))
                case atStart => exact ⟨e0, _, _, HBX, HPX, hid (Under.start HC.out), HTX, HIN, HKX, hid (Nat.le_refl _)⟩
                case round =>
                  clear HBX HPX HTX HKX
                  obtain ⟨e, v1, v2, HBX, HPX, HU, HTX, HIE, HKX, HST⟩ := hrel
                  obtain ⟨B1, d1, B2, d2, rfl, rfl, hi1, hb2, hB2⟩ := HPX.out.form
                  have HI := hid hi1
                  have HB := hid hb2
                  have hc0 := (cells2 HBX.out).1
                  have hc1 := (cells2 HBX.out).2
                  have hwl := lt_of_heap HBX.out
                  clear hi1 hb2
                  obtain ⟨eo, ev⟩ := e
                  dsimp only at *
                  cases eo with
                  | nil =>
                    have HZ := hid (zero_calls ev B2 d2 _ wr HB.out)
                    cases hz : zeroB ev with
                    | true =>
                      rw [hz] at HZ
                      have HZT := hid hz
                      clear hz
                      go_wp2_with fail
                      refine HZ.out.mono ?_
                      rintro e w6 ⟨rfl, rfl⟩
                      go_wp2_with fail
                      go_roundw
                      case rel => exact ⟨q + 1, nm, tab, by omega, by go_num, by omega, HTX, hid (by rw [ht.out]; exact HU.out.zero HEL.out rfl HZT.out), HTK, hid (HK.out.fresh HKX.out)⟩
                      case measure => simp [intOf]; omega
                    | false =>
                      rw [hz] at HZ
                      have HZT := hid hz
                      clear hz
                      go_wp2_with fail
                      refine HZ.out.mono ?_
                      rintro e w6 ⟨rfl, rfl⟩
                      go_wp2_with fail
                      go_ret
                      have hno : ¬ Agree all n es := not_agree (tab := tab) (es := es.take q) (e0 := e0) (e := ⟨[], ev⟩) (by rw [HKD.out]; exact HEL.out) HU.out (by rw [HKD.out]; exact HC.out) rfl HZT.out (fun y hy => List.mem_of_mem_take hy) (by rw [← HE0.out]; exact ge_mem es q (by rw [HM.out]; exact hlt))
                      rw [agreesN_no hno]
                      exact ⟨rfl, HKW.out.fresh (HK.out.fresh HKX.out)⟩
                  | cons x a =>
                    have hxk := HIE.out x (List.mem_cons_self ..)
                    have hxr := HKF.out x hxk
                    have hwf := hid (show (Lit.int .i64 x).wf = true from WalkArith.wf_i64 ⟨by omega, by omega⟩)
                    clear hxk hxr
                    obtain ⟨b9, o9, rfl, hc9⟩ := HI.out.get (by simp)
                    have hcx := hc9 0 (by simp)
                    rw [Nat.add_zero, gi_head] at hcx
                    clear hc9
                    obtain ⟨g, hmap, hdom, hrng⟩ := HTX.out
                    have HMAP := hid hmap
                    have HDOM := hid hdom
                    have HRNG := hid hrng
                    clear hmap hdom hrng
                    have hal : 0 < (x :: a).length := by simp
                    obtain ⟨la, hla⟩ : ∃ la, (x :: a).length = la := ⟨_, rfl⟩
                    rw [hla] at hal HBX HPX hc0
                    have HLA := hid hla
                    clear hla
                    by_cases hx : ∃ t ∈ tab, gi t.of 0 = x
                    · obtain ⟨t, htt, hgt⟩ := hx
                      obtain ⟨t1, t2, hg12, ht12⟩ := HRNG.out t htt
                      rw [hgt] at hg12
                      have hyes := hid (show (g x).isSome = true by rw [hg12]; rfl)
                      have HP2 := hid ht12
                      obtain ⟨T1, f1, T2, f2, rfl, rfl, _, _, _⟩ := ht12.form
                      have hgn := hid (show (g x).getD (.agg #[.slice none 0 0, .slice none 0 0]) = .agg #[.slice T1 t.of.length f1, .slice T2 t.val.length f2] by rw [hg12]; rfl)
                      have htr := HEL.out.steps.rise t htt
                      have HTT := hid htt
                      have HGT := hid hgt
                      have htl := hid (HEL.out.steps.len t htt)
                      have hb9 := World.block_lt_of_cell? wr _ hcx
                      dsimp only at hb9
                      have HKA := hid ((Keeps.refl NoB wr).alloc (.cells #[.slice T1 t.of.length f1, .slice T2 t.val.length f2] 75))
                      have HKB2 := hid (HKA.out.alloc (.cells #[.slice (some ⟨b9, o9, none⟩) la d1, .slice B2 ev.length d2, .slice T1 t.of.length f1, .slice T2 t.val.length f2] 75))
                      have HADD := hid (eadd_yes n [⟨x :: a, ev⟩, t] (some ⟨wr.heap.size + 1, 0, none⟩) 2 Any ((wr.alloc (.cells #[.slice T1 t.of.length f1, .slice T2 t.val.length f2] 75)).alloc (.cells #[.slice (some ⟨b9, o9, none⟩) la d1, .slice B2 ev.length d2, .slice T1 t.of.length f1, .slice T2 t.val.length f2] 75)) (by omega)
                        (by have h := eqs_pair (T := 75) (HPX.out.kept HKA.out) (HP2.out.kept HKA.out); rw [World.size_alloc] at h; exact h) (by simp) (by
                          have h1 := nodup_le (nodup_of_rising HU.out.rise) HIE.out
                          have h2 := nodup_le (nodup_of_rising htr) (HTK.out t htt)
                          have h3 := HKL.out
                          have h4 := HL.out
                          simp only [ofsE, List.flatMap_cons, List.flatMap_nil, List.append_nil, List.length_append]
                          dsimp only at h1
                          omega) (by
                          have h1 := HU.out.len
                          have h2 := htl.out
                          dsimp only at h1
                          simp [fitB, valsE, h1, h2]))
                      clear hg12 ht12 htr htt hgt
                      go_wp2_with (at_lookup; go_must (refine wpList_look_ok_at _ rfl _ _ _ rfl 75 Try.underlying130 _ (zero_eqn _) w4.heap.size nm g rfl HMAP.out x rfl hwf.out _ hgn.out _ hyes.out ?_))
                      refine HADD.out.mono ?_
                      rintro e w8 ⟨r1, r2, rfl, hr1, hr2, hk8⟩
                      have HO1 := hid hr1
                      have HO2 := hid hr2
                      have HK8 := hid (HKB2.out.fresh hk8)
                      have HBX8 := hid (HK8.out.heap HBX.out (fun h => h))
                      obtain ⟨C1, g1, rfl, _, _⟩ := OwnInts.reads HO1.out
                      obtain ⟨C2, g2, rfl, _, _⟩ := OwnB.reads HO2.out
                      have c80 := (cells2 HBX8.out).1
                      have c81 := (cells2 HBX8.out).2
                      have f80 := free2 HBX8.out 0
                      have f81 := free2 HBX8.out 1
                      clear hr1 hr2 hk8
                      have HPN := hid (PairIn.setBox (PairIn.any (e := addE n ⟨x :: a, ev⟩ t) ⟨OwnInts.nums HO1.out |>.mono (R' := Any) (fun _ _ _ => trivial), OwnB.row HO2.out |>.mono (R' := Any) (fun _ _ _ => trivial)⟩) HBX8.out (.slice C1 (oddN (ofsE [⟨x :: a, ev⟩, t])).length g1) (.slice C2 (sumB n (valsE [⟨x :: a, ev⟩, t])).length g2))
                      have HBN := hid (put_two HBX8.out (.slice C1 (oddN (ofsE [⟨x :: a, ev⟩, t])).length g1) (.slice C2 (sumB n (valsE [⟨x :: a, ev⟩, t])).length g2))
                      have HTN := hid ((HTX.out.kept HK8.out).setBox HBX8.out (.slice C1 (oddN (ofsE [⟨x :: a, ev⟩, t])).length g1) (.slice C2 (sumB n (valsE [⟨x :: a, ev⟩, t])).length g2))
                      have HKN8 := hid (((HKX.out.fresh HK8.out).setCell (p := ⟨wo.heap.size, 0, none⟩) (fun h => absurd h (Nat.lt_irrefl _)) (.slice C1 (oddN (ofsE [⟨x :: a, ev⟩, t])).length g1)).setCell (p := ⟨wo.heap.size, 1, none⟩) (fun h => absurd h (Nat.lt_irrefl _)) (.slice C2 (sumB n (valsE [⟨x :: a, ev⟩, t])).length g2))
                      have HUN := hid (HU.out.step HEL.out.steps HTT.out)
                      have HIN2 := hid (show ∀ y ∈ (addE n ⟨x :: a, ev⟩ t).of, y ∈ known from fun y hy => by
                        rw [addE_of] at hy
                        rcases List.mem_append.1 (oddN_sub hy) with h | h
                        · exact HIE.out y h
                        · exact HTK.out t HTT.out y h)
                      have HSN := hid (stepsLeft_add (all := all) (n := n) HU.out.rise (HEL.out.steps.rise t HTT.out) (by simp) (HEL.out.steps.some t HTT.out) HGT.out (fun y hy => (HKF.out y (HIE.out y hy)).2) (fun y hy => (HKF.out y (HTK.out t HTT.out y hy)).2))
                      go_wp2_with fail
                      go_roundg (stepsLeft all (addE n ⟨x :: a, ev⟩ t))
                      case measure => have h1 := HSN.out; have h2 := HST.out; omega
                      case rel => exact ⟨addE n ⟨x :: a, ev⟩ t, _, _, HBN, HPN, HUN, HTN, HIN2, HKN8, hid (Nat.le_refl _)⟩
                    · have hno := hid (show (g x).isSome = false by
                        cases hg : (g x).isSome with
                        | false => rfl
                        | true => exact absurd ((HDOM.out x).1 hg) hx)
                      have hgn := hid (show (g x).getD (.agg #[.slice none 0 0, .slice none 0 0]) = .agg #[.slice none 0 0, .slice none 0 0] by
                        have h := hno.out
                        cases hg : g x with
                        | none => rfl
                        | some u => rw [hg] at h; cases h)
                      have HNX := hid hx
                      clear hx
                      go_wp2_with (at_lookup; go_must (refine wpList_look_ok_at _ rfl _ _ _ rfl 75 Try.underlying130 _ (zero_eqn _) w4.heap.size nm g rfl HMAP.out x rfl hwf.out _ hgn.out _ hno.out ?_))
                      have hb9 := World.block_lt_of_cell? wr _ hcx
                      dsimp only at hb9
                      have HKA := hid ((Keeps.refl NoB wr).alloc (.cells #[.slice none 0 0, .slice none 0 0] 75))
                      have HMA := hid (HMAP.out.keeps HKA.out (fun h => h))
                      have hnm2 : nm < maxLen := by unfold maxLen; omega
                      obtain ⟨w7, hrun7, hm7, hg7, hs7⟩ := MapAt.store (w := (wr.alloc (.cells #[.slice none 0 0, .slice none 0 0] 75)).drew) (t := 130) (e := 75) (by exact HMA.out) Try.underlying130 hnm2 hwf.out (.agg #[.slice (some ⟨b9, o9, none⟩) la d1, .slice B2 ev.length d2])
                      have HM7 := hid hm7
                      have HG7 := hid hg7
                      clear hm7 hg7 hs7
                      have hne13 := HMAP.out.ne_cells HBX.out
                      have HBX7 := hid ((Keeps.ofGrown HG7.out).heap (HKA.out.drew.heap HBX.out (fun h => h)) (fun e => by injection e with e; exact hne13 e))
                      have hc7 := (cells2 HBX7.out).1
                      have hc71 := (cells2 HBX7.out).2
                      have HT7 := hid (ATab.put (tab := tab) (e := ⟨x :: a, ev⟩) (HMAP.out.keeps HKA.out.drew (fun h => h)) HDOM.out (fun t ht => by
                        obtain ⟨t1, t2, h5, h6⟩ := HRNG.out t ht
                        exact ⟨t1, t2, h5, h6.kept HKA.out.drew⟩) (HPX.out.kept HKA.out.drew) (fun t ht e => HNX.out ⟨t, ht, e⟩) HM7.out HG7.out)
                      have HK7 := hid (((HK.out.fresh HKX.out).fresh HKA.out.drew).grown HG7.out (fun i e hi => by injection e with e; omega))
                      clear hne13
                      go_region
                      go_wp2_with fail
                      go_roundw
                      case rel => exact ⟨q + 1, nm + 1, tab ++ [⟨x :: a, ev⟩], by omega, by go_num, by omega, HT7, hid (by rw [ht.out]; exact HU.out.store HEL.out HC.out (by simp) (fun t ht e => HNX.out ⟨t, ht, e⟩)), hid (fun t ht y hy => by
                        rcases List.mem_append.1 ht with ht | ht
                        · exact HTK.out t ht y hy
                        · rw [List.mem_singleton.1 ht] at hy; exact HIE.out y hy), HK7⟩
                      case measure => simp [intOf]; omega
            · have HC := hid (show closedE all n known e0 = false by unfold closedE; rw [decide_eq_false hv]; simp)
              have d1 : ¬ ((e0.val.length : Int) = (n : Int)) := by omega
              clear hv
              go_wp2_with fail
              refine HF.out.mono ?_
              rintro e w5 ⟨rfl, rfl⟩
              go_wp2_with fail
              go_roundw
              case rel => exact ⟨q + 1, nm, tab, by omega, by go_num, by omega, hid (HTAB.out.kept HKB.out), hid (by rw [ht.out]; exact HEL.out.skip HC.out), HTK, hid (HK.out.fresh HKB.out)⟩
              case measure => simp [intOf]; omega
        · obtain rfl : q = k := by omega
          go_wp2_with fail
          go_ret
          have hel : Elim all n known es tab := by
            have := HEL.out
            rwa [show es.take q = es by rw [← HM.out, List.take_length]] at this
          rw [← HKD.out] at hel
          rw [agreesN_yes hel.agree]
          exact ⟨rfl, HKW.out.fresh HK.out⟩
end Go.Proofs.Ytpkkaicpbihjfaa
