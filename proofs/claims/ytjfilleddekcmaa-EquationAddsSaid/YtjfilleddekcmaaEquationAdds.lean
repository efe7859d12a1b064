/- Any equations, put upon each other, are the document's, or can't be: the law's walk. Conditions: lengths that memory bears. -/
import Derived.Test.YtjfilleddekcmaaSpeaks15
import Derived.Test.YtjfilleddekcmaaLaw15Big
import Derived.Test.YtjfilleddekcmaaSame
import Derived.Test.YtjfilleddekcmaaAddSt
import Derived.Test.YtjfilleddekcmaaRef15
set_option linter.unusedVariables false
namespace Go.Proofs.Ytjfilleddekcmaa
open Go.RowKit
attribute [local go_sem ↓] Go.wp_at_zero Go.wp_at_succ

set_option maxHeartbeats 4000000 in
set_option maxRecDepth 20000 in
theorem equationAdds_calls (n : Int) (es : List EqV) (A : Option Addr) (c : Nat) (w : World) (hn0 : -9223372036854775808 ≤ n) (hn1 : n ≤ 9223372036854775807) (he : EqsIn (fun _ => True) w A es) (hmx : ∀ e ∈ es, e.of.length ≤ 140737488355328 ∧ e.val.length ≤ 140737488355328) :
    Calls Try.prog 3 #[.int .i64 n, .slice A es.length c] w fun e w' => e = .returned (.bool true) ∧ Keeps NoB w w' := by
  have HMX := hid hmx
  have HE0 := hid he
  have HBIG := hid (fun (w' : World) (h : Keeps NoB w w') => big_calls es A c _ w' (he.keeps h (fun _ _ h => h)) hmx)
  clear he hmx
  obtain ⟨m, hm⟩ : ∃ m, es.length = m := ⟨_, rfl⟩
  rw [hm] at HBIG ⊢
  have hmm := hid hm
  clear hm
  go_enter Try.func3, Try.ntmps3
  go_wp2_with fail
  refine (speaks15_calls w).mono ?_
  rintro e w1 ⟨rfl, hk1⟩
  have HK1 := hid hk1
  clear hk1
  go_wp2_with fail
  refine (HBIG.out w1 HK1.out).mono ?_
  rintro e w2 ⟨b, rfl, hsm, hk2⟩
  have HK2 := hid (HK1.out.fresh hk2)
  clear hk2 HBIG
  cases b with
  | true =>
    go_wp2_with fail
    go_ret
    exact ⟨rfl, HK2.out⟩
  | false =>
    have HSM := hid (hsm rfl)
    have hm9 : m ≤ 300 := by have := HSM.out.len; rw [hmm.out] at this; exact this
    clear hsm
    by_cases hn60 : 60 < n
    · have d1 : decide ((60 : Int) < n) = true := decide_eq_true (by omega)
      go_wp2_with fail
      go_ret
      exact ⟨rfl, HK2.out⟩
    · have d1 : decide ((60 : Int) < n) = false := decide_eq_false (by omega)
      have HE := hid (HE0.out.lt.keeps HK2.out (fun _ _ h => h))
      have HR0 := hid (show ∀ b, (True ∧ b < w.heap.size) → b < w2.heap.size from fun b hb => Nat.lt_of_lt_of_le hb.2 HK2.out.size)
      have HT := hid (take_ge es)
      have HLE := hid (fun k => Nat.le_trans (ofsE_take_le es k) HSM.out.of)
      have hu := Try.underlying25
      have hub := Try.underlying26
      go_wp2_with fail
      go_loopw [5, 6, 22] (fun v5 v6 v22 wr => ∃ k : Nat, k ≤ m ∧ v22 = .int .i64 (k : Int) ∧ Hid (OwnInts wr w2.heap.size .i64 3 v5 (ofsE (es.take k))) ∧ Hid (OwnRows (fun b => True ∧ b < w.heap.size) wr w2.heap.size v6 (valsE (es.take k))) ∧ Hid (Keeps NoB w2 wr)) (fun _ _ v22 _ => m - (intOf v22).toNat)
      case atStart => exact ⟨0, Nat.zero_le _, rfl, OwnInts.nil _ _ _ _, OwnRows.nil _ _ _, Keeps.refl _ _⟩
      case round =>
        obtain ⟨k, hk, rfl, HO, HR, HK⟩ := hrel
        by_cases hlt : k < m
        · obtain ⟨b, off, rfl, hbR, hc⟩ := HE.out.2 (by rw [hmm.out]; omega)
          obtain ⟨u1, u2, h1, h2, h3, h4⟩ := hc k (by rw [hmm.out]; exact hlt)
          have e1 := HK.out.cell h1 (fun h => h)
          have e2 := HK.out.cell h2 (fun h => h)
          obtain ⟨A1, c1, rfl, hlc1, hA1, hat1⟩ := h3
          obtain ⟨A2, c2, rfl, hlc2, hA2, hat2⟩ := h4
          have HT1 := hid (hat1.1)
          have HA1 := hid hA1
          have HROW := hid (show RowIn _ w2 _ _ from ⟨A2, c2, rfl, hlc2, hA2, hat2⟩)
          have p0 : (0 : Int) ≤ (k : Int) := by omega
          have p1 : (k : Int) < (m : Int) := by omega
          have hvl := hid (show (valsE (es.take k)).length = k by rw [valsE, List.length_map, List.length_take, hmm.out]; omega)
          obtain ⟨us0, Av, cv, rfl, _⟩ := HR.out.parts hvl.out
          have ht := hid (HT.out k (by rw [hmm.out]; exact hlt))
          have hle := hid (by have h9 := HLE.out (k + 1); rw [ht.out, ofsE_snoc, List.length_append] at h9; exact h9 : (ofsE (es.take k)).length + (ge es k).of.length ≤ 300)
          have HST := hid (show AddSt (fun b => True ∧ b < w.heap.size) w2 w2.heap.size wr.heap.size #[.slice A1 (ge es k).of.length c1, .slice A2 (ge es k).val.length c2] 29 u5 (ofsE (es.take k)) (.slice Av k cv) (valsE (es.take k)) (wr.alloc (.cells #[.slice A1 (ge es k).of.length c1, .slice A2 (ge es k).val.length c2] 29)) from
            have hkw := (Keeps.refl NoB wr).alloc (.cells #[.slice A1 (ge es k).of.length c1, .slice A2 (ge es k).val.length c2] 29)
            ⟨HO.out.kept hkw, HR.out.kept hkw, HK.out.fresh hkw, heap_alloc_new wr _, Nat.le_refl _, Nat.le_trans HK.out.size hkw.size, HR0.out, by decide, by decide⟩)
          clear hc h1 h2 hlc1 hA1 hat1 hlc2 hA2 hat2 hbR
          generalize hge : ge es k = ek at *
          obtain ⟨eof, evl⟩ := ek
          dsimp only at *
          have b0 := (cells2 HST.out.b).1
          have b1 := (cells2 HST.out.b).2
          go_wp2_with fail
          generalize hWW : wr.alloc (.cells #[.slice A1 eof.length c1, .slice A2 evl.length c2] 29) = W2 at *
          have tka : True := trivial
          have tkb : True := trivial
          have ST := HST
          have ho4 := hid (show ofsE (es.take (k + 1)) = ofsE (es.take k) ++ eof by rw [ht.out, ofsE_snoc])
          have hv4 := hid (show valsE (es.take (k + 1)) = valsE (es.take k) ++ [evl] by rw [ht.out, valsE_snoc])
          go_region_held3 (fun w' => w'.cell? ⟨wr.heap.size, 0, none⟩ = some (.slice A1 eof.length c1) ∧ w'.cell? ⟨wr.heap.size, 1, none⟩ = some (.slice A2 evl.length c2)) (first | (exact cells2 ST.out.b) | (exact cells2 (ST.out.keep (Keeps.refl NoB _).drew).b) | (exact cells2 (ST.out.keep ((Keeps.refl NoB _).alloc _)).b) | (exact cells2 (ST.out.keep ((Keeps.refl NoB _).alloc _).drew).b) | (exact cells2 (ST.out.keep ((Keeps.refl NoB _).drew.alloc _)).b) | go_keep) (first
            | (clear tka; refine step_appInts2 rfl _ _ 25 rfl w2.heap.size 3 .i64 8 hu info_int u5 (ofsE (es.take k)) rfl (AddSt.o (ST.out.keep (by first | exact Keeps.refl NoB _ | exact (Keeps.refl NoB _).drew | exact ((Keeps.refl NoB _).drew.alloc _) | exact ((Keeps.refl NoB _).alloc _).drew))) A1 c1 eof rfl HA1.out (HT1.out.kept (AddSt.k (ST.out.keep (by first | exact Keeps.refl NoB _ | exact (Keeps.refl NoB _).drew | exact ((Keeps.refl NoB _).drew.alloc _) | exact ((Keeps.refl NoB _).alloc _).drew)))) (by have := hle.out; omega) (by have := hle.out; omega) (AddSt.hi (ST.out.keep (by first | exact Keeps.refl NoB _ | exact (Keeps.refl NoB _).drew | exact ((Keeps.refl NoB _).drew.alloc _) | exact ((Keeps.refl NoB _).alloc _).drew))) ?_; intro A5 c5 w5 hown5 hgr5; (first | (have HX5 := hid ((Keeps.ofGrown hgr5).cell (cell_one _ _ _) (fun e => by have := (ST.out.o.base_le _ e.symm).2; simp at this))) | skip); have ST := hid ((ST.out.keep (by first | exact Keeps.refl NoB _ | exact (Keeps.refl NoB _).drew | exact ((Keeps.refl NoB _).drew.alloc _) | exact ((Keeps.refl NoB _).alloc _).drew)).ints hown5 hgr5); clear hown5 hgr5)
            | (clear tkb; obtain ⟨us, Av', cv', hv', hus1, hus2, hus3⟩ := ST.out.r.parts hvl.out; injection hv' with hv1 _ hv2; subst hv1 hv2; have HUS2 := hid hus2; have HUS3 := hid hus3; clear hus2 hus3; refine step_app1V2 rfl _ _ 26 rfl w2.heap.size 27 (.slice none 0 0) 24 hub info_bytes rfl (.slice Av k cv) k us rfl (by first | exact HUS2.out | exact World.ownsRow.alloc HUS2.out _) _ _ (.slice A2 evl.length c2) rfl rfl (by first | exact cell_one _ _ _ | exact HX5.out) (by omega) (by omega) (AddSt.hi (ST.out.keep (by first | exact Keeps.refl NoB _ | exact (Keeps.refl NoB _).drew | exact ((Keeps.refl NoB _).drew.alloc _) | exact ((Keeps.refl NoB _).alloc _).drew | exact ((Keeps.refl NoB _).alloc _)))) ?_; intro g4 cap4 w4 hown4 hgr4 hat4; have ST := hid ((ST.out.keep (by first | exact Keeps.refl NoB _ | exact (Keeps.refl NoB _).drew | exact ((Keeps.refl NoB _).drew.alloc _) | exact ((Keeps.refl NoB _).alloc _).drew | exact ((Keeps.refl NoB _).alloc _))).rows hvl.out HROW.out hus1 (by first | exact HUS2.out | exact World.ownsRow.alloc HUS2.out _) (fun j u hj => (HUS3.out j u hj).keeps (by first | exact Keeps.refl NoB _ | exact (Keeps.refl NoB _).drew | exact ((Keeps.refl NoB _).drew.alloc _) | exact ((Keeps.refl NoB _).alloc _).drew | exact ((Keeps.refl NoB _).alloc _)) (fun _ _ h => h)) hown4 hgr4 hat4); clear hown4 hgr4 hat4))
          all_goals go_wp2_with fail
          all_goals go_roundw
          case rel => exact ⟨k + 1, by omega, by go_num, hid (by rw [ho4.out]; have h9 := ST.out.o; rw [List.length_append] at h9; exact h9), hid (by rw [hv4.out]; exact ST.out.r), hid ST.out.k⟩
          case measure => simp [intOf]; omega
          case rel => exact ⟨k + 1, by omega, by go_num, hid (by rw [ho4.out]; have h9 := ST.out.o; rw [List.length_append] at h9; exact h9), hid (by rw [hv4.out]; exact ST.out.r), hid ST.out.k⟩
          case measure => simp [intOf]; omega
        · obtain rfl : k = m := by omega
          have hall : es.take k = es := by rw [← hmm.out, List.take_length]
          rw [hall] at HO HR
          have hvl := hid (show (valsE es).length = k by rw [valsE, List.length_map, hmm.out])
          obtain ⟨Av, cv, rfl, _, _, hrows⟩ := HR.out.reads
          obtain ⟨Ao, co, rfl, _, hato⟩ := HO.out.reads
          have HROWS := hid hrows
          have HATO := hid hato
          have HEr := hid (HE.out.keeps HK.out (fun _ _ h => h))
          have HL2 := HSM.out.of
          rw [hvl.out]
          clear hall hrows hato
          by_cases hfit : fitN n (valsE es) = true
          · obtain ⟨N, rfl⟩ : ∃ N : Nat, n = (N : Int) := ⟨n.toNat, by unfold fitN at hfit; simp at hfit; omega⟩
            have HF := hid hfit
            have HFB := hid (show fitB N (valsE es) = true by unfold fitN at hfit; simp at hfit; exact hfit)
            have HADD := hid (eadd_yes N es A c _ wr (by omega) HEr.out (by rw [hmm.out]; omega) (by omega) HFB.out)
            have HFITS := hid (fun (w' : World) (h : Keeps NoB wr w') => rfits_calls (N : Int) (valsE es) Av cv _ w' (HROWS.out.kept h))
            have HRSUM := hid (fun (w' : World) (h : Keeps NoB wr w') => rsum_calls N (valsE es) Av cv _ w' (by omega) (HROWS.out.kept h) HFB.out)
            rw [hmm.out] at HADD
            rw [hvl.out] at HFITS HRSUM
            rw [HF.out] at HFITS
            go_wp2_with fail
            refine HADD.out.mono ?_
            rintro e w5 ⟨v1, v2, rfl, ho1, ho2, hk5⟩
            obtain ⟨A1, c1, rfl, _, hat1⟩ := ho1.reads
            obtain ⟨A2, c2, rfl, _, hA2, hat2⟩ := OwnB.reads ho2
            rw [sumB_length HFB.out] at hat2 ⊢
            have HAT1 := hid hat1
            have HAT2 := hid hat2
            have HK5 := hid hk5
            clear ho1 ho2 hat1 hat2 hk5 hA2
            go_wp2_with fail
            have HB6 := hid (heap_alloc_new w5 (.cells #[.slice A1 (oddN (ofsE es)).length c1, .slice A2 N c2] 29))
            have HK56 := hid ((Keeps.refl NoB w5).alloc (.cells #[.slice A1 (oddN (ofsE es)).length c1, .slice A2 N c2] 29))
            have HK6 := hid (HK5.out.fresh HK56.out)
            generalize w5.alloc (.cells #[.slice A1 (oddN (ofsE es)).length c1, .slice A2 N c2] 29) = w6 at *
            refine (HFITS.out w6 HK6.out).mono ?_
            rintro e w6' ⟨rfl, rfl⟩
            go_wp2_with fail
            refine (rodd_calls (ofsE es) Ao co w6' (HATO.out.kept HK6.out) (by omega)).mono ?_
            rintro e w7 ⟨v7, rfl, hown7, hk7⟩
            obtain ⟨A7, c7, rfl, _, hat7⟩ := hown7.reads
            have HAT7 := hid hat7
            have HAT1 := hid (HAT1.out.kept (HK56.out.fresh hk7))
            have HAT2 := hid (HAT2.out.kept (HK56.out.fresh hk7))
            have HB7 := hid (hk7.heap HB6.out (fun h => h))
            have HK7 := hid (HK6.out.fresh hk7)
            have hcv := hid (fun (w' : World) (h : Keeps NoB w7 w') => (show _ ∧ _ ∧ _ ∧ _ from ⟨(cells2 (h.heap HB7.out (fun h => h))).1, (cells2 (h.heap HB7.out (fun h => h))).2, conv_run 27 9 Try.underlying27 Try.underlying9 (HAT2.out.kept h) c2, conv_run 27 9 Try.underlying27 Try.underlying9 (HAT2.out.kept h.drew) c2⟩))
            have HODD := hid (fun (w' : World) (h : Keeps NoB w7 w') => odd_calls (ofsE es) Ao co w' (HATO.out.kept (HK7.out.fresh h)) (by omega))
            have HRSUM := hid (fun (w' : World) (h : Keeps NoB w7 w') => HRSUM.out w' (HK7.out.fresh h))
            have hsm := hid (show sameN (oddN (ofsE es)) (oddN (ofsE es)) = 1 from if_pos rfl)
            have hsl := hid (sumB_length HFB.out)
            generalize oddN (ofsE es) = od at *
            generalize sumB N (valsE es) = sv at *
            rw [hsl.out] at hcv
            clear hown7 hat7 hk7 HFITS HADD
            go_wp2_with fail
            have tka : True := trivial
            have tkb : True := trivial
            have HKr := hid (Keeps.refl NoB w7)
            obtain ⟨e0, e1, f0, f1⟩ := hcv.out w7 (Keeps.refl NoB w7)
            go_region_with (first
              | (go_at_call 20; clear tka; refine (same_calls od od A1 A7 c1 c7 _ (by first | exact HAT1.out | exact HAT1.out.kept (Keeps.refl NoB w7).drew) (by first | exact HAT7.out | exact HAT7.out.kept (Keeps.refl NoB w7).drew)).mono ?_; rintro e w8 ⟨rfl, HK8⟩; rw [hsm.out]; have HKr := hid (show Keeps NoB w7 w8 by first | exact HKr.out.fresh HK8 | exact HKr.out.drew.fresh HK8); obtain ⟨e0, e1, f0, f1⟩ := hcv.out w8 HKr.out)
              | (go_at_call 21; refine (HODD.out _ (by first | exact HKr.out | exact HKr.out.drew)).mono ?_; rintro e w9 ⟨v9, rfl, hown9, HK9⟩; obtain ⟨A9, c9, rfl, _, hat9⟩ := hown9.reads; have HKr := hid (show Keeps NoB w7 w9 by first | exact HKr.out.fresh HK9 | exact HKr.out.drew.fresh HK9); obtain ⟨e0, e1, f0, f1⟩ := hcv.out w9 HKr.out)
              | (go_at_call 20; clear tkb; refine (same_calls od od A9 A7 c9 c7 _ (by first | exact hat9 | exact hat9.kept (Keeps.refl NoB w9).drew) (by first | exact HAT7.out.kept HKr.out | exact HAT7.out.kept HKr.out.drew)).mono ?_; rintro e w10 ⟨rfl, HK10⟩; rw [hsm.out]; have HKr := hid (show Keeps NoB w7 w10 by first | exact HKr.out.fresh HK10 | exact HKr.out.drew.fresh HK10); obtain ⟨e0, e1, f0, f1⟩ := hcv.out w10 HKr.out)
              | (go_at_call 22; refine (HRSUM.out _ (by first | exact HKr.out | exact HKr.out.drew)).mono ?_; rintro e w11 ⟨v11, rfl, hown11, HK11⟩; obtain ⟨A11, c11, hv11, _, _, hb11⟩ := OwnB.reads hown11; rw [hsl.out] at hv11; subst hv11; have HKr := hid (show Keeps NoB w7 w11 by first | exact HKr.out.fresh HK11 | exact HKr.out.drew.fresh HK11); obtain ⟨e0, e1, f0, f1⟩ := hcv.out w11 HKr.out; have f2 := conv_run 27 9 Try.underlying27 Try.underlying9 hb11 c11; have f3 := conv_run 27 9 Try.underlying27 Try.underlying9 (hb11.kept (Keeps.refl NoB w11).drew) c11; rw [hsl.out] at f2 f3))
            all_goals go_wp2_with fail
            all_goals go_ret
            all_goals exact ⟨rfl, ((HK2.out.fresh HK.out).fresh HK7.out).fresh HKr.out⟩
          · have HF := hid (show fitN n (valsE es) = false by simpa using hfit)
            have HADD := hid (eadd_no n es A c _ wr hn0 (by omega) HEr.out (by rw [hmm.out]; omega) (by omega) HF.out)
            have HFITS := hid (fun (w' : World) (h : Keeps NoB wr w') => rfits_calls n (valsE es) Av cv _ w' (HROWS.out.kept h))
            rw [hmm.out] at HADD
            rw [hvl.out] at HFITS
            rw [HF.out] at HFITS
            clear hfit
            go_wp2_with fail
            refine HADD.out.mono ?_
            rintro e w5 ⟨rfl, hk5⟩
            have HK5 := hid hk5
            clear hk5
            go_wp2_with fail
            refine (HFITS.out _ (HK5.out.alloc _)).mono ?_
            rintro e w6 ⟨rfl, rfl⟩
            go_wp2_with fail
            go_ret
            exact ⟨rfl, ((HK2.out.fresh HK.out).fresh HK5.out).alloc _⟩
end Go.Proofs.Ytjfilleddekcmaa
