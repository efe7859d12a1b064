/- The walk of the law OuterDraws. No condition but that the numbers are of their kinds. -/
import Derived.Test.YtdjfacdlcnnjnaaRef10Eqs
set_option linter.unusedVariables false
namespace Go.Proofs.Ytdjfacdlcnnjnaa
open Go.RowKit
attribute [local go_sem ↓] Go.wp_at_zero Go.wp_at_succ
theorem gl_mem_len {ls : List (List Int)} {B : Nat} (h : ∀ j, (gl ls j).length ≤ B) (i : Int) : (getN ls i).length ≤ B := by
  unfold getN; split
  · exact h _
  · simp
set_option maxHeartbeats 8000000 in
set_option maxRecDepth 40000 in
theorem outerDraws_walk (p0 : Par) (session : Nat) (i : Int) (w : World) (hp0 : p0.wf) (hs : session < 18446744073709551616) (hi0 : -9223372036854775808 ≤ i) (hi1 : i ≤ 9223372036854775807) :
    Calls Try.prog 9 #[p0.val, .int .u64 (session : Int), .int .i64 i] w fun e w' => e = .returned (.bool true) ∧ Keeps NoB w w' := by
  have hu := Try.underlying66
  unfold Par.val
  go_enter Try.func9, Try.ntmps9
  go_wp2_with fail
  refine (speaks10_calls _).mono ?_
  rintro e w1 ⟨rfl, HK1⟩
  have hbox := hid (HK1.heap (heap_alloc_new w (.cells #[.int .i64 p0.n, .int .i64 p0.b, .int .i64 p0.q, .int .i64 p0.eps, .int .i64 p0.f] 66)) (fun h => h))
  have HK1 := hid (((Keeps.refl NoB w).alloc _).fresh HK1)
  obtain ⟨b0, b1, b2, b3, b4⟩ := cells5 hbox.out
  go_wp2_with fail
  refine (smaller_calls p0 _).mono ?_
  rintro e w2 ⟨rfl, HK2⟩
  have hbox := hid (HK2.heap hbox.out (fun h => h))
  have HK2 := hid (HK1.out.fresh HK2)
  have hsz := hid (show w.heap.size < w2.heap.size from lt_of_heap hbox.out)
  obtain ⟨p, hsm⟩ : ∃ p, smP p0 = p := ⟨_, rfl⟩
  have hle := smP_le p0
  have hwf := smP_wf hp0
  rw [hsm] at hle hwf ⊢
  have hsm := hid hsm
  clear b0 b1 b2 b3 b4 HK1
  have hn0 : -9223372036854775808 ≤ p.n := hwf.1.1
  unfold Par.val
  go_wp2_with fail
  by_cases hp : p.may
  · have HM := hid hp
    have hmp := hid (mayB_true hp)
    have hab := auxN_bounds hp
    have hpn : 1 ≤ p.n ∧ p.n ≤ 60 := ⟨hp.1, hle⟩
    obtain ⟨a, ha⟩ : ∃ a : Nat, auxN p = (a : Int) := ⟨(auxN p).toNat, by omega⟩
    obtain ⟨n, hn⟩ : ∃ n : Nat, p.n = (n : Int) := ⟨p.n.toNat, by omega⟩
    have ha1 : 1 ≤ a := by omega
    have ha2 : a ≤ 4613735 := by omega
    have hn1 : 1 ≤ n := by omega
    have hn2 : n ≤ 60 := by omega
    have HA := hid ha
    have HN := hid hn
    clear hp hab ha hn
    refine (onew_core p session _ HM.out hs).mono ?_
    rintro e w4 ⟨g, rfl, HG, HK4⟩
    have HG := hid HG
    have hbox := hid (HK4.heap hbox.out (fun h => h))
    have HK4 := hid (HK2.out.fresh HK4)
    obtain ⟨b0, b1, b2, b3, b4⟩ := cells5 hbox.out
    go_wp2_with fail
    refine (smaller_calls p0 _).mono ?_
    rintro e w5 ⟨rfl, HK5⟩
    rw [hsm.out]
    unfold Par.val
    have hbox := hid (HK5.heap hbox.out (fun h => h))
    have HG4 := hid HK5
    have HK5 := hid (HK4.out.fresh HK5)
    clear b0 b1 b2 b3 b4
    have f0 := free5 hbox.out 0
    have f1 := free5 hbox.out 1
    have f2 := free5 hbox.out 2
    have f3 := free5 hbox.out 3
    have f4 := free5 hbox.out 4
    obtain ⟨b0, b1, b2, b3, b4⟩ := cells5 hbox.out
    go_wp2_with fail
    have hA := hid (set5 hbox.out (.int .i64 p.n) (.int .i64 p.b) (.int .i64 p.q) (.int .i64 p.eps) (.int .i64 p.f))
    have HK6 := hid (HK5.out.then (keep5 (w := w5) (b := w.heap.size) (.int .i64 p.n) (.int .i64 p.b) (.int .i64 p.q) (.int .i64 p.eps) (.int .i64 p.f)) (fun q (e : q = w.heap.size) hq => by omega))
    have HG := hid (HG.out _ ((HG4.out.mono (fun _ h => h.elim)).trans (keep5 (w := w5) (b := w.heap.size) (.int .i64 p.n) (.int .i64 p.b) (.int .i64 p.q) (.int .i64 p.eps) (.int .i64 p.f)) (fun _ _ h => h) (fun q _ (e : q = w.heap.size) => by have := hsz.out; omega)))
    clear HG4
    clear b0 b1 b2 b3 b4 f0 f1 f2 f3 f4 hbox HK5
    generalize (((((w5.setCell ⟨w.heap.size, 0, none⟩ (.int .i64 p.n)).setCell ⟨w.heap.size, 1, none⟩ (.int .i64 p.b)).setCell ⟨w.heap.size, 2, none⟩ (.int .i64 p.q)).setCell ⟨w.heap.size, 3, none⟩ (.int .i64 p.eps)).setCell ⟨w.heap.size, 4, none⟩ (.int .i64 p.f)) = w6 at *
    have hSall := hid (show ∀ w', Keeps NoB w6 w' → (w'.cell? ⟨w.heap.size, 0, none⟩ = some (.int .i64 p.n) ∧ w'.cell? ⟨w.heap.size, 1, none⟩ = some (.int .i64 p.b) ∧ w'.cell? ⟨w.heap.size, 2, none⟩ = some (.int .i64 p.q) ∧ w'.cell? ⟨w.heap.size, 3, none⟩ = some (.int .i64 p.eps) ∧ w'.cell? ⟨w.heap.size, 4, none⟩ = some (.int .i64 p.f)) from fun w' hk => cells5 (hk.heap hA.out (fun h => h)))
    have e1 : p.n.toNat = n := by rw [HN.out]; simp
    rw [e1] at HG
    have hgo := hid (show ∀ k, k < n → getN (ofsN p session n) (k : Int) = ofN p session k from fun k hk => by
      rw [getN_nat (by rw [ofsN_length]; omega), gl_eq _ _ (by rw [ofsN_length]; omega)]
      simp [ofsN])
    have hlo := hid (show ((ofsN p session n).length : Int) = p.n by rw [ofsN_length, HN.out])
    have hlon := hid (ofsN_length p session n)
    have hlh := hid (show ((hasN p session n).length : Int) = (a : Int) by rw [hasN_length, HA.out]; rfl)
    have hlhn := hid (show (hasN p session n).length = a by rw [hasN_length, HA.out]; rfl)
    have hgen := hid (show hasN p session p.n.toNat = hasN p session n by rw [e1])
    clear e1
    generalize ofsN p session n = ofs at *
    generalize hasN p session n = has at *
    obtain ⟨pb, hpb⟩ : ∃ pb, pb = w.heap.size := ⟨_, rfl⟩
    rw [← hpb] at hA hSall ⊢
    clear hpb hsz
    have HKr := hid (Keeps.refl NoB w6)
    obtain ⟨b0, b1, b2, b3, b4⟩ := hSall.out _ HKr.out
    refine (may_calls p _).mono ?_
    rintro e w7 ⟨rfl, HK7⟩
    rw [hmp.out]
    have HKr := hid (HKr.out.fresh HK7)
    clear b0 b1 b2 b3 b4
    obtain ⟨b0, b1, b2, b3, b4⟩ := hSall.out _ HKr.out
    have hne1 : (p.n != p.n) = false := by simp
    have hne2 : ((a : Int) != (a : Int)) = false := by simp
    go_wp2_with fail
    go_region_held3 (fun w' => w'.cell? ⟨pb, 0, none⟩ = some (.int .i64 p.n) ∧ w'.cell? ⟨pb, 1, none⟩ = some (.int .i64 p.b) ∧ w'.cell? ⟨pb, 2, none⟩ = some (.int .i64 p.q) ∧ w'.cell? ⟨pb, 3, none⟩ = some (.int .i64 p.eps) ∧ w'.cell? ⟨pb, 4, none⟩ = some (.int .i64 p.f)) (first | (exact hSall.out _ HKr.out) | (exact hSall.out _ HKr.out.drew) | go_keep) (first
        | (go_at_call 43; refine (gMessage_calls g ofs has _ (by first | exact HG.out.kept HKr.out | exact HG.out.kept HKr.out.drew)).mono ?_; rintro e w7 ⟨rfl, rfl⟩; rw [hlo.out])
        | (go_at_call 44; refine (gAuxiliary_calls g ofs has _ (by first | exact HG.out.kept HKr.out | exact HG.out.kept HKr.out.drew)).mono ?_; rintro e w7 ⟨rfl, rfl⟩; rw [hlh.out])
        | (go_at_call 45; refine (raux_calls p _ HM.out).mono ?_; rintro e w7 ⟨rfl, HK7⟩; rw [HA.out]; have HKr := hid (show Keeps NoB w6 w7 by first | exact HKr.out.fresh HK7 | exact HKr.out.drew.fresh HK7)))
    have HKn := hid HKr.out
    clear b0 b1 b2 b3 b4 hne1 hne2 HKr
    obtain ⟨b0, b1, b2, b3, b4⟩ := hSall.out _ HKn.out
    go_wp2_with fail
    go_loopw [55] (fun v wr => ∃ k : Nat, k ≤ n ∧ v = .int .i64 k ∧ Hid (Keeps NoB w6 wr)) (fun v _ => n - (intOf v).toNat)
    case atStart => exact ⟨0, Nat.zero_le _, rfl, HKn.out⟩
    case round =>
      obtain ⟨k, hk, rfl, HKr⟩ := hrel
      clear b0 b1 b2 b3 b4
      obtain ⟨b0, b1, b2, b3, b4⟩ := hSall.out _ HKr.out
      by_cases hlt : k < n
      · have d0 : decide ((k : Int) < p.n) = true := decide_eq_true (by rw [HN.out]; omega)
        have hgk := hid (hgo.out k hlt)
        have hsame := hid (show sameN (ofN p session k) (ofN p session k) = 1 from if_pos rfl)
        go_wp2_with fail
        go_region_held3 (fun w' => w'.cell? ⟨pb, 0, none⟩ = some (.int .i64 p.n) ∧ w'.cell? ⟨pb, 1, none⟩ = some (.int .i64 p.b) ∧ w'.cell? ⟨pb, 2, none⟩ = some (.int .i64 p.q) ∧ w'.cell? ⟨pb, 3, none⟩ = some (.int .i64 p.eps) ∧ w'.cell? ⟨pb, 4, none⟩ = some (.int .i64 p.f)) (first | (exact hSall.out _ HKr.out) | (exact hSall.out _ HKr.out.drew) | go_keep) (first
          | (go_at_call 46; refine (gOf_calls g ofs has k _ (by first | exact HG.out.kept HKr.out | exact HG.out.kept HKr.out.drew) (by omega) (by omega)).mono ?_; rintro e w7 ⟨v7, rfl, hown7, HK7⟩; rw [hgk.out] at hown7; obtain ⟨A7, c7, rfl, _, hat7⟩ := hown7.reads; have HKr := hid (show Keeps NoB w6 w7 by first | exact HKr.out.fresh HK7 | exact HKr.out.drew.fresh HK7))
          | (go_at_call 47; refine (rOf_calls p session k _ HM.out hs (by omega)).mono ?_; rintro e w8 ⟨A8, c8, rfl, hat8, HK8⟩; have hat7 := hat7.kept HK8; have HKr := hid (show Keeps NoB w6 w8 by first | exact HKr.out.fresh HK8 | exact HKr.out.drew.fresh HK8))
          | (go_at_call 25; refine (same_calls (ofN p session k) (ofN p session k) A7 A8 c7 c8 _ hat7 hat8).mono ?_; rintro e w9 ⟨rfl, HK9⟩; rw [hsame.out]; have HKr := hid (show Keeps NoB w6 w9 by first | exact HKr.out.fresh HK9 | exact HKr.out.drew.fresh HK9)))
        all_goals go_wp2_with fail
        all_goals go_roundw
        case rel => exact ⟨k + 1, by omega, by go_num, HKr.out⟩
        case measure => simp [intOf]; omega
      · have d0 : decide ((k : Int) < p.n) = false := decide_eq_false (by rw [HN.out]; omega)
        go_wp2_with fail
        refine (rEqs_calls p session _ HM.out hs).mono ?_
        rintro e w8 ⟨Ae0, ce0, rfl, hre, HK8⟩
        have hat : (auxN p).toNat = a := by rw [HA.out]; rfl
        rw [hat, hgen.out] at hre ⊢
        rw [eqsN_length]
        clear hat b0 b1 b2 b3 b4
        have hre := hid hre
        have HKr := hid (HKr.out.fresh HK8)
        obtain ⟨b0, b1, b2, b3, b4⟩ := hSall.out _ HKr.out
        go_wp2_with fail
        refine (rHas_calls p session _ HM.out hs).mono ?_
        rintro e wb ⟨Ah0, ch0, rfl, hrh, HK9⟩
        rw [hgen.out] at hrh ⊢
        rw [hlhn.out]
        have hre := hid (hre.out.kept HK9)
        have hrh := hid hrh
        have HKb := hid (HKr.out.fresh HK9)
        have HG := hid (HG.out.kept HKb.out)
        have hSb := hid (show ∀ w', Keeps NoB wb w' → (w'.cell? ⟨pb, 0, none⟩ = some (.int .i64 p.n) ∧ w'.cell? ⟨pb, 1, none⟩ = some (.int .i64 p.b) ∧ w'.cell? ⟨pb, 2, none⟩ = some (.int .i64 p.q) ∧ w'.cell? ⟨pb, 3, none⟩ = some (.int .i64 p.eps) ∧ w'.cell? ⟨pb, 4, none⟩ = some (.int .i64 p.f)) from fun w' hk => hSall.out w' (HKb.out.fresh hk))
        clear HKr b0 b1 b2 b3 b4 hSall d0 hk hlt HKn
        obtain ⟨b0, b1, b2, b3, b4⟩ := hSb.out _ (Keeps.refl NoB wb)
        go_wp2_with fail
        go_loopw [75] (fun v wr => ∃ k : Nat, k ≤ a ∧ v = .int .i64 k ∧ Hid (Keeps NoB wb wr)) (fun v _ => a - (intOf v).toNat)
        case atStart => exact ⟨0, Nat.zero_le _, rfl, Keeps.refl NoB wb⟩
        case round =>
          obtain ⟨k, hk, rfl, HKr⟩ := hrel
          clear b0 b1 b2 b3 b4
          by_cases hlt : k < a
          · obtain ⟨bh, oh, rfl, hch⟩ := hrh.out.2 (by rw [hlhn.out]; omega)
            obtain ⟨u1, hc1, Ah, ch, rfl, _, _, hath⟩ := hch k (by rw [hlhn.out]; exact hlt)
            obtain ⟨be, oe, rfl, hce⟩ := hre.out.2 (by rw [eqsN_length]; omega)
            obtain ⟨u2, hc2, Ae, ce, rfl, _, _, hate⟩ := hce k (by rw [eqsN_length]; exact hlt)
            have hgk := getN_nat (ls := has) (i := k) (by rw [hlhn.out]; exact hlt)
            have hek : eqN ofs has (k : Int) = gl (eqsN has p.n a) k := by
              rw [eqsN_gl _ _ _ _ hlt]
              unfold eqN
              rw [if_pos ⟨by omega, by rw [hlhn.out]; omega⟩, hlo.out]
              simp
            generalize gl (eqsN has p.n a) k = le at *
            generalize gl has k = lh at *
            have hgk := hid hgk
            have hek := hid hek
            have hath := hid hath
            have hate := hid hate
            have hsl := hid (show sameN lh lh = 1 from if_pos rfl)
            have hsle := hid (show sameN le le = 1 from if_pos rfl)
            have hSe := hid (show ∀ w', Keeps NoB wb w' → w'.cell? ⟨be, oe + k, none⟩ = some (.slice Ae le.length ce) from fun w' hk => hk.cell hc2 (fun h => h))
            have e1 := HKr.out.cell hc1 (fun h => h)
            have e2 := HKr.out.cell hc2 (fun h => h)
            have hj0 : (0 : Int) ≤ (k : Int) := by omega
            have hj1 : (k : Int) < (a : Int) := by omega
            have tk1 := hid trivial
            clear hc1 hc2 hch hce
            go_wp2_with fail
            go_region_held3 (fun w' => w'.cell? ⟨be, oe + k, none⟩ = some (.slice Ae le.length ce)) (first | (exact hSe.out _ HKr.out) | (exact hSe.out _ HKr.out.drew) | go_keep) (first
              | (go_at_call 50; refine (gHas_calls g ofs has k _ (by first | exact HG.out.kept HKr.out | exact HG.out.kept HKr.out.drew) (by omega) (by omega)).mono ?_; rintro e w7 ⟨v7, rfl, hown7, HK7⟩; rw [hgk.out] at hown7; obtain ⟨A7, c7, rfl, _, hat7⟩ := hown7.reads; have HKr := hid (show Keeps NoB wb w7 by first | exact HKr.out.fresh HK7 | exact HKr.out.drew.fresh HK7); have hath := hath.out.kept HKr.out)
              | (go_at_call 25; clear tk1; refine (same_calls lh lh A7 Ah c7 ch _ hat7 hath).mono ?_; rintro e w8 ⟨rfl, HK8⟩; rw [hsl.out]; have HKr := hid (show Keeps NoB wb w8 by first | exact HKr.out.fresh HK8 | exact HKr.out.drew.fresh HK8))
              | (go_at_call 51; refine (gEquation_calls g ofs has k _ (by first | exact HG.out.kept HKr.out | exact HG.out.kept HKr.out.drew) (by omega) (by omega)).mono ?_; rintro e w9 ⟨v9, rfl, hown9, HK9⟩; rw [hek.out] at hown9; obtain ⟨A9, c9, rfl, _, hat9⟩ := hown9.reads; have HKr := hid (show Keeps NoB wb w9 by first | exact HKr.out.fresh HK9 | exact HKr.out.drew.fresh HK9); have hate := hate.out.kept HKr.out)
              | (go_at_call 25; refine (same_calls le le A9 Ae c9 ce _ hat9 hate).mono ?_; rintro e w10 ⟨rfl, HK10⟩; rw [hsle.out]; have HKr := hid (show Keeps NoB wb w10 by first | exact HKr.out.fresh HK10 | exact HKr.out.drew.fresh HK10)))
            all_goals go_wp2_with fail
            all_goals go_roundw
            case rel => exact ⟨k + 1, by omega, by go_num, HKr.out⟩
            case measure => simp [intOf]; omega
          · obtain ⟨b0, b1, b2, b3, b4⟩ := hSb.out _ HKr.out
            have d1 : decide ((k : Int) < (a : Int)) = false := decide_eq_false (by omega)
            by_cases h0 : 0 ≤ i
            · have c0 : decide (0 ≤ i) = true := decide_eq_true h0
              by_cases h1 : i < a
              · have c1 : decide (i < (a : Int)) = true := decide_eq_true h1
                go_wp2_with fail
                go_ret
                exact ⟨rfl, (HK6.out.fresh HKb.out).fresh HKr.out⟩
              · have c1 : decide (i < (a : Int)) = false := decide_eq_false h1
                have hgn := hid (getN_neg (ls := has) (i := i) (fun h => h1 (by rw [hlhn.out] at h; exact h.2)))
                have hen := hid (show eqN ofs has i = [] from if_neg (fun h => h1 (by rw [hlhn.out] at h; exact h.2)))
                by_cases h2 : i < p.n
                · have c2 : decide (i < p.n) = true := decide_eq_true h2
                  go_wp2_with fail
                  refine (gHas_calls g ofs has i _ (HG.out.kept HKr.out) hi0 hi1).mono ?_
                  rintro e w10 ⟨v10, rfl, hown10, HK10⟩
                  rw [hgn.out] at hown10
                  obtain ⟨A10, c10, rfl, _, _⟩ := hown10.reads
                  have HKr := hid (HKr.out.fresh HK10)
                  clear hown10
                  go_wp2_with fail
                  refine (gEquation_calls g ofs has i _ (HG.out.kept HKr.out) hi0 hi1).mono ?_
                  rintro e w11 ⟨v11, rfl, hown11, HK11⟩
                  rw [hen.out] at hown11
                  obtain ⟨A11, c11, rfl, _, _⟩ := hown11.reads
                  have HKr := hid (HKr.out.fresh HK11)
                  clear hown11 b0 b1 b2 b3 b4
                  obtain ⟨b0, b1, b2, b3, b4⟩ := hSb.out _ HKr.out
                  go_wp2_with fail
                  go_ret
                  exact ⟨rfl, (HK6.out.fresh HKb.out).fresh HKr.out⟩
                · have c2 : decide (i < p.n) = false := decide_eq_false h2
                  have hon := hid (getN_neg (ls := ofs) (i := i) (fun h => h2 (by rw [hlo.out] at h; exact h.2)))
                  go_wp2_with fail
                  refine (gHas_calls g ofs has i _ (HG.out.kept HKr.out) hi0 hi1).mono ?_
                  rintro e w10 ⟨v10, rfl, hown10, HK10⟩
                  rw [hgn.out] at hown10
                  obtain ⟨A10, c10, rfl, _, _⟩ := hown10.reads
                  have HKr := hid (HKr.out.fresh HK10)
                  clear hown10
                  go_wp2_with fail
                  refine (gEquation_calls g ofs has i _ (HG.out.kept HKr.out) hi0 hi1).mono ?_
                  rintro e w11 ⟨v11, rfl, hown11, HK11⟩
                  rw [hen.out] at hown11
                  obtain ⟨A11, c11, rfl, _, _⟩ := hown11.reads
                  have HKr := hid (HKr.out.fresh HK11)
                  clear hown11 b0 b1 b2 b3 b4
                  obtain ⟨b0, b1, b2, b3, b4⟩ := hSb.out _ HKr.out
                  go_wp2_with fail
                  refine (gOf_calls g ofs has i _ (HG.out.kept HKr.out) hi0 hi1).mono ?_
                  rintro e w12 ⟨v12, rfl, hown12, HK12⟩
                  rw [hon.out] at hown12
                  obtain ⟨A12, c12, rfl, _, _⟩ := hown12.reads
                  have HKr := hid (HKr.out.fresh HK12)
                  clear hown12
                  go_wp2_with fail
                  go_ret
                  exact ⟨rfl, (HK6.out.fresh HKb.out).fresh HKr.out⟩
            · have c0 : decide (0 ≤ i) = false := decide_eq_false h0
              have hgn := hid (getN_neg (ls := has) (i := i) (fun h => h0 h.1))
              have hen := hid (show eqN ofs has i = [] from if_neg (fun h => h0 h.1))
              have hon := hid (getN_neg (ls := ofs) (i := i) (fun h => h0 h.1))
              go_wp2_with fail
              refine (gHas_calls g ofs has i _ (HG.out.kept HKr.out) hi0 hi1).mono ?_
              rintro e w10 ⟨v10, rfl, hown10, HK10⟩
              rw [hgn.out] at hown10
              obtain ⟨A10, c10, rfl, _, _⟩ := hown10.reads
              have HKr := hid (HKr.out.fresh HK10)
              clear hown10
              go_wp2_with fail
              refine (gEquation_calls g ofs has i _ (HG.out.kept HKr.out) hi0 hi1).mono ?_
              rintro e w11 ⟨v11, rfl, hown11, HK11⟩
              rw [hen.out] at hown11
              obtain ⟨A11, c11, rfl, _, _⟩ := hown11.reads
              have HKr := hid (HKr.out.fresh HK11)
              clear hown11 b0 b1 b2 b3 b4
              obtain ⟨b0, b1, b2, b3, b4⟩ := hSb.out _ HKr.out
              go_wp2_with fail
              refine (gOf_calls g ofs has i _ (HG.out.kept HKr.out) hi0 hi1).mono ?_
              rintro e w12 ⟨v12, rfl, hown12, HK12⟩
              rw [hon.out] at hown12
              obtain ⟨A12, c12, rfl, _, _⟩ := hown12.reads
              have HKr := hid (HKr.out.fresh HK12)
              clear hown12
              go_wp2_with fail
              go_ret
              exact ⟨rfl, (HK6.out.fresh HKb.out).fresh HKr.out⟩
  · have hmp := hid (mayB_false hp)
    refine (onew_no p session _ hp hs).mono ?_
    rintro e w4 ⟨rfl, HK4⟩
    have hbox := hid (HK4.heap hbox.out (fun h => h))
    have HK4 := hid (HK2.out.fresh HK4)
    clear hp
    obtain ⟨b0, b1, b2, b3, b4⟩ := cells5 hbox.out
    go_wp2_with fail
    refine (smaller_calls p0 _).mono ?_
    rintro e w5 ⟨rfl, HK5⟩
    rw [hsm.out]
    unfold Par.val
    have hbox := hid (HK5.heap hbox.out (fun h => h))
    have HK5 := hid (HK4.out.fresh HK5)
    clear b0 b1 b2 b3 b4
    have f0 := free5 hbox.out 0
    have f1 := free5 hbox.out 1
    have f2 := free5 hbox.out 2
    have f3 := free5 hbox.out 3
    have f4 := free5 hbox.out 4
    obtain ⟨b0, b1, b2, b3, b4⟩ := cells5 hbox.out
    go_wp2_with fail
    have hA := hid (set5 hbox.out (.int .i64 p.n) (.int .i64 p.b) (.int .i64 p.q) (.int .i64 p.eps) (.int .i64 p.f))
    have HK6 := hid (HK5.out.then (keep5 (w := w5) (b := w.heap.size) (.int .i64 p.n) (.int .i64 p.b) (.int .i64 p.q) (.int .i64 p.eps) (.int .i64 p.f)) (fun q (e : q = w.heap.size) hq => by omega))
    clear b0 b1 b2 b3 b4 f0 f1 f2 f3 f4 hbox HK5
    generalize (((((w5.setCell ⟨w.heap.size, 0, none⟩ (.int .i64 p.n)).setCell ⟨w.heap.size, 1, none⟩ (.int .i64 p.b)).setCell ⟨w.heap.size, 2, none⟩ (.int .i64 p.q)).setCell ⟨w.heap.size, 3, none⟩ (.int .i64 p.eps)).setCell ⟨w.heap.size, 4, none⟩ (.int .i64 p.f)) = w6 at *
    refine (may_calls p _).mono ?_
    rintro e w7 ⟨rfl, HK7⟩
    rw [hmp.out]
    go_wp2_with fail
    go_ret
    exact ⟨rfl, HK6.out.fresh HK7⟩
end Go.Proofs.Ytdjfacdlcnnjnaa
