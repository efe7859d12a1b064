/- Auxiliary blocks and what they are of: the walk of the law ComposeHolds. Conditions: numbers are of their kinds. -/
import Derived.Test.YtjfilleddekcmaaHoldsMath
import Derived.Test.YtjfilleddekcmaaBytesRow
import Derived.BigQuiet
set_option linter.unusedVariables false
namespace Go.Proofs.Ytjfilleddekcmaa
open Go.RowKit
attribute [local go_sem ↓] Go.wp_at_zero Go.wp_at_succ

set_option maxHeartbeats 2000000 in
set_option maxRecDepth 20000 in
theorem composeHolds_walk (p : Par) (session : Nat) (obj : List UInt8) (A : Option Addr) (c : Nat) (w : World) (hwf : p.wf) (hs : session < 18446744073709551616) (ho : BytesIn (fun _ => True) w A obj) (hcap : obj.length ≤ c) :
    Calls Try.prog 11 #[p.val, .int .u64 (session : Int), .slice A obj.length c] w fun e w' => e = .returned (.bool true) ∧ Keeps NoB w w' := by
  have hu := Try.underlying50
  have HO := hid ho
  have HWF := hid hwf
  have hlen := ho.len
  have hbA := hid (heap_alloc_new w (.cells #[.int .i64 p.n, .int .i64 p.b, .int .i64 p.q, .int .i64 p.eps, .int .i64 p.f] 50))
  have hS := hid (fun w' (hk : Keeps NoB (w.alloc (.cells #[.int .i64 p.n, .int .i64 p.b, .int .i64 p.q, .int .i64 p.eps, .int .i64 p.f] 50)) w') => cells5 (hk.heap hbA.out (fun h => h)))
  have HKa := hid ((Keeps.refl NoB w).alloc (.cells #[.int .i64 p.n, .int .i64 p.b, .int .i64 p.q, .int .i64 p.eps, .int .i64 p.f] 50))
  generalize hwa : w.alloc (.cells #[.int .i64 p.n, .int .i64 p.b, .int .i64 p.q, .int .i64 p.eps, .int .i64 p.f] 50) = wa at *
  obtain ⟨pb, hpb⟩ : ∃ pb, w.heap.size = pb := ⟨_, rfl⟩
  rw [hpb] at hS
  have hbig := hid (fun w' => big13_calls p w')
  have hmay := hid (fun w' => may_calls p w')
  obtain ⟨L, hL⟩ : ∃ L, obj.length = L := ⟨_, rfl⟩
  have HL := hid hL
  rw [hL] at hcap hlen ⊢
  clear ho hwf hbA hL
  by_cases hbg : bigN p = true
  · rw [hbg] at hbig
    unfold Par.val at hbig ⊢
    clear hbg
    go_enter Try.func11, Try.ntmps11
    go_wp2_with fail
    refine (speaks13_calls _).mono ?_
    rintro e w1 ⟨rfl, HK1⟩
    obtain ⟨b0, b1, b2, b3, b4⟩ := hS.out _ HK1
    have HK1 := hid HK1
    go_wp2_with fail
    refine (hbig.out _).mono ?_
    rintro e w2 ⟨rfl, HK2⟩
    have HK2 := hid (HK1.out.fresh HK2)
    clear b0 b1 b2 b3 b4
    obtain ⟨b0, b1, b2, b3, b4⟩ := hS.out _ HK2.out
    go_wp2_with fail
    go_ret
    exact ⟨rfl, HKa.out.fresh HK2.out⟩
  · have hbg : bigN p = false := by simpa using hbg
    rw [hbg] at hbig
    clear hbg
    by_cases hm : p.may
    · have hmb := mayB_true hm
      rw [hmb] at hmay
      obtain ⟨N, B, hpn, hpb', hpn2, hpb2, hN1, hN2, hB1, hB2, hNB, hNB2⟩ := par_sizes hm
      obtain ⟨M, hM⟩ : ∃ M, N * B = M := ⟨_, rfl⟩
      rw [hM] at hNB hNB2
      have hMi : (N : Int) * (B : Int) = (M : Int) := by rw [← hM]; exact (Int.natCast_mul N B).symm
      have hwm : IntKind.i64.wrap (M : Int) = (M : Int) := IntWalk.i64_in _ (by omega)
      by_cases hlg : M < L
      · have d5 : decide ((M : Int) < (L : Int)) = true := decide_eq_true (by omega)
        have d5n : decide (M < L) = true := decide_eq_true hlg
        unfold Par.val at hbig hmay ⊢
        rw [hpn, hpb'] at hS hbig hmay ⊢
        rw [hpn, hpb'] at hwa
        clear hm hmb hpn hpb' hpn2 hpb2 hNB hM hlg
        go_enter Try.func11, Try.ntmps11
        go_wp2_with fail
        refine (speaks13_calls _).mono ?_
        rintro e w1 ⟨rfl, HK1⟩
        obtain ⟨b0, b1, b2, b3, b4⟩ := hS.out _ HK1
        have HK1 := hid HK1
        go_wp2_with fail
        refine (hbig.out _).mono ?_
        rintro e w2 ⟨rfl, HK2⟩
        have HK2 := hid (HK1.out.fresh HK2)
        clear b0 b1 b2 b3 b4
        obtain ⟨b0, b1, b2, b3, b4⟩ := hS.out _ HK2.out
        go_wp2_with fail
        refine (hmay.out _).mono ?_
        rintro e w3 ⟨rfl, HK3⟩
        have HK3 := hid (HK2.out.fresh HK3)
        clear b0 b1 b2 b3 b4
        obtain ⟨b0, b1, b2, b3, b4⟩ := hS.out _ HK3.out
        go_wp2_with fail
        go_ret
        exact ⟨rfl, HKa.out.fresh HK3.out⟩
      · have d5 : decide ((M : Int) < (L : Int)) = false := decide_eq_false (by omega)
        have d5n : decide (M < L) = false := decide_eq_false hlg
        have hle : (obj.length : Int) ≤ p.n * p.b := by rw [hNB, HL.out]; omega
        have hco := hid (HO.out.kept HKa.out)
        have hcy := hid (fun w' (hk : Keeps NoB wa w') => comp_yes p session obj A c _ w' hm hs (hco.out.kept hk) (by rw [HL.out]; exact hcap) hle)
        have hax := hid (fun w' => raux_calls p w' hm)
        have heq := hid (fun w' => rEqs_calls p session w' hm hs)
        have hch := hid (fun j hj A3 c3 A2 c2 R w' h1 h2 => check_holds hm session obj j hj A3 c3 A2 c2 R w' h1 h2)
        have hel := eqsN_length (hasN p session p.n.toNat) p.n (auxN p).toNat
        have hcl : (compN p session obj).length = p.n.toNat + (auxN p).toNat := by unfold compN; rw [compK_length]
        have hab := auxN_bounds hm
        obtain ⟨a, ha⟩ : ∃ a : Nat, auxN p = (a : Int) := ⟨(auxN p).toNat, by omega⟩
        rw [ha, Int.toNat_natCast] at hch heq hel hcl
        rw [ha] at hax hab
        rw [HL.out] at hcy
        rw [hpn2] at hch heq hel hcl
        rw [hpb2] at hch
        generalize hasN p session N = H at *
        unfold Par.val at hbig hmay hcy hax heq ⊢
        rw [hpn] at hS hbig hmay hcy hax heq hch hel ⊢
        rw [hpb'] at hS hbig hmay hcy hax heq hch ⊢
        rw [hpn, hpb'] at hwa
        generalize eqsN H (N : Int) a = E at *
        generalize compN p session obj = W at *
        rw [hel] at heq
        obtain ⟨m, hmW⟩ : ∃ m, W.length = m := ⟨_, rfl⟩
        rw [hmW] at hch hcl
        have HMW := hid hmW
        have HEL := hid hel
        have hwr : IntKind.i64.wrap ((N : Int) + (a : Int)) = (m : Int) := by rw [IntWalk.i64_in _ (by omega)]; omega
        have hna : (N : Int) + (a : Int) = (m : Int) := by omega
        have hwm2 : IntKind.i64.wrap (m : Int) = (m : Int) := IntWalk.i64_in _ (by omega)
        have dmm : ((m : Int) != (m : Int)) = false := by simp
        have ha2 : a ≤ 4613735 := by omega
        have hzr := hid (zero_repl B)
        clear hm hmb hpn hpb' hpn2 hpb2 hNB hM hlg hle hmW ha hel hab hcl
        go_enter Try.func11, Try.ntmps11
        go_wp2_with fail
        refine (speaks13_calls _).mono ?_
        rintro e w1 ⟨rfl, HK1⟩
        obtain ⟨b0, b1, b2, b3, b4⟩ := hS.out _ HK1
        have HK1 := hid HK1
        go_wp2_with fail
        refine (hbig.out _).mono ?_
        rintro e w2 ⟨rfl, HK2⟩
        have HK2 := hid (HK1.out.fresh HK2)
        clear b0 b1 b2 b3 b4
        obtain ⟨b0, b1, b2, b3, b4⟩ := hS.out _ HK2.out
        go_wp2_with fail
        refine (hmay.out _).mono ?_
        rintro e w3 ⟨rfl, HK3⟩
        have HK3 := hid (HK2.out.fresh HK3)
        clear b0 b1 b2 b3 b4
        obtain ⟨b0, b1, b2, b3, b4⟩ := hS.out _ HK3.out
        go_wp2_with fail
        refine (hcy.out _ HK3.out).mono ?_
        rintro e w4 ⟨v4, rfl, hown4, HK4⟩
        obtain ⟨A4, c4, hv4, hc4, _, hb4⟩ := hown4.reads
        rw [HMW.out] at hv4 hc4
        subst hv4
        have HB4 := hid hb4
        have HK4 := hid (HK3.out.fresh HK4)
        clear b0 b1 b2 b3 b4 hown4 hb4
        have hS4 := hid (fun w' (hk : Keeps NoB w4 w') => hS.out _ (HK4.out.fresh hk))
        have HKr := hid (Keeps.refl NoB w4)
        obtain ⟨b0, b1, b2, b3, b4⟩ := hS4.out _ HKr.out
        go_wp2_with fail
        go_region_held3 (fun w' => w'.cell? ⟨pb, 0, none⟩ = some (.int .i64 (N : Int)) ∧ w'.cell? ⟨pb, 1, none⟩ = some (.int .i64 (B : Int)) ∧ w'.cell? ⟨pb, 2, none⟩ = some (.int .i64 p.q) ∧ w'.cell? ⟨pb, 3, none⟩ = some (.int .i64 p.eps) ∧ w'.cell? ⟨pb, 4, none⟩ = some (.int .i64 p.f)) (first | (exact hS4.out _ HKr.out) | (exact hS4.out _ HKr.out.drew) | go_keep) ((go_at_call 35; refine (hax.out _).mono ?_; rintro e w5 ⟨rfl, HK5⟩; have HKr := hid (show Keeps NoB w4 w5 by first | exact HKr.out.fresh HK5 | exact HKr.out.drew.fresh HK5)))
        go_wp2_with fail
        have HKn := hid (HK4.out.fresh HKr.out)
        have HB5 := hid (HB4.out.kept HKr.out)
        clear b0 b1 b2 b3 b4 HKr
        obtain ⟨b0, b1, b2, b3, b4⟩ := hS.out _ HKn.out
        go_wp2_with fail
        refine (heq.out _).mono ?_
        rintro e w6 ⟨A6, c6, rfl, hrow6, HK6⟩
        have HR6 := hid hrow6
        have HB6 := hid (HB5.out.kept HK6)
        have HK6 := hid (HKn.out.fresh HK6)
        clear b0 b1 b2 b3 b4 hrow6 dmm hwr hna hwm2
        go_wp2_with fail
        go_loopw [55] (fun v55 wr => ∃ k : Nat, k ≤ a ∧ v55 = .int .i64 (k : Int) ∧ Hid (Keeps NoB w6 wr)) (fun v55 _ => a - (intOf v55).toNat)
        case atStart => exact ⟨0, Nat.zero_le _, rfl, Keeps.refl _ _⟩
        case round =>
          obtain ⟨k, hk, rfl, HK⟩ := hrel
          by_cases hlt : k < a
          · obtain ⟨g6, o6, rfl, hc6⟩ := (HR6.out.kept HK.out).2 (by rw [HEL.out]; omega)
            obtain ⟨u6, k6, Ai, ci, rfl, _, _, hi6⟩ := hc6 k (by rw [HEL.out]; exact hlt)
            have q0 : (0 : Int) ≤ (k : Int) := by omega
            have q1 : (k : Int) < (a : Int) := by omega
            have hcx := hid (hch.out k hlt A4 c4 Ai ci _ wr (HB6.out.kept HK.out) hi6)
            obtain ⟨b0, b1, b2, b3, b4⟩ := hS.out _ (HK6.out.fresh HK.out)
            clear hc6 hi6
            generalize gl E k = is at *
            go_wp2_with fail
            refine hcx.out.mono ?_
            rintro e w7 ⟨v7, rfl, hown7, HK7⟩
            obtain ⟨A7, c7, hv7, _, _, hb7⟩ := hown7.reads
            have HB7 := hid hb7
            have hz := hid (rzero_calls (List.replicate B 0) A7 c7 _ w7 hb7)
            rw [hzr.out] at hz
            rw [List.length_replicate] at hv7 hz
            subst hv7
            have HK7 := hid (HK.out.fresh HK7)
            clear b0 b1 b2 b3 b4 hown7 hb7
            obtain ⟨b0, b1, b2, b3, b4⟩ := hS.out _ (HK6.out.fresh HK7.out)
            have dB : ((B : Int) != (B : Int)) = false := by simp
            go_wp2_with fail
            refine hz.out.mono ?_
            rintro e w8 ⟨rfl, hw8⟩
            subst hw8
            go_wp2_with fail
            go_roundw
            case rel => exact ⟨k + 1, by omega, by go_num, HK7⟩
            case measure => simp [intOf]; omega
          · obtain rfl : k = a := by omega
            go_wp2_with fail
            go_ret
            exact ⟨rfl, HKa.out.fresh (HK6.out.fresh HK.out)⟩
    · have hmb := mayB_false hm
      rw [hmb] at hmay
      unfold Par.val at hbig hmay ⊢
      clear hm hmb
      go_enter Try.func11, Try.ntmps11
      go_wp2_with fail
      refine (speaks13_calls _).mono ?_
      rintro e w1 ⟨rfl, HK1⟩
      obtain ⟨b0, b1, b2, b3, b4⟩ := hS.out _ HK1
      have HK1 := hid HK1
      go_wp2_with fail
      refine (hbig.out _).mono ?_
      rintro e w2 ⟨rfl, HK2⟩
      have HK2 := hid (HK1.out.fresh HK2)
      clear b0 b1 b2 b3 b4
      obtain ⟨b0, b1, b2, b3, b4⟩ := hS.out _ HK2.out
      go_wp2_with fail
      refine (hmay.out _).mono ?_
      rintro e w3 ⟨rfl, HK3⟩
      have HK3 := hid (HK2.out.fresh HK3)
      clear b0 b1 b2 b3 b4
      obtain ⟨b0, b1, b2, b3, b4⟩ := hS.out _ HK3.out
      go_wp2_with fail
      go_ret
      exact ⟨rfl, HKa.out.fresh HK3.out⟩
end Go.Proofs.Ytjfilleddekcmaa
