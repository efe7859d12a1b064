/- The law ClosureReaches: its walk. Conditions: lengths that memory bears. -/
import Derived.Test.YtkjaacpcnjakcaaSpeaks16
import Derived.Test.YtkjaacpcnjakcaaBig16
import Derived.Test.YtkjaacpcnjakcaaRefReach
set_option linter.unusedVariables false
namespace Go.Proofs.Ytkjaacpcnjakcaa
open Go.RowKit

theorem same_self (l : List Int) : sameN l l = 1 := by unfold sameN; rw [if_pos rfl]
theorem unk_inAll (known of : List Int) : decide (((unkN known of).length : Int) = 0) = inAllN known of := by
  rw [Bool.eq_iff_iff, decide_eq_true_eq]
  unfold inAllN unkN
  rw [List.all_eq_true]
  constructor
  · intro h x hx
    have h0 : (of.filter fun i => !decide (i ∈ known)) = [] := List.length_eq_zero_iff.1 (by omega)
    have := List.filter_eq_nil_iff.1 h0 x hx
    simpa using this
  · intro h
    have h0 : (of.filter fun i => !decide (i ∈ known)) = [] := List.filter_eq_nil_iff.2 (fun x hx => by simpa using h x hx)
    rw [h0]; rfl
set_option maxHeartbeats 1600000 in
set_option maxRecDepth 20000 in
theorem closureReaches_calls (all : Int) (eqs : List (List Int)) (A : Option Addr) (c : Nat) (w : World) (h : RowsAt w A eqs) (hmx : ∀ of ∈ eqs, of.length ≤ 140737488355328) (ha0 : -9223372036854775808 ≤ all) (ha1 : all ≤ 9223372036854775807) :
    Calls Try.prog 6 #[.int .i64 all, .slice A eqs.length c] w fun e w' => e = .returned (.bool true) ∧ Keeps NoB w w' := by
  have hl := h.1
  have HE := hid h
  have HMX := hid hmx
  clear h hmx
  obtain ⟨m, hm⟩ : ∃ m, eqs.length = m := ⟨_, rfl⟩
  have HBG := hid (fun (w0 : World) (h0 : RowsAt w0 A eqs) => big16_calls eqs A c w0 h0 HMX.out)
  have HR1 := hid (fun (w0 : World) (h0 : RowsAt w0 A eqs) (hB : eqs.flatten.length ≤ 1000000) (hr : ∀ of ∈ eqs, of.length ≤ 1000000) => rreach_calls all eqs A c w0 h0 hB hr)
  have HR2 := hid (fun (w0 : World) (h0 : RowsAt w0 A eqs) (hB : eqs.flatten.length ≤ 1000000) (hr : ∀ of ∈ eqs, of.length ≤ 1000000) (hn : eqs.length ≤ 1000000) => reach_calls all eqs A c w0 h0 hB hr hn ha1)
  rw [hm] at hl HBG HR1 HR2 ⊢
  have HM := hid hm
  clear hm
  go_enter Try.func6, Try.ntmps6
  go_wp2_with fail
  refine (speaks16_calls w).mono ?_
  rintro e w1 ⟨rfl, hk1⟩
  have HK1 := hid hk1
  have HE1 := hid (HE.out.kept hk1)
  clear hk1
  go_wp2_with fail
  refine (HBG.out w1 HE1.out).mono ?_
  rintro e w2 ⟨b, rfl, hb, rfl⟩
  cases b with
  | true =>
    go_wp2_with fail
    go_ret
    exact ⟨rfl, HK1.out⟩
  | false =>
    have hs := hb rfl
    have HS1 := hid hs.flat
    have HS2 := hid hs.each
    have HS3 := hid hs.len
    clear hb hs
    by_cases hbig : 1073741824 < all
    · go_wp2_with fail
      go_ret
      exact ⟨rfl, HK1.out⟩
    · go_wp2_with fail
      refine (HR1.out w2 HE1.out (by have := HS1.out; omega) (fun of hof => by have := HS2.out of hof; omega)).mono ?_
      rintro e w3 ⟨Ak, ck, rfl, hck, hat, hk3⟩
      have HK3 := hid (HK1.out.fresh hk3)
      have HE3 := hid (HE1.out.kept hk3)
      have HA3 := hid hat
      clear hat hk3
      go_wp2_with fail
      refine (HR2.out w3 HE3.out (by have := HS1.out; omega) (fun of hof => by have := HS2.out of hof; omega) (by have := HS3.out; have := HM.out; omega)).mono ?_
      rintro e w4 ⟨v4, rfl, ho4, hk4⟩
      have HKR := hid (reachN_rising all eqs)
      have HKL := hid (show (reachN all eqs).length ≤ 400 from Nat.le_trans (reachN_length all eqs) HS1.out)
      obtain ⟨kn, hkn⟩ : ∃ kn, reachN all eqs = kn := ⟨_, rfl⟩
      rw [hkn] at ho4 HA3 hck HKR HKL ⊢
      clear hkn
      obtain ⟨A4, c4, rfl, _, hat4⟩ := ho4.reads
      have HA4 := hid hat4
      have HK4 := hid (HK3.out.fresh hk4)
      have HE4 := hid (HE3.out.kept hk4)
      have HA34 := hid (HA3.out.kept hk4)
      clear ho4 hat4 hk4
      have HSM := hid (same_calls kn kn A4 Ak c4 ck w4 HA4.out HA34.out)
      rw [same_self] at HSM
      go_wp2_with fail
      refine HSM.out.mono ?_
      rintro e w5 ⟨rfl, hk5⟩
      have HK5 := hid (HK4.out.fresh hk5)
      have HE5 := hid (HE4.out.kept hk5)
      have HA5 := hid (HA34.out.kept hk5)
      clear hk5
      go_wp2_with fail
      go_loopw [27] (fun v27 wr => ∃ k : Nat, k ≤ m ∧ v27 = .int .i64 (k : Int) ∧ Hid (Keeps NoB w5 wr)) (fun v27 _ => m - (intOf v27).toNat)
      case atStart => exact ⟨0, Nat.zero_le _, rfl, hid (Keeps.refl _ _)⟩
      case round =>
        obtain ⟨k, hk, rfl, HK⟩ := hrel
        by_cases hlt : k < m
        · obtain ⟨b, off, rfl, hc⟩ := (HE5.out.kept HK.out).2 (by rw [HM.out]; omega)
          obtain ⟨u, cu, A1, c1, rfl, _, _, hat⟩ := hc k (by rw [HM.out]; exact hlt)
          have HAT := hid hat
          have HAK := hid (HA5.out.kept HK.out)
          have p0 : (0 : Int) ≤ (k : Int) := by omega
          have p1 : (k : Int) < (m : Int) := by omega
          have hrl := HS2.out (gl eqs k) (gl_mem (by rw [HM.out]; exact hlt))
          clear hc hat
          generalize hof : gl eqs k = of at *
          clear hof
          go_wp2_with fail
          refine (cfits_calls all of A1 c1 wr HAT.out).mono ?_
          rintro e w6 ⟨rfl, rfl⟩
          go_wp2_with fail
          refine (rfits16_calls all of A1 c1 _ HAT.out).mono ?_
          rintro e w7 ⟨rfl, hk7⟩
          have HK7 := hid (HK.out.fresh hk7)
          have HAT7 := hid (HAT.out.kept hk7)
          have HAK7 := hid (HAK.out.kept hk7)
          clear hk7
          have hlk := HKL.out
          go_wp2_with fail
          refine (closed_calls kn of Ak A1 ck c1 w7 HAK7.out (HKR.out.imp (fun h => by omega)) (by omega) HAT7.out).mono ?_
          rintro e w8 ⟨rfl, q8, rfl⟩
          have hui := unk_inAll kn of
          have hule := unkN_le kn of
          obtain ⟨bi, hbi⟩ : ∃ bi, inAllN kn of = bi := ⟨_, rfl⟩
          rw [hbi] at hui ⊢
          clear hbi
          have HLF := hid (rleft_calls kn of Ak A1 ck c1 (w7.drewN q8) (HAK7.out.kept ((Keeps.refl NoB w7).drewN q8)) (HAT7.out.kept ((Keeps.refl NoB w7).drewN q8)) (by omega))
          obtain ⟨uk, huk⟩ : ∃ uk, unkN kn of = uk := ⟨_, rfl⟩
          rw [huk] at hui hule HLF
          clear huk
          have HUI := hid hui
          clear hui
          go_wp2_with fail
          refine HLF.out.mono ?_
          rintro e w9 ⟨v9, rfl, ho9, hk9⟩
          obtain ⟨A9, c9, rfl, _, _⟩ := ho9.reads
          have HK9 := hid ((HK7.out.drewN q8).fresh hk9)
          clear ho9 hk9
          have hui := HUI.out
          cases bi with
          | true =>
            have h0 : uk.length = 0 := by have := of_decide_eq_true hui; omega
            clear hui
            obtain rfl : uk = [] := List.length_eq_zero_iff.1 h0
            clear h0
            go_wp2_with fail
            go_roundw
            case rel => exact ⟨k + 1, by omega, by go_num, HK9⟩
            case measure => simp [intOf]; omega
          | false =>
            have h0 : ¬ ((uk.length : Int) = 0) := of_decide_eq_false hui
            have d0 : ((uk.length : Int) == 0) = false := by simpa using h0
            clear hui
            go_wp2_with fail
            go_roundw
            case rel => exact ⟨k + 1, by omega, by go_num, HK9⟩
            case measure => simp [intOf]; omega
        · obtain rfl : k = m := by omega
          go_wp2_with fail
          go_ret
          exact ⟨rfl, HK5.out.fresh HK.out⟩
end Go.Proofs.Ytkjaacpcnjakcaa
