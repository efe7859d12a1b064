/- Any blocks, any of them put upon each other: the walk of the law ComposeChecks. Conditions: numbers are of their kinds. -/
import Derived.Test.YtjfilleddekcmaaSpeaks13
import Derived.Test.YtjfilleddekcmaaChecksMath
import Derived.Test.YtjfilleddekcmaaRowsRow
import Derived.BigQuiet
set_option linter.unusedVariables false
namespace Go.Proofs.Ytjfilleddekcmaa
open Go.RowKit
attribute [local go_sem ↓] Go.wp_at_zero Go.wp_at_succ

set_option maxHeartbeats 2000000 in
set_option maxRecDepth 20000 in
theorem composeChecks_walk (n : Int) (ls : List (List UInt8)) (is : List Int) (A : Option Addr) (c : Nat) (A2 : Option Addr) (c2 : Nat) (w : World) (hn0 : -9223372036854775808 ≤ n) (hn1 : n ≤ 9223372036854775807) (hb : RowsIn (fun _ => True) w A ls) (hi : IntsAt w .i64 A2 is) :
    Calls Try.prog 12 #[.int .i64 n, .slice A ls.length c, .slice A2 is.length c2] w fun e w' => e = .returned (.bool true) ∧ Keeps NoB w w' := by
  have HB := hid hb
  have HI := hid hi
  have hl1 := hb.len
  have hl2 := hi.1
  obtain ⟨m, hm⟩ : ∃ m, ls.length = m := ⟨_, rfl⟩
  obtain ⟨l, hl⟩ : ∃ l, is.length = l := ⟨_, rfl⟩
  have HM := hid hm
  have HL := hid hl
  rw [hm, hl]
  rw [hm] at hl1
  rw [hl] at hl2
  clear hb hi hm hl
  by_cases h1 : 100 < n
  · have d1 : decide ((100 : Int) < n) = true := decide_eq_true h1
    clear h1
    go_enter Try.func12, Try.ntmps12
    go_wp2_with fail
    refine (speaks13_calls _).mono ?_
    rintro e w1 ⟨rfl, HK1⟩
    have HK1 := hid HK1
    go_wp2_with fail
    go_ret
    exact ⟨rfl, HK1.out⟩
  have d1 : decide ((100 : Int) < n) = false := decide_eq_false h1
  by_cases h2 : 60 < m
  · have d2 : decide ((60 : Int) < (m : Int)) = true := decide_eq_true (by omega)
    have d2n : decide (60 < m) = true := decide_eq_true h2
    clear h1 h2
    go_enter Try.func12, Try.ntmps12
    go_wp2_with fail
    refine (speaks13_calls _).mono ?_
    rintro e w1 ⟨rfl, HK1⟩
    have HK1 := hid HK1
    go_wp2_with fail
    go_ret
    exact ⟨rfl, HK1.out⟩
  have d2 : decide ((60 : Int) < (m : Int)) = false := decide_eq_false (by omega)
  have d2n : decide (60 < m) = false := decide_eq_false h2
  by_cases h3 : 100 < l
  · have d3 : decide ((100 : Int) < (l : Int)) = true := decide_eq_true (by omega)
    have d3n : decide (100 < l) = true := decide_eq_true h3
    clear h1 h2 h3
    go_enter Try.func12, Try.ntmps12
    go_wp2_with fail
    refine (speaks13_calls _).mono ?_
    rintro e w1 ⟨rfl, HK1⟩
    have HK1 := hid HK1
    go_wp2_with fail
    go_ret
    exact ⟨rfl, HK1.out⟩
  have d3 : decide ((100 : Int) < (l : Int)) = false := decide_eq_false (by omega)
  have d3n : decide (100 < l) = false := decide_eq_false h3
  have hz : Hid ((decide (0 ≤ n)) = checkB n ls (is.take 0)) := hid (by simp [checkB])
  have hst := hid (fun k (hk : k < is.length) => (congrArg (checkB n ls) (take_gi is k hk)).trans (checkB_snoc n ls (is.take k) _))
  have hfull := hid (show is.take l = is by rw [← HL.out, List.take_length])
  have hbad := hid (fun (w' : World) (hk : Keeps NoB w w') (hx : checkB n ls is = false) => check_bad n ls is A c A2 c2 _ w' hn0 (by omega) (HB.out.kept hk) (HI.out.kept hk) (by rw [HL.out]; omega) hx)
  have hgood := hid (fun (w' : World) (hk : Keeps NoB w w') (hx : checkB n ls is = true) => check_good n ls is A c A2 c2 _ w' (by omega) (HB.out.kept hk) (HI.out.kept hk) (by rw [HL.out]; omega) hx)
  rw [HM.out, HL.out] at hbad hgood
  go_enter Try.func12, Try.ntmps12
  go_wp2_with fail
  refine (speaks13_calls _).mono ?_
  rintro e w1 ⟨rfl, HK1⟩
  have HK1 := hid HK1
  go_wp2_with fail
  go_loopw [7, 30] (fun v7 v30 wr => ∃ k : Nat, k ≤ l ∧ v30 = .int .i64 (k : Int) ∧ v7 = .bool (checkB n ls (is.take k)) ∧ Hid (Keeps NoB w wr)) (fun _ v30 _ => l - (intOf v30).toNat)
  case atStart => exact ⟨0, Nat.zero_le _, rfl, by rw [← hz.out], HK1⟩
  case round =>
    obtain ⟨k, hk, rfl, rfl, HK⟩ := hrel
    by_cases hlt : k < l
    · obtain ⟨gb2, go2, rfl, hc2⟩ := (HI.out.kept HK.out).get (by rw [HL.out]; omega)
      have q2 := hc2 k (by rw [HL.out]; exact hlt)
      have hs := hst.out k (by rw [HL.out]; exact hlt)
      have q0 : (0 : Int) ≤ (k : Int) := by omega
      have q1 : (k : Int) < (l : Int) := by omega
      generalize gi is k = i at *
      clear hc2
      cases hx : checkB n ls (is.take k)
      · have hs2 := hid (show checkB n ls (is.take (k + 1)) = false by rw [hs, hx]; rfl)
        clear hs hx
        go_wp2_with fail
        go_roundw
        case rel => exact ⟨k + 1, by omega, by go_num, by rw [hs2.out], HK⟩
        case measure => simp [intOf]; omega
      · by_cases i0 : 0 ≤ i
        · have di : decide (0 ≤ i) = true := decide_eq_true i0
          by_cases i1 : i < (m : Int)
          · have dj : decide (i < (m : Int)) = true := decide_eq_true i1
            obtain ⟨gb1, go1, rfl, _, hc1⟩ := (HB.out.kept HK.out).2 (by rw [HM.out]; omega)
            obtain ⟨t, ht⟩ : ∃ t : Nat, i = (t : Int) := ⟨i.toNat, by omega⟩
            subst ht
            obtain ⟨u1, k1, B1, e1, rfl, _, _, r1⟩ := hc1 t (by rw [HM.out]; omega)
            have dtn : decide (t < m) = true := decide_eq_true (by omega)
            have ok1 := show okAt n ls (t : Int) = decide (((gr ls t).length : Int) = n) by
              unfold okAt; rw [HM.out, di, dj]; simp
            rw [hx, ok1] at hs
            generalize hg : (gr ls t).length = g at *
            by_cases hgn : (g : Int) = n
            · have dg : ((g : Int) == n) = true := by simpa using hgn
              have hs2 := hid (show checkB n ls (is.take (k + 1)) = true by rw [hs]; simpa using hgn)
              clear hs hx hgn ok1 hc1 r1 hg
              go_wp2_with fail
              go_roundw
              case rel => exact ⟨k + 1, by omega, by go_num, by rw [hs2.out], HK⟩
              case measure => simp [intOf]; omega
            · have dg : ((g : Int) == n) = false := by simpa using hgn
              have hs2 := hid (show checkB n ls (is.take (k + 1)) = false by rw [hs]; simpa using hgn)
              clear hs hx hgn ok1 hc1 r1 hg
              go_wp2_with fail
              go_roundw
              case rel => exact ⟨k + 1, by omega, by go_num, by rw [hs2.out], HK⟩
              case measure => simp [intOf]; omega
          · have dj : decide (i < (m : Int)) = false := decide_eq_false i1
            have hs2 := hid (show checkB n ls (is.take (k + 1)) = false by rw [hs]; unfold okAt; rw [HM.out, dj]; simp)
            clear hs hx i1
            go_wp2_with fail
            go_roundw
            case rel => exact ⟨k + 1, by omega, by go_num, by rw [hs2.out], HK⟩
            case measure => simp [intOf]; omega
        · have di : decide (0 ≤ i) = false := decide_eq_false i0
          have hs2 := hid (show checkB n ls (is.take (k + 1)) = false by rw [hs]; unfold okAt; rw [di]; simp)
          clear hs hx i0
          go_wp2_with fail
          go_roundw
          case rel => exact ⟨k + 1, by omega, by go_num, by rw [hs2.out], HK⟩
          case measure => simp [intOf]; omega
    · obtain rfl : k = l := by omega
      rw [hfull.out]
      cases hx : checkB n ls is
      · have hbc := hid (hbad.out _ HK.out hx)
        clear hx
        go_wp2_with fail
        refine hbc.out.mono ?_
        rintro e w3 ⟨rfl, HK3⟩
        have HK3 := hid (HK.out.fresh HK3)
        go_wp2_with fail
        go_ret
        exact ⟨rfl, HK3.out⟩
      · obtain ⟨hn', hin, _, hfit⟩ := checkB_yes hx
        have hbc := hid (hgood.out _ HK.out hx)
        have hpk := hid (fun (w' : World) (hk : Keeps NoB w w') => rpick_calls ls is A c A2 c2 _ w' (HB.out.kept hk) (HI.out.kept hk) hin (by rw [HL.out]; omega))
        obtain ⟨N, hN⟩ : ∃ N : Nat, n = (N : Int) := ⟨n.toNat, by omega⟩
        subst hN
        have hsm := hid (fun (w' : World) (V : Option Addr) (cv : Nat) (R : Nat → Prop) (h : RowsIn R w' V (pickR ls is)) => rsum_calls N (pickR ls is) V cv R w' (by omega) h (by simpa using hfit))
        rw [Int.toNat_natCast] at hbc
        rw [HM.out, HL.out] at hpk
        have hpl := pickR_length ls is
        rw [HL.out] at hpl
        rw [hpl] at hsm
        have HPL := hid hpl
        generalize pickR ls is = P at *
        generalize sumB N P = sm at *
        clear hx hfit hin hpl hst hz hfull hbad hgood
        go_wp2_with fail
        refine hbc.out.mono ?_
        rintro e w3 ⟨v3, rfl, hown3, HK3⟩
        obtain ⟨A3, c3, rfl, _, _, hb3⟩ := hown3.reads
        have HB3 := hid hb3
        have HK3 := hid (HK.out.fresh HK3)
        have f1 := conv_run 27 9 Try.underlying27 Try.underlying9 (hb3.kept (Keeps.refl NoB w3).drew) c3
        clear hown3 hb3
        go_wp2_with fail
        have hcv := hid (fun (w' : World) (hk : Keeps NoB w3 w') => conv_run 27 9 Try.underlying27 Try.underlying9 (HB3.out.kept hk) c3)
        go_region_with (first
          | (go_at_call 44; refine (hpk.out _ HK3.out.drew).mono ?_; rintro e w6 ⟨v6, rfl, hown6, HK6⟩; obtain ⟨A6, c6, hv6, _, _, hb6⟩ := hown6.reads; rw [HPL.out] at hv6; subst hv6; have HK36 := hid ((Keeps.refl NoB w3).drew.fresh HK6); have HK6 := hid (HK3.out.drew.fresh HK6); have f2 := hcv.out _ HK36.out; have HB6 := hid hb6; clear hown6 hb6)
          | (go_at_call 22; refine (hsm.out _ A6 c6 _ HB6.out).mono ?_; rintro e w7 ⟨v7, rfl, hown7, HK7⟩; obtain ⟨A7, c7, rfl, _, _, hb7⟩ := hown7.reads; have f3 := hcv.out _ (HK36.out.fresh HK7); have f4 := conv_run 27 9 Try.underlying27 Try.underlying9 hb7 c7; have HK7 := hid (HK6.out.fresh HK7); clear hown7 hb7))
        all_goals go_wp2_with fail
        all_goals go_ret
        all_goals exact ⟨rfl, HK7.out⟩
end Go.Proofs.Ytjfilleddekcmaa
