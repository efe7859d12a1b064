/- The walk of the law InnerFits. No condition but that numbers are of their kinds. -/
import Derived.Test.YtjfilleddekcmaaLaw11
set_option linter.unusedVariables false
namespace Go.Proofs.Ytjfilleddekcmaa
open Go.RowKit
attribute [local go_sem ↓] Go.wp_at_zero Go.wp_at_succ
theorem blkN_in {p : Par} (session id : Nat) : ∀ y ∈ blkN p session id, 0 ≤ y ∧ y < p.all := fun y hy => someN_below _ _ _ y hy
theorem blkN_rising {p : Par} (session id : Nat) : (blkN p session id).Pairwise (· < ·) := someN_rising _ _ _
set_option maxHeartbeats 2000000 in
set_option maxRecDepth 20000 in
theorem innerFits_walk (p : Par) (session id : Nat) (w : World) (hp0 : p.wf) (hs : session < 18446744073709551616) (hid64 : id < 18446744073709551616) :
    Calls Try.prog 8 #[p.val, .int .u64 (session : Int), .int .u64 (id : Int)] w fun e w' => e = .returned (.bool true) ∧ Keeps NoB w w' := by
  have hu := Try.underlying50
  unfold Par.val
  go_enter Try.func8, Try.ntmps8
  go_wp2_with fail
  refine (speaks11_calls _).mono ?_
  rintro e w1 ⟨rfl, HK1⟩
  have hbox := hid (HK1.heap (heap_alloc_new w (.cells #[.int .i64 p.n, .int .i64 p.b, .int .i64 p.q, .int .i64 p.eps, .int .i64 p.f] 50)) (fun h => h))
  have HK1 := hid (((Keeps.refl NoB w).alloc _).fresh HK1)
  obtain ⟨pb, hpb⟩ : ∃ pb, pb = w.heap.size := ⟨_, rfl⟩
  rw [← hpb] at hbox ⊢
  clear hpb
  have hSall := hid (show ∀ w', Keeps NoB w1 w' → (w'.cell? ⟨pb, 0, none⟩ = some (.int .i64 p.n) ∧ w'.cell? ⟨pb, 1, none⟩ = some (.int .i64 p.b) ∧ w'.cell? ⟨pb, 2, none⟩ = some (.int .i64 p.q) ∧ w'.cell? ⟨pb, 3, none⟩ = some (.int .i64 p.eps) ∧ w'.cell? ⟨pb, 4, none⟩ = some (.int .i64 p.f)) from fun w' hk => cells5 (hk.heap hbox.out (fun h => h)))
  have HKr := hid (Keeps.refl NoB w1)
  obtain ⟨b0, b1, b2, b3, b4⟩ := hSall.out _ HKr.out
  go_wp2_with fail
  refine (may_calls p _).mono ?_
  rintro e w2 ⟨rfl, HK2⟩
  have HKr := hid (HKr.out.fresh HK2)
  clear b0 b1 b2 b3 b4
  obtain ⟨b0, b1, b2, b3, b4⟩ := hSall.out _ HKr.out
  by_cases hp : p.may
  · have HM := hid hp
    rw [mayB_true hp]
    have hln := blkN_length hp session id
    have hin := hid (blkN_in (p := p) session id)
    have hris := hid (blkN_rising (p := p) session id)
    have hab := auxN_bounds hp
    have hpn : 1 ≤ p.n ∧ p.n ≤ 1048576 := ⟨hp.1, hp.2.1⟩
    have hall := hid (show p.n + auxN p = p.all from rfl)
    clear hp
    go_wp2_with fail
    refine (inew_yes p session _ HM.out).mono ?_
    rintro e w3 ⟨s, rfl, HS, HK3⟩
    have HS := hid HS
    have HKr := hid (HKr.out.fresh HK3)
    go_wp2_with fail
    refine (iblocks_calls p session id s _ HM.out hs hid64 HS.out).mono ?_
    rintro e w4 ⟨v4, rfl, hown4, HK4⟩
    obtain ⟨l, hl⟩ : ∃ l, blkN p session id = l := ⟨_, rfl⟩
    rw [hl] at hown4 hln hin hris
    have HL := hid hl
    obtain ⟨A4, c4, rfl, _, hat4⟩ := hown4.reads
    have hat4 := hid hat4
    have HS := hid (HS.out.kept HK4)
    have HKr := hid (HKr.out.fresh HK4)
    obtain ⟨a, ha⟩ : ∃ a, auxN p = a := ⟨_, rfl⟩
    rw [ha] at hab hall
    rw [← hall.out] at hln hin
    have HA := hid ha
    have hsw : IntKind.i64.wrap (p.n + a) = p.n + a := IntWalk.i64_in _ (by omega)
    clear ha hl hown4
    clear b0 b1 b2 b3 b4
    obtain ⟨b0, b1, b2, b3, b4⟩ := hSall.out _ HKr.out
    go_wp2_with fail
    go_region_held3 (fun w' => w'.cell? ⟨pb, 0, none⟩ = some (.int .i64 p.n) ∧ w'.cell? ⟨pb, 1, none⟩ = some (.int .i64 p.b) ∧ w'.cell? ⟨pb, 2, none⟩ = some (.int .i64 p.q) ∧ w'.cell? ⟨pb, 3, none⟩ = some (.int .i64 p.eps) ∧ w'.cell? ⟨pb, 4, none⟩ = some (.int .i64 p.f)) (first | (exact hSall.out _ HKr.out) | (exact hSall.out _ HKr.out.drew) | go_keep) (first
      | (go_at_call 35; refine (raux_calls p _ HM.out).mono ?_; rintro e w5 ⟨rfl, HK5⟩; rw [HA.out]; have HKr := hid (show Keeps NoB w1 w5 by first | exact HKr.out.fresh HK5 | exact HKr.out.drew.fresh HK5)))
    have HK5d := (Keeps.refl NoB w4).drew.fresh HK5
    have hat4 := hid (hat4.out.kept HK5d)
    have HS := hid (HS.out.kept HK5d)
    clear hsw
    clear b0 b1 b2 b3 b4
    obtain ⟨b0, b1, b2, b3, b4⟩ := hSall.out _ HKr.out
    generalize p.n + a = al at *
    have hlen := hat4.out.len
    go_wp2_with fail
    go_loop [40] (fun v40 => ∃ k : Nat, k ≤ l.length ∧ v40 = .int .i64 (k : Int)) (fun v40 => l.length - (intOf v40).toNat)
    case atStart => exact ⟨0, Nat.zero_le _, rfl⟩
    case round =>
      obtain ⟨k, hk, rfl⟩ := hrel
      by_cases hlt : k < l.length
      · obtain ⟨b, off, rfl, hc⟩ := hat4.out.get (by omega)
        have ck := hc k hlt
        have hx := hin.out (gi l k) (gi_mem _ _ hlt)
        have q0 : (0 : Int) ≤ (k : Int) := by omega
        have q1 : (k : Int) < (l.length : Int) := by omega
        by_cases hk0 : 0 < k
        · have hxy : gi l (k - 1) < gi l k := by
            have := List.pairwise_iff_getElem.1 hris.out (k - 1) k (by omega) hlt (by omega)
            rw [gi_eq _ _ hlt, gi_eq l (k - 1) (by omega)]; exact this
          have cp := hc (k - 1) (by omega)
          generalize gi l (k - 1) = y at *
          generalize gi l k = x at *
          have dq : decide ((0 : Int) < (k : Int)) = true := decide_eq_true (by omega)
          have dx : decide (x ≤ y) = false := decide_eq_false (by omega)
          have dn : decide (x < 0) = false := decide_eq_false (by omega)
          have da : decide (al ≤ x) = false := decide_eq_false (by omega)
          clear hc
          go_wp2_with fail
          go_round
          case rel => exact ⟨k + 1, by omega, by go_num⟩
          case measure => simp [intOf]; omega
        · generalize gi l k = x at *
          have dq : decide ((0 : Int) < (k : Int)) = false := decide_eq_false (by omega)
          have dn : decide (x < 0) = false := decide_eq_false (by omega)
          have da : decide (al ≤ x) = false := decide_eq_false (by omega)
          clear hc
          go_wp2_with fail
          go_round
          case rel => exact ⟨k + 1, by omega, by go_num⟩
          case measure => simp [intOf]; omega
      · obtain rfl : k = l.length := by omega
        have d1 : decide ((1 : Int) ≤ (l.length : Int)) = true := decide_eq_true (by omega)
        have d2 : decide ((l.length : Int) ≤ min p.f al) = true := decide_eq_true (by omega)
        have hsame := hid (show sameN l l = 1 from if_pos rfl)
        go_wp2_with fail
        refine (iblocks_calls p session id s _ HM.out hs hid64 HS.out).mono ?_
        rintro e w6 ⟨v6, rfl, hown6, HK6⟩
        rw [HL.out] at hown6
        obtain ⟨A6, c6, rfl, _, hat6⟩ := hown6.reads
        have hat4 := hid (hat4.out.kept HK6)
        have HKr := hid (HKr.out.fresh HK6)
        go_wp2_with fail
        refine (same_calls l l A4 A6 c4 c6 _ hat4.out hat6).mono ?_
        rintro e w7 ⟨rfl, HK7⟩
        rw [hsame.out]
        go_wp2_with fail
        go_ret
        exact ⟨rfl, HK1.out.fresh (HKr.out.fresh HK7)⟩
  · rw [mayB_false hp]
    go_wp2_with fail
    go_ret
    exact ⟨rfl, HK1.out.fresh HKr.out⟩
end Go.Proofs.Ytjfilleddekcmaa
