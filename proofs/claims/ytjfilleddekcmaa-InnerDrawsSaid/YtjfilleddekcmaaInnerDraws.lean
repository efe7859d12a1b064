/- The walk of the law InnerDraws. No condition but that numbers are of their kinds. -/
import Derived.Test.YtjfilleddekcmaaLaw11
set_option linter.unusedVariables false
namespace Go.Proofs.Ytjfilleddekcmaa
open Go.RowKit
attribute [local go_sem ↓] Go.wp_at_zero Go.wp_at_succ
set_option maxHeartbeats 2000000 in
set_option maxRecDepth 20000 in
theorem innerDraws_walk (p : Par) (session : Nat) (ids : List Nat) (A : Option Addr) (c : Nat) (w : World) (hp0 : p.wf) (hs : session < 18446744073709551616) (hids : NatsAt w A ids) :
    Calls Try.prog 7 #[p.val, .int .u64 (session : Int), .slice A ids.length c] w fun e w' => e = .returned (.bool true) ∧ Keeps NoB w w' := by
  have HI := hid hids
  have hf1 := hp0.2.2.2.2
  have hlen := hids.1.len
  rw [List.length_map] at hlen
  clear hids
  have hu := Try.underlying50
  unfold Par.val
  go_enter Try.func7, Try.ntmps7
  go_wp2_with fail
  refine (speaks11_calls _).mono ?_
  rintro e w1 ⟨rfl, HK1⟩
  have hbox := hid (HK1.heap (heap_alloc_new w (.cells #[.int .i64 p.n, .int .i64 p.b, .int .i64 p.q, .int .i64 p.eps, .int .i64 p.f] 50)) (fun h => h))
  have HK1 := hid (((Keeps.refl NoB w).alloc _).fresh HK1)
  obtain ⟨pb, hpb⟩ : ∃ pb, pb = w.heap.size := ⟨_, rfl⟩
  rw [← hpb] at hbox ⊢
  clear hpb
  have hSall := hid (show ∀ w', Keeps NoB w1 w' → (w'.cell? ⟨pb, 0, none⟩ = some (.int .i64 p.n) ∧ w'.cell? ⟨pb, 1, none⟩ = some (.int .i64 p.b) ∧ w'.cell? ⟨pb, 2, none⟩ = some (.int .i64 p.q) ∧ w'.cell? ⟨pb, 3, none⟩ = some (.int .i64 p.eps) ∧ w'.cell? ⟨pb, 4, none⟩ = some (.int .i64 p.f)) from fun w' hk => cells5 (hk.heap hbox.out (fun h => h)))
  have HKr := hid (Keeps.refl NoB w1)
  obtain ⟨b0, b1, b2, b3, b4⟩ := hSall.out _ HKr.out
  by_cases h50 : 50 < ids.length
  · have d0 : decide (50 < ids.length) = true := decide_eq_true h50
    have d0' : decide ((50 : Int) < (ids.length : Int)) = true := decide_eq_true (by omega)
    go_wp2_with fail
    go_ret
    exact ⟨rfl, HK1.out⟩
  have d0 : decide (50 < ids.length) = false := decide_eq_false h50
  have d0' : decide ((50 : Int) < (ids.length : Int)) = false := decide_eq_false (by omega)
  by_cases hF : 200 < p.f ∧ p.f ≤ 4096
  · obtain ⟨hF1, hF2⟩ := hF
    have d1 : decide ((200 : Int) < p.f) = true := decide_eq_true hF1
    have d2 : decide (p.f ≤ 4096) = true := decide_eq_true hF2
    go_wp2_with fail
    go_ret
    exact ⟨rfl, HK1.out⟩
  by_cases hp : p.may
  · have HM := hid hp
    have hmb := hid (mayB_true hp)
    have hF1 : p.f ≤ 200 := by unfold Par.may at hp; omega
    have d1 : decide ((200 : Int) < p.f) = false := decide_eq_false (by omega)
    clear hp hF
    go_wp2_with fail
    refine (inew_yes p session _ HM.out).mono ?_
    rintro e w2 ⟨s, rfl, HS, HK2⟩
    have HS := hid HS
    have HKr := hid (HKr.out.fresh HK2)
    clear b0 b1 b2 b3 b4
    obtain ⟨b0, b1, b2, b3, b4⟩ := hSall.out _ HKr.out
    go_wp2_with fail
    refine (may_calls p _).mono ?_
    rintro e w3 ⟨rfl, HK3⟩
    rw [hmb.out]
    have HS := hid (HS.out.kept HK3)
    have HKr := hid (HKr.out.fresh HK3)
    have hSb := hid (show ∀ w', Keeps NoB w3 w' → (w'.cell? ⟨pb, 0, none⟩ = some (.int .i64 p.n) ∧ w'.cell? ⟨pb, 1, none⟩ = some (.int .i64 p.b) ∧ w'.cell? ⟨pb, 2, none⟩ = some (.int .i64 p.q) ∧ w'.cell? ⟨pb, 3, none⟩ = some (.int .i64 p.eps) ∧ w'.cell? ⟨pb, 4, none⟩ = some (.int .i64 p.f)) from fun w' hk => hSall.out w' (HKr.out.fresh hk))
    have HI := hid (show IntsAt w3 .u64 A (ids.map (fun n : Nat => (n : Int))) ∧ ∀ x ∈ ids, x < 18446744073709551616 from ⟨HI.out.1.kept (HK1.out.fresh HKr.out), HI.out.2⟩)
    have HK1 := hid (HK1.out.fresh HKr.out)
    clear hSall HKr b0 b1 b2 b3 b4
    have hSall := hSb
    clear hSb
    go_wp2_with fail
    go_loopw [49] (fun v49 wr => ∃ k : Nat, k ≤ ids.length ∧ v49 = .int .i64 (k : Int) ∧ Hid (Keeps NoB w3 wr)) (fun v49 _ => ids.length - (intOf v49).toNat)
    case atStart => exact ⟨0, Nat.zero_le _, rfl, Keeps.refl _ _⟩
    case round =>
      obtain ⟨k, hk, rfl, HKr⟩ := hrel
      by_cases hlt : k < ids.length
      · obtain ⟨b, off, rfl, hc⟩ := HI.out.1.get (by rw [List.length_map]; omega)
        have hck := HKr.out.cell (hc k (by rw [List.length_map]; exact hlt)) (fun h => h)
        rw [gi_map ids k hlt] at hck
        have hid64 := HI.out.2 (ids.getD k 0) (getD_mem ids 0 hlt)
        generalize ids.getD k 0 = id at *
        obtain ⟨l, hl⟩ : ∃ l, blkN p session id = l := ⟨_, rfl⟩
        have HL := hid hl
        have hsame := hid (show sameN l l = 1 from if_pos rfl)
        have q0 : (0 : Int) ≤ (k : Int) := by omega
        have q1 : (k : Int) < (ids.length : Int) := by omega
        clear hc hl
        obtain ⟨b0, b1, b2, b3, b4⟩ := hSall.out _ HKr.out
        go_wp2_with fail
        go_region_held3 (fun w' => w'.cell? ⟨pb, 0, none⟩ = some (.int .i64 p.n) ∧ w'.cell? ⟨pb, 1, none⟩ = some (.int .i64 p.b) ∧ w'.cell? ⟨pb, 2, none⟩ = some (.int .i64 p.q) ∧ w'.cell? ⟨pb, 3, none⟩ = some (.int .i64 p.eps) ∧ w'.cell? ⟨pb, 4, none⟩ = some (.int .i64 p.f)) (first | (exact hSall.out _ HKr.out) | (exact hSall.out _ HKr.out.drew) | go_keep) (first
          | (go_at_call 33; refine (iblocks_calls p session id s _ HM.out hs hid64 (by first | exact HS.out.kept HKr.out | exact HS.out.kept HKr.out.drew)).mono ?_; rintro e w7 ⟨v7, rfl, hown7, HK7⟩; rw [HL.out] at hown7; obtain ⟨A7, c7, rfl, _, hat7⟩ := hown7.reads; have HKr := hid (show Keeps NoB w3 w7 by first | exact HKr.out.fresh HK7 | exact HKr.out.drew.fresh HK7))
          | (go_at_call 34; refine (rblocks_calls p session id _ HM.out hs hid64).mono ?_; rintro e w8 ⟨A8, c8, rfl, hat8, HK8⟩; rw [HL.out] at hat8 ⊢; have hat7 := hat7.kept HK8; have HKr := hid (show Keeps NoB w3 w8 by first | exact HKr.out.fresh HK8 | exact HKr.out.drew.fresh HK8))
          | (go_at_call 20; refine (same_calls l l A7 A8 c7 c8 _ hat7 hat8).mono ?_; rintro e w9 ⟨rfl, HK9⟩; rw [hsame.out]; have HKr := hid (show Keeps NoB w3 w9 by first | exact HKr.out.fresh HK9 | exact HKr.out.drew.fresh HK9)))
        all_goals go_wp2_with fail
        all_goals go_roundw
        case rel => exact ⟨k + 1, by omega, by go_num, HKr⟩
        case measure => simp [intOf]; omega
      · have d3 : decide ((k : Int) < (ids.length : Int)) = false := decide_eq_false (by omega)
        go_wp2_with fail
        go_ret
        exact ⟨rfl, HK1.out.fresh HKr.out⟩
  · have HM := hid hp
    have hmb := hid (mayB_false hp)
    clear hp
    by_cases hF1 : 200 < p.f
    · have d1 : decide ((200 : Int) < p.f) = true := decide_eq_true hF1
      have d2 : decide (p.f ≤ 4096) = false := decide_eq_false (by omega)
      clear hF
      go_wp2_with fail
      refine (inew_no p session _ HM.out).mono ?_
      rintro e w2 ⟨rfl, HK2⟩
      have HKr := hid (HKr.out.fresh HK2)
      clear b0 b1 b2 b3 b4
      obtain ⟨b0, b1, b2, b3, b4⟩ := hSall.out _ HKr.out
      go_wp2_with fail
      refine (may_calls p _).mono ?_
      rintro e w3 ⟨rfl, HK3⟩
      rw [hmb.out]
      go_wp2_with fail
      go_ret
      exact ⟨rfl, HK1.out.fresh (HKr.out.fresh HK3)⟩
    · have d1 : decide ((200 : Int) < p.f) = false := decide_eq_false hF1
      clear hF
      go_wp2_with fail
      refine (inew_no p session _ HM.out).mono ?_
      rintro e w2 ⟨rfl, HK2⟩
      have HKr := hid (HKr.out.fresh HK2)
      clear b0 b1 b2 b3 b4
      obtain ⟨b0, b1, b2, b3, b4⟩ := hSall.out _ HKr.out
      go_wp2_with fail
      refine (may_calls p _).mono ?_
      rintro e w3 ⟨rfl, HK3⟩
      rw [hmb.out]
      go_wp2_with fail
      go_ret
      exact ⟨rfl, HK1.out.fresh (HKr.out.fresh HK3)⟩
end Go.Proofs.Ytjfilleddekcmaa
