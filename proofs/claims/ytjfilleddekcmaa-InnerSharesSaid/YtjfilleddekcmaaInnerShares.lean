/- The walk of the law InnerShares. No condition but that numbers are of their kinds. -/
import Derived.Test.YtjfilleddekcmaaLaw11
import Derived.Test.YtjfilleddekcmaaSharesMath
set_option linter.unusedVariables false
namespace Go.Proofs.Ytjfilleddekcmaa
open Go.RowKit
attribute [local go_sem ↓] Go.wp_at_zero Go.wp_at_succ
def par50 : Par := ⟨50, 1, 1, 1000, 2⟩
theorem par50_may : par50.may := by decide
theorem par50_all : par50.all = 78 := by decide
theorem deg50 (u : Nat) : degP par50 u = if u < 4611686018427387904 then 1 else 2 := by
  have e : degN 2 1000 1 = 4611686018427387904 := by
    unfold degN
    rw [shareN_def]
    decide
  unfold degP degreeN
  show 1 + (List.range 1).countP (fun i => !decide (u < degN 2 1000 (i + 1))) = _
  rw [List.range_one, List.countP_singleton]
  show 1 + (if (!decide (u < degN 2 1000 1)) = true then 1 else 0) = _
  rw [e]
  by_cases h : u < 4611686018427387904 <;> simp [h]
theorem len50 (seed id : Nat) : ((blkN par50 seed id).length = 1 ∧ oneD (seedD (seedD 0 seed) 2) id = 1) ∨ ((blkN par50 seed id).length = 2 ∧ oneD (seedD (seedD 0 seed) 2) id = 0) := by
  have hu := nxV_lt (seedN [seed, 2, id])
  unfold blkN oneD
  rw [someN_length, deg50, par50_all, nvD_eq, seedD_eq] at *
  generalize mixR (nxD (seedD (seedD (seedD 0 seed) 2) id)) = u at *
  by_cases h : u < 4611686018427387904
  · left
    rw [if_pos h]
    exact ⟨rfl, by rw [Nat.div_eq_of_lt h]⟩
  · right
    rw [if_neg h]
    refine ⟨rfl, ?_⟩
    have : 1 ≤ u / 4611686018427387904 := (Nat.le_div_iff_mul_le (by omega)).2 (by omega)
    omega
set_option maxHeartbeats 2000000 in
set_option maxRecDepth 20000 in
theorem innerShares_walk (seed : Nat) (w : World) (hs : seed < 18446744073709551616) :
    Calls Try.prog 9 #[.int .u64 (seed : Int)] w fun e w' => e = .returned (.bool true) ∧ Keeps NoB w w' := by
  have hu := Try.underlying50
  obtain ⟨sd, hsd⟩ : ∃ sd, seed % 64 = sd := ⟨_, rfl⟩
  have hsd64 : sd < 64 := by omega
  have hrem : (seed : Int) % 64 = (sd : Int) := by omega
  have hok := shares_ok sd hsd64
  have hlen := hid (len50 sd)
  have hstep := hid (fun k => show sumD (seedD (seedD 0 sd) 2) 0 (k + 1) = sumD (seedD (seedD 0 sd) 2) 0 k + oneD (seedD (seedD 0 sd) 2) (0 + k) from rfl)
  have hz := hid (show sumD (seedD (seedD 0 sd) 2) 0 0 = 0 from rfl)
  have hsd2 := hid hsd
  clear hsd
  generalize hss : sumD (seedD (seedD 0 sd) 2) 0 = sm at *
  generalize hoo : oneD (seedD (seedD 0 sd) 2) = on at *
  clear hss hoo
  have hbd := hid (show ∀ k, sm k ≤ k from fun k => by
    induction k with
    | zero => rw [hz.out]; exact Nat.le_refl _
    | succ k ih =>
      have h1 := hstep.out k
      rcases hlen.out (0 + k) with ⟨_, h⟩ | ⟨_, h⟩ <;> omega)
  have HOK := hid hok
  clear hok
  have hbx := hid (heap_alloc_new w (.cells #[.int .i64 0, .int .i64 0, .int .i64 0, .int .i64 0, .int .i64 0] 50))
  go_enter Try.func9, Try.ntmps9
  go_wp2_with fail
  refine (speaks11_calls _).mono ?_
  rintro e w1 ⟨rfl, HK1⟩
  have HK1 := hid HK1
  go_wp2_with fail
  refine (inew_yes par50 sd _ par50_may).mono ?_
  rintro e w2 ⟨s, rfl, HS, HK2⟩
  have HS := hid HS
  have HK2 := hid ((HK1.out.alloc _).fresh HK2)
  go_wp2_with fail
  go_loopw [6, 24] (fun v6 v24 wr => ∃ k : Nat, k ≤ 4000 ∧ v24 = .int .u64 (k : Int) ∧ v6 = .int .i64 (sm k : Nat) ∧ Hid (Keeps NoB w2 wr)) (fun _ v24 _ => 4000 - (intOf v24).toNat)
  case atStart => exact ⟨0, by omega, rfl, by rw [hz.out]; rfl, Keeps.refl _ _⟩
  case round =>
    obtain ⟨k, hk, rfl, rfl, HKr⟩ := hrel
    have hbk := hbd.out k
    by_cases hlt : k < 4000
    · have hsk := hstep.out k
      rw [Nat.zero_add] at hsk
      have HSK := hid hsk
      have hlk := hlen.out k
      obtain ⟨l, hl⟩ : ∃ l, blkN par50 sd k = l := ⟨_, rfl⟩
      rw [hl] at hlk
      have HL := hid hl
      clear hl hsk
      generalize hgs : sm k = S at *
      have hgs := hid hgs
      go_wp2_with fail
      refine (iblocks_calls par50 sd k s _ par50_may (by omega) (by omega) (HS.out.kept HKr.out)).mono ?_
      rintro e w3 ⟨v, rfl, hown, HK3⟩
      rw [HL.out] at hown
      obtain ⟨A, c, rfl, _, _⟩ := hown.reads
      have HKr := hid (HKr.out.fresh HK3)
      clear hown
      rcases hlk with ⟨h1, h2⟩ | ⟨h1, h2⟩
      · have d1 : (((l.length : Nat) : Int) == 1) = true := by rw [h1]; rfl
        have h2 := hid h2
        clear h1
        go_wp2_with fail
        go_roundw
        case rel => exact ⟨k + 1, by omega, by go_num, by rw [HSK.out, h2.out]; go_num, HKr⟩
        case measure => simp [intOf]; omega
      · have d1 : (((l.length : Nat) : Int) == 1) = false := by rw [h1]; rfl
        have h2 := hid h2
        clear h1
        go_wp2_with fail
        go_roundw
        case rel => exact ⟨k + 1, by omega, by go_num, by rw [HSK.out, h2.out]; rfl, HKr⟩
        case measure => simp [intOf]; omega
    · obtain rfl : k = 4000 := by omega
      have ho := HOK.out
      generalize sm 4000 = S at *
      have d1 : decide ((700 : Int) < (S : Int)) = true := decide_eq_true (by omega)
      have d2 : decide ((S : Int) < 1300) = true := decide_eq_true (by omega)
      go_wp2_with fail
      go_ret
      exact ⟨rfl, HK2.out.fresh HKr.out⟩
end Go.Proofs.Ytjfilleddekcmaa
