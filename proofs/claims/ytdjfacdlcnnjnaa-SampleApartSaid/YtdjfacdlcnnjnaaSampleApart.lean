/- The walk of the law SampleApart: it returns true and writes nothing that was there. No condition but that the numbers are of their kinds. -/
import Derived.Test.YtdjfacdlcnnjnaaLaw09
set_option linter.unusedVariables false
namespace Go.Proofs.Ytdjfacdlcnnjnaa
open Go.RowKit
theorem max_cnt (below many : Int) : max (min many below) 0 = ((cntN below many : Nat) : Int) := by unfold cntN; split <;> omega
set_option maxHeartbeats 800000 in
set_option maxRecDepth 20000 in
theorem sampleApart_walk (xs : List Nat) (A : Option Addr) (cap : Nat) (below many x : Int) (w : World) (h : NatsAt w A xs) (hb : -9223372036854775808 ≤ below) (hm0 : -9223372036854775808 ≤ many) (hm1 : many ≤ 9223372036854775807) :
    Calls Try.prog 7 #[.agg #[.slice A xs.length cap, .int .i64 below, .int .i64 many, .int .i64 x]] w fun e w' => e = .returned (.bool true) ∧ Keeps NoB w w' := by
  have hlen := h.1.len
  rw [List.length_map] at hlen
  have H := hid h
  clear h
  go_enter Try.func7, Try.ntmps7
  go_wp2_with fail
  refine (speaks09_calls _).mono ?_
  rintro e w1 ⟨rfl, HK1⟩
  have hb0 := HK1.heap (heap_alloc_new w (.cells #[.slice A xs.length cap, .int .i64 below, .int .i64 many, .int .i64 x] 62)) (fun h => h)
  have HK1 := hid (((Keeps.refl NoB w).alloc _).fresh HK1)
  have c0 : w1.cell? ⟨w.heap.size, 0, none⟩ = some (.slice A xs.length cap) := by simp [World.cell?, hb0]
  have c1 : w1.cell? ⟨w.heap.size, 1, none⟩ = some (.int .i64 below) := by simp [World.cell?, hb0]
  have c2 : w1.cell? ⟨w.heap.size, 2, none⟩ = some (.int .i64 many) := by simp [World.cell?, hb0]
  have c3 : w1.cell? ⟨w.heap.size, 3, none⟩ = some (.int .i64 x) := by simp [World.cell?, hb0]
  clear hb0
  by_cases h1 : 50 < xs.length
  · have hd : decide ((50 : Int) < (xs.length : Int)) = true := by simp; omega
    go_wp2_with fail
    go_quiet (fail)
    go_wp2_with fail
    go_ret
    exact ⟨rfl, HK1.out.drewN _⟩
  · have hd : decide ((50 : Int) < (xs.length : Int)) = false := by simp; omega
    by_cases h2 : 2000 < below
    · have hd2 : decide ((2000 : Int) < below) = true := by simp; omega
      go_wp2_with fail
      go_quiet (fail)
      go_wp2_with fail
      go_ret
      exact ⟨rfl, HK1.out.drewN _⟩
    · have hd2 : decide ((2000 : Int) < below) = false := by simp; omega
      go_wp2_with fail
      go_quiet (fail)
      clear c0 c1 c2 c3
      go_wp2_with fail
      have HK1 := hid (HK1.out.drewN nq)
      refine (new_calls xs A cap _ ⟨H.out.1.kept HK1.out, H.out.2⟩).mono ?_
      rintro e w2 ⟨g, rfl, hg, hr2, HK2⟩
      have hg := hid (Nat.le_trans HK1.out.size hg)
      have hr2 := hid hr2
      have HK2 := hid (HK1.out.fresh HK2)
      go_wp2_with fail
      refine (some_calls g (seedN xs) below many _ hr2.out (by omega) hb hm0 hm1).mono ?_
      rintro e w3 ⟨v3, rfl, hown3, hr3, HK3⟩
      obtain ⟨A3, c3, rfl, hc3, hat3⟩ := hown3.reads
      have hat3 := hid hat3
      have HK3 := hid (HK2.out.then HK3 (fun i (e : i = g) hi => by have := hg.out; omega))
      clear hown3
      have hL := hid (someN_length (seedN xs) below many)
      have hcn := cnt_le below many
      have hlm := hid (show max (min many below) 0 = (((someN (seedN xs) below many).length : Nat) : Int) by rw [max_cnt, hL.out])
      have hS := hid (someN_sorted (seedN xs) below many)
      have hR := hid (someN_rising (seedN xs) below many)
      have hB := hid (someN_below (seedN xs) below many)
      have hln : (someN (seedN xs) below many).length ≤ 2000 := by rw [hL.out]; omega
      generalize someN (seedN xs) below many = l at *
      have hne : ((l.length : Int) != max (min many below) 0) = false := by rw [hlm.out]; simp
      go_wp2_with fail
      go_loopw [41] (fun v wr => ∃ k : Nat, k ≤ l.length ∧ v = .int .i64 k ∧ Hid (Keeps NoB w3 wr)) (fun v _ => l.length - (intOf v).toNat)
      case atStart => exact ⟨0, Nat.zero_le _, rfl, Keeps.refl _ _⟩
      case round =>
        obtain ⟨k, hk, rfl, HK⟩ := hrel
        by_cases hlt : k < l.length
        · obtain ⟨b, off, rfl, hh⟩ := hat3.out.get (by omega)
          have c1 : wr.cell? ⟨b, off + k, none⟩ = some (.int .i64 (gi l k)) := HK.out.cell (hh k hlt) (fun h => h)
          have hrng := hB.out (gi l k) (gi_mem l k hlt)
          have d1 : decide (gi l k < 0) = false := decide_eq_false (by omega)
          have d2 : decide (below ≤ gi l k) = false := decide_eq_false (by omega)
          cases k with
          | zero =>
            have c1' : wr.cell? ⟨b, off, none⟩ = some (.int .i64 (gi l 0)) := c1
            clear hh c1
            go_wp2_with fail
            refine (shas_calls l (gi l 0) _ c3 _ (hat3.out.kept HK.out) hS.out (by omega)).mono ?_
            rintro e w4 ⟨rfl, HK4⟩
            have HK4 := hid (HK.out.fresh HK4)
            rw [decide_eq_true (gi_mem l 0 hlt)]
            go_wp2_with fail
            go_roundw
            case rel => exact ⟨1, by omega, by go_num, HK4.out⟩
            case measure => simp [intOf]; omega

          | succ k =>
            have c2 : wr.cell? ⟨b, off + k, none⟩ = some (.int .i64 (gi l k)) := HK.out.cell (hh k (by omega)) (fun h => h)
            have hlt2 : gi l k < gi l (k + 1) := by
              rw [gi_eq l k (by omega), gi_eq l (k + 1) hlt]
              exact List.pairwise_iff_getElem.1 hR.out k (k + 1) (by omega) hlt (by omega)
            have d3 : decide (gi l (k + 1) ≤ gi l k) = false := decide_eq_false (by omega)
            clear hh
            go_wp2_with fail
            refine (shas_calls l (gi l (k + 1)) _ c3 _ (hat3.out.kept HK.out) hS.out (by omega)).mono ?_
            rintro e w4 ⟨rfl, HK4⟩
            have HK4 := hid (HK.out.fresh HK4)
            rw [decide_eq_true (gi_mem l (k + 1) hlt)]
            go_wp2_with fail
            go_roundw
            case rel => exact ⟨k + 1 + 1, by omega, by go_num, HK4.out⟩
            case measure => simp [intOf]; omega

        · obtain rfl : k = l.length := by omega
          go_wp2_with fail
          refine (shas_calls l x A3 c3 _ (hat3.out.kept HK.out) hS.out (by omega)).mono ?_
          rintro e w4 ⟨rfl, HK4⟩
          have HK4 := hid (HK.out.fresh HK4)
          go_wp2_with fail
          refine (has_calls l x A3 c3 _ (hat3.out.kept HK4.out)).mono ?_
          rintro e w5 ⟨rfl, HK5⟩
          have HK5 := hid ((HK3.out.fresh HK4.out).fresh HK5)
          have hbb : (decide (x ∈ l) == decide (x ∈ l)) = true := by simp
          go_wp2_with fail
          go_ret
          exact ⟨by simp, HK5.out⟩
end Go.Proofs.Ytdjfacdlcnnjnaa
