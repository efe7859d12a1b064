/- The walk of the law SampleDraws: it returns true and writes nothing that was there. No condition but that the numbers are of their kinds. -/
import Derived.Test.YtdjfacdlcnnjnaaLaw09
set_option linter.unusedVariables false
namespace Go.Proofs.Ytdjfacdlcnnjnaa
open Go.RowKit
set_option maxHeartbeats 400000 in
set_option maxRecDepth 20000 in
theorem sampleDraws_walk (xs : List Nat) (A : Option Addr) (cap : Nat) (below many : Int) (w : World) (h : NatsAt w A xs) (hb : -9223372036854775808 ≤ below) (hm0 : -9223372036854775808 ≤ many) (hm1 : many ≤ 9223372036854775807) :
    Calls Try.prog 6 #[.slice A xs.length cap, .int .i64 below, .int .i64 many] w fun e w' => e = .returned (.bool true) ∧ Keeps NoB w w' := by
  have hlen := h.1.len
  rw [List.length_map] at hlen
  have H := hid h
  clear h
  go_enter Try.func6, Try.ntmps6
  go_wp2_with fail
  refine (speaks09_calls _).mono ?_
  rintro e w1 ⟨rfl, HK1⟩
  have HK1 := hid HK1
  by_cases h1 : 50 < xs.length
  · have hd : decide ((50 : Int) < (xs.length : Int)) = true := by simp; omega
    go_wp2_with fail
    go_ret
    exact ⟨rfl, HK1.out⟩
  · have hd : decide ((50 : Int) < (xs.length : Int)) = false := by simp; omega
    by_cases h2 : 300 < below
    · have hd2 : decide ((300 : Int) < below) = true := by simp; omega
      go_wp2_with fail
      go_ret
      exact ⟨rfl, HK1.out⟩
    · have hd2 : decide ((300 : Int) < below) = false := by simp; omega
      go_wp2_with fail
      refine (new_calls xs A cap _ ⟨H.out.1.kept HK1.out, H.out.2⟩).mono ?_
      rintro e w2 ⟨g, rfl, hg, hr2, HK2⟩
      have hg := hid (Nat.le_trans HK1.out.size hg)
      have hr2 := hid hr2
      have HK2 := hid (HK1.out.fresh HK2)
      go_wp2_with fail
      refine (rseed_calls xs A cap _ ⟨H.out.1.kept HK2.out, H.out.2⟩).mono ?_
      rintro e w3 ⟨rfl, HK3⟩
      have hr3 := hid (hr2.out.keeps HK3 (fun h => h))
      have HK3 := hid (HK2.out.fresh HK3)
      go_wp2_with fail
      refine (rsome_calls (seedN xs) below many _ (seedN_lt xs) (by omega) hb hm0).mono ?_
      rintro e w4 ⟨A4, c4, rfl, hc4, hat4, HK4⟩
      have hr4 := hid (hr3.out.keeps HK4 (fun h => h))
      have HK4 := hid (HK3.out.fresh HK4)
      have hat4 := hid hat4
      have hlt4 := hid (hat4.out.lt)
      go_wp2_with fail
      refine (some_calls g (seedN xs) below many _ hr4.out (by omega) hb hm0 hm1).mono ?_
      rintro e w5 ⟨v5, rfl, hown5, hr5, HK5⟩
      have hgne := hid hr4.out
      obtain ⟨A5, c5, rfl, hc5, hat5⟩ := hown5.reads
      have hat45 := hid (hat4.out.keeps HK5 (hr4.out.ne hat4.out))
      have HK5 := hid (HK4.out.then HK5 (fun i (e : i = g) hi => by have := hg.out; omega))
      have hat5 := hid hat5
      have hr5 := hid hr5
      clear hown5
      go_wp2_with fail
      refine (rnext_calls (someS (seedN xs) below many) _).mono ?_
      rintro e w6 ⟨rfl, rfl⟩
      go_wp2_with fail
      refine (same_calls _ _ A5 A4 c5 c4 _ hat5.out hat45.out).mono ?_
      rintro e w7 ⟨rfl, HK7⟩
      have hr7 := hid (hr5.out.keeps HK7 (fun h => h))
      have HK7 := hid (HK5.out.fresh HK7)
      have es : sameN (someN (seedN xs) below many) (someN (seedN xs) below many) = 1 := if_pos rfl
      rw [es]
      clear es
      go_wp2_with fail
      refine (next_calls g _ _ hr7.out).mono ?_
      rintro e w8 ⟨rfl, hr8, HK8⟩
      have HK8 := hid (HK7.out.then HK8 (fun i (e : i = g) hi => by have := hg.out; omega))
      go_wp2_with fail
      go_ret
      exact ⟨rfl, HK8.out⟩
end Go.Proofs.Ytdjfacdlcnnjnaa
