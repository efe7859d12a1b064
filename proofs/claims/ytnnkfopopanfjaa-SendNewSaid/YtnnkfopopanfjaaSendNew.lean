/- Whether there can be a sender: the walk of the law SendNew. Conditions: numbers are of their kinds. -/
import Derived.Test.YtnnkfopopanfjaaLaw23
set_option linter.unusedVariables false
set_option linter.unusedSimpArgs false
namespace Go.Proofs.Ytnnkfopopanfjaa
open Go.RowKit
attribute [local go_sem ↓] Go.wp_at_zero Go.wp_at_succ

set_option maxHeartbeats 4000000 in
set_option maxRecDepth 20000 in
theorem sendNew_walk (p : Par) (obj : List UInt8) (A : Option Addr) (c : Nat) (first : Nat) (w : World) (hwf : p.wf) (ho : BytesIn (fun _ => True) w A obj) (hcap : obj.length ≤ c) (hA : A = none → c = 0) (hf : first < 18446744073709551616) :
    Calls Try.prog 5 #[p.val, .slice A obj.length c, .int .u64 (first : Int)] w fun e w' => e = .returned (.bool true) ∧ Keeps NoB w w' := by
  have hu := Try.underlying23
  have HO := hid ho
  have hlen := ho.len
  obtain ⟨L, hL⟩ : ∃ L, obj.length = L := ⟨_, rfl⟩
  have HL := hid hL
  rw [hL] at hcap hlen ⊢
  have HCP := hid hcap
  have HLN := hid hlen
  have HF := hid hf
  clear ho hwf hL hA hcap hlen hf
  unfold Par.val
  have hbox := hid (heap_alloc_new w (.cells #[.int .i64 p.n, .int .i64 p.b, .int .i64 p.q, .int .i64 p.eps, .int .i64 p.f] 23))
  have HKa := hid ((Keeps.refl NoB w).alloc (.cells #[.int .i64 p.n, .int .i64 p.b, .int .i64 p.q, .int .i64 p.eps, .int .i64 p.f] 23))
  obtain ⟨wa, hwa⟩ : ∃ wa, w.alloc (.cells #[.int .i64 p.n, .int .i64 p.b, .int .i64 p.q, .int .i64 p.eps, .int .i64 p.f] 23) = wa := ⟨_, rfl⟩
  rw [hwa] at hbox HKa
  obtain ⟨pb, hpb⟩ : ∃ pb, w.heap.size = pb := ⟨_, rfl⟩
  rw [hpb] at hbox
  go_enter Try.func5, Try.ntmps5
  go_wp2_with fail
  refine (speaks23_calls _).mono ?_
  rintro e w1 ⟨rfl, HK1⟩
  have HC5 := hid (fun (W : World) (hW : Keeps NoB w1 W) => cells5 (hW.heap (HK1.heap hbox.out (fun h => h)) (fun h => h)))
  have HK1 := hid (HKa.out.fresh HK1)
  clear hbox HKa hwa hpb
  obtain ⟨b0, b1, b2, b3, b4⟩ := HC5.out w1 (Keeps.refl _ _)
  rcases (show (100 < p.n ∧ p.n ≤ 1048576) ∨ p.n ≤ 100 ∨ 1048576 < p.n by omega) with ⟨g1, g2⟩ | hn
  · have d1 : decide (100 < p.n) = true := decide_eq_true g1
    have d2 : decide (p.n ≤ 1048576) = true := decide_eq_true g2
    clear g1 g2
    go_wp2_with fail
    go_ret
    exact ⟨rfl, HK1.out⟩
  rcases (show (100 < p.b ∧ p.b ≤ 65535) ∨ p.b ≤ 100 ∨ 65535 < p.b by omega) with ⟨g1, g2⟩ | hb
  · have d1 : decide (100 < p.b) = true := decide_eq_true g1
    have d2 : decide (p.b ≤ 65535) = true := decide_eq_true g2
    clear g1 g2
    rcases hn with hn | hn
    · have d3 : decide (100 < p.n) = false := decide_eq_false (by omega)
      clear hn
      go_wp2_with fail
      go_ret
      exact ⟨rfl, HK1.out⟩
    · have d3 : decide (100 < p.n) = true := decide_eq_true (by omega)
      have d4 : decide (p.n ≤ 1048576) = false := decide_eq_false (by omega)
      clear hn
      go_wp2_with fail
      go_ret
      exact ⟨rfl, HK1.out⟩
  by_cases hl : 10001 < L
  · have d5 : decide (10001 < L) = true := decide_eq_true hl
    have d5' : decide ((10001 : Int) < (L : Int)) = true := decide_eq_true (by omega)
    clear hl
    rcases hn with hn | hn
    · have d1 : decide (100 < p.n) = false := decide_eq_false (by omega)
      clear hn
      rcases hb with hb | hb
      · have d3 : decide (100 < p.b) = false := decide_eq_false (by omega)
        clear hb
        go_wp2_with fail
        go_ret
        exact ⟨rfl, HK1.out⟩
      · have d3 : decide (100 < p.b) = true := decide_eq_true (by omega)
        have d4 : decide (p.b ≤ 65535) = false := decide_eq_false (by omega)
        clear hb
        go_wp2_with fail
        go_ret
        exact ⟨rfl, HK1.out⟩
    · have d1 : decide (100 < p.n) = true := decide_eq_true (by omega)
      have d2 : decide (p.n ≤ 1048576) = false := decide_eq_false (by omega)
      clear hn
      rcases hb with hb | hb
      · have d3 : decide (100 < p.b) = false := decide_eq_false (by omega)
        clear hb
        go_wp2_with fail
        go_ret
        exact ⟨rfl, HK1.out⟩
      · have d3 : decide (100 < p.b) = true := decide_eq_true (by omega)
        have d4 : decide (p.b ≤ 65535) = false := decide_eq_false (by omega)
        clear hb
        go_wp2_with fail
        go_ret
        exact ⟨rfl, HK1.out⟩
  have d5 : decide (10001 < L) = false := decide_eq_false hl
  have d5' : decide ((10001 : Int) < (L : Int)) = false := decide_eq_false (by omega)
  have HMA := hid (fun (W : World) => may_calls p W)
  by_cases hm : p.may
  case neg =>
    have HNN := hid (fun (W : World) => sndNew_no p first first obj A L c HL.out W hm)
    rw [mayB_false hm] at HMA
    unfold Par.val at HNN HMA
    clear hm hl
    have key : ∀ (W : World), True := fun _ => trivial
    rcases hn with hn | hn <;> rcases hb with hb | hb
    · have d1 : decide (100 < p.n) = false := decide_eq_false (by omega)
      have d3 : decide (100 < p.b) = false := decide_eq_false (by omega)
      clear hn hb
      go_wp2_with fail
      refine (HNN.out _).mono ?_
      rintro e w2 ⟨rfl, hk2⟩
      have HK2 := hid hk2
      clear b0 b1 b2 b3 b4 hk2
      obtain ⟨b0, b1, b2, b3, b4⟩ := HC5.out w2 HK2.out
      go_wp2_with fail
      refine (HMA.out _).mono ?_
      rintro e w3 ⟨rfl, hk3⟩
      have HK3 := hid ((HK1.out.fresh HK2.out).fresh hk3)
      clear b0 b1 b2 b3 b4 hk3
      go_wp2_with fail
      go_ret
      exact ⟨rfl, HK3.out⟩
    · have d1 : decide (100 < p.n) = false := decide_eq_false (by omega)
      have d3 : decide (100 < p.b) = true := decide_eq_true (by omega)
      have d4 : decide (p.b ≤ 65535) = false := decide_eq_false (by omega)
      clear hn hb
      go_wp2_with fail
      refine (HNN.out _).mono ?_
      rintro e w2 ⟨rfl, hk2⟩
      have HK2 := hid hk2
      clear b0 b1 b2 b3 b4 hk2
      obtain ⟨b0, b1, b2, b3, b4⟩ := HC5.out w2 HK2.out
      go_wp2_with fail
      refine (HMA.out _).mono ?_
      rintro e w3 ⟨rfl, hk3⟩
      have HK3 := hid ((HK1.out.fresh HK2.out).fresh hk3)
      clear b0 b1 b2 b3 b4 hk3
      go_wp2_with fail
      go_ret
      exact ⟨rfl, HK3.out⟩
    · have d1 : decide (100 < p.n) = true := decide_eq_true (by omega)
      have d2 : decide (p.n ≤ 1048576) = false := decide_eq_false (by omega)
      have d3 : decide (100 < p.b) = false := decide_eq_false (by omega)
      clear hn hb
      go_wp2_with fail
      refine (HNN.out _).mono ?_
      rintro e w2 ⟨rfl, hk2⟩
      have HK2 := hid hk2
      clear b0 b1 b2 b3 b4 hk2
      obtain ⟨b0, b1, b2, b3, b4⟩ := HC5.out w2 HK2.out
      go_wp2_with fail
      refine (HMA.out _).mono ?_
      rintro e w3 ⟨rfl, hk3⟩
      have HK3 := hid ((HK1.out.fresh HK2.out).fresh hk3)
      clear b0 b1 b2 b3 b4 hk3
      go_wp2_with fail
      go_ret
      exact ⟨rfl, HK3.out⟩
    · have d1 : decide (100 < p.n) = true := decide_eq_true (by omega)
      have d2 : decide (p.n ≤ 1048576) = false := decide_eq_false (by omega)
      have d3 : decide (100 < p.b) = true := decide_eq_true (by omega)
      have d4 : decide (p.b ≤ 65535) = false := decide_eq_false (by omega)
      clear hn hb
      go_wp2_with fail
      refine (HNN.out _).mono ?_
      rintro e w2 ⟨rfl, hk2⟩
      have HK2 := hid hk2
      clear b0 b1 b2 b3 b4 hk2
      obtain ⟨b0, b1, b2, b3, b4⟩ := HC5.out w2 HK2.out
      go_wp2_with fail
      refine (HMA.out _).mono ?_
      rintro e w3 ⟨rfl, hk3⟩
      have HK3 := hid ((HK1.out.fresh HK2.out).fresh hk3)
      clear b0 b1 b2 b3 b4 hk3
      go_wp2_with fail
      go_ret
      exact ⟨rfl, HK3.out⟩
  have hmn := hm.2.1
  have hmb := hm.2.2.2.1
  have d1 : decide (100 < p.n) = false := decide_eq_false (by omega)
  have d3 : decide (100 < p.b) = false := decide_eq_false (by omega)
  rw [mayB_true hm] at HMA
  unfold Par.val at HMA
  obtain ⟨N, B, e1, e2, e3, e4, e5, e6, e7, e8, hNB, hNB2⟩ := par_sizes hm
  generalize N * B = Q at *
  have HNB := hid hNB
  have HQ := hid hNB2
  clear e1 e2 e3 e4 e5 e6 e7 e8 hNB hNB2 hn hb hl hmn hmb
  by_cases hlg : Q < L
  · have HNN := hid (fun (W : World) => sndNew_long p first first obj A L c HL.out W hm (by rw [HNB.out]; omega) HLN.out)
    unfold Par.val at HNN
    have e5 : decide ((Q : Int) < (L : Int)) = true := decide_eq_true (by omega)
    have e5n : decide (Q < L) = true := decide_eq_true hlg
    clear hm hlg
    go_wp2_with fail
    refine (HNN.out _).mono ?_
    rintro e w2 ⟨rfl, hk2⟩
    have HK2 := hid hk2
    clear b0 b1 b2 b3 b4 hk2
    obtain ⟨b0, b1, b2, b3, b4⟩ := HC5.out w2 HK2.out
    go_wp2_with fail
    refine (HMA.out _).mono ?_
    rintro e w3 ⟨rfl, hk3⟩
    have HK3 := hid (HK2.out.fresh hk3)
    clear b0 b1 b2 b3 b4 hk3
    obtain ⟨b0, b1, b2, b3, b4⟩ := HC5.out w3 HK3.out
    have hNBi := HNB.out
    have hw1 : wrap64 (Q : Int) = (Q : Int) := IntWalk.wrap64_in _ ⟨by omega, by have := HQ.out; omega⟩
    go_wp2_with fail
    go_ret
    exact ⟨rfl, HK1.out.fresh HK3.out⟩
  · have HNN := hid (fun (W : World) (hW : Keeps NoB w W) => sndNew_yes p first first obj A L c (fun _ => True) HL.out W hm HF.out (HO.out.kept hW) HCP.out (by rw [HNB.out]; omega))
    unfold Par.val at HNN
    have e5 : decide ((Q : Int) < (L : Int)) = false := decide_eq_false (by omega)
    have e5n : decide (Q < L) = false := decide_eq_false hlg
    clear hm hlg
    go_wp2_with fail
    refine (HNN.out _ HK1.out).mono ?_
    rintro e w2 ⟨s, rfl, hs2, hsz2, hk2⟩
    have HS2 := hid (hs2 w2 (Keeps.refl _ _))
    have HK2 := hid hk2
    clear b0 b1 b2 b3 b4 hk2 hs2 hsz2
    obtain ⟨b0, b1, b2, b3, b4⟩ := HC5.out w2 HK2.out
    go_wp2_with fail
    refine (HMA.out _).mono ?_
    rintro e w3 ⟨rfl, hk3⟩
    have HS3 := hid (HS2.out.kept hk3)
    have HK3 := hid (HK2.out.fresh hk3)
    clear b0 b1 b2 b3 b4 hk3
    obtain ⟨b0, b1, b2, b3, b4⟩ := HC5.out w3 HK3.out
    have hNBi := HNB.out
    have hw1 : wrap64 (Q : Int) = (Q : Int) := IntWalk.wrap64_in _ ⟨by omega, by have := HQ.out; omega⟩
    go_wp2_with fail
    refine (sndID_calls s p first obj first 0 false w3 HS3.out).mono ?_
    rintro e w4 ⟨rfl, hk4⟩
    have HS4 := hid (HS3.out.kept hk4)
    have HK4 := hid (HK3.out.fresh hk4)
    clear hk4
    go_wp2_with fail
    refine (sndSent_calls s p first obj first 0 false w4 HS4.out).mono ?_
    rintro e w5 ⟨rfl, hk5⟩
    have HK5 := hid (HK4.out.fresh hk5)
    clear hk5
    go_wp2_with fail
    go_ret
    exact ⟨rfl, HK1.out.fresh HK5.out⟩
end Go.Proofs.Ytnnkfopopanfjaa
