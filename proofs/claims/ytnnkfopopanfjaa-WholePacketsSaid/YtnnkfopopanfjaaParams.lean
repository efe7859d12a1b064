/- How an object is coded: the walks of params and of its reference. Conditions: the numbers are of their kinds; where a number is reckoned the parameters may be. -/
import Derived.Test.YtnnkfopopanfjaaG1
set_option linter.unusedVariables false
namespace Go.Proofs.Ytnnkfopopanfjaa
open Go.RowKit

structure Par where
  n : Int
  b : Int
  q : Int
  eps : Int
  f : Int
def Par.val (p : Par) : Value := .agg #[.int .i64 p.n, .int .i64 p.b, .int .i64 p.q, .int .i64 p.eps, .int .i64 p.f]
def Par.cells (p : Par) : Array Value := #[.int .i64 p.n, .int .i64 p.b, .int .i64 p.q, .int .i64 p.eps, .int .i64 p.f]
def Par.wf (p : Par) : Prop := (-9223372036854775808 ≤ p.n ∧ p.n ≤ 9223372036854775807) ∧ (-9223372036854775808 ≤ p.b ∧ p.b ≤ 9223372036854775807) ∧ (-9223372036854775808 ≤ p.q ∧ p.q ≤ 9223372036854775807) ∧ (-9223372036854775808 ≤ p.eps ∧ p.eps ≤ 9223372036854775807) ∧ (-9223372036854775808 ≤ p.f ∧ p.f ≤ 9223372036854775807)
def Par.may (p : Par) : Prop := 1 ≤ p.n ∧ p.n ≤ 1048576 ∧ 1 ≤ p.b ∧ p.b ≤ 65535 ∧ 1 ≤ p.q ∧ p.q ≤ 8 ∧ 1 ≤ p.eps ∧ p.eps ≤ 1000 ∧ 2 ≤ p.f ∧ p.f ≤ 4096 ∧ 1000 < p.f * p.eps
instance (p : Par) : Decidable p.may := by unfold Par.may; infer_instance
def mayB (p : Par) : Bool := decide p.may
theorem mayB_true {p : Par} (h : p.may) : mayB p = true := decide_eq_true h
theorem mayB_false {p : Par} (h : ¬ p.may) : mayB p = false := decide_eq_false h
theorem mul_bounds {a b A B : Int} (ha : 0 ≤ a) (hA : a ≤ A) (hb : 0 ≤ b) (hB : b ≤ B) : 0 ≤ a * b ∧ a * b ≤ A * B :=
  ⟨Int.mul_nonneg ha hb, Int.mul_le_mul hA hB hb (Int.le_trans ha hA)⟩
def auxN (p : Par) : Int := max p.q ((55 * p.q * p.eps * p.n + 99999) / 100000)
theorem prod_bounds {p : Par} (h : p.may) : (0 ≤ 55 * p.q ∧ 55 * p.q ≤ 440) ∧ (0 ≤ 55 * p.q * p.eps ∧ 55 * p.q * p.eps ≤ 440000) ∧ (0 ≤ 55 * p.q * p.eps * p.n ∧ 55 * p.q * p.eps * p.n ≤ 461373440000) := by
  obtain ⟨h1, h2, h3, h4, h5, h6, h7, h8, _⟩ := h
  have a1 : 0 ≤ 55 * p.q ∧ 55 * p.q ≤ 440 := by omega
  have a2 := mul_bounds a1.1 a1.2 (show 0 ≤ p.eps by omega) h8
  have a3 := mul_bounds a2.1 a2.2 (show 0 ≤ p.n by omega) h2
  exact ⟨a1, by omega, by omega⟩
theorem auxN_bounds {p : Par} (h : p.may) : 1 ≤ auxN p ∧ auxN p ≤ 4613735 := by
  have := prod_bounds h
  obtain ⟨h1, h2, h3, h4, h5, h6, h7, h8, _⟩ := h
  unfold auxN; omega

def inB (a n b : Int) : Bool := decide (a ≤ n ∧ n ≤ b)
def checkN (p : Par) : Int := if mayB p then 0 else 1
set_option maxHeartbeats 400000 in
theorem in_calls (n a b : Int) (w : World) :
    Calls Try.prog 72 #[.int .i64 n, .int .i64 a, .int .i64 b] w fun e w' => e = .returned (.bool (inB a n b)) ∧ w' = w := by
  by_cases h1 : a ≤ n
  · have d1 : decide (a ≤ n) = true := decide_eq_true h1
    by_cases h2 : n ≤ b
    · have d2 : decide (n ≤ b) = true := decide_eq_true h2
      have H := hid (show inB a n b = true from decide_eq_true ⟨h1, h2⟩)
      go_enter Try.func72, Try.ntmps72
      go_wp2_with fail
      go_ret
      exact ⟨congrArg (fun x => Ending.returned (.bool x)) H.out.symm, rfl⟩
    · have d2 : decide (n ≤ b) = false := decide_eq_false h2
      have H := hid (show inB a n b = false from decide_eq_false (fun h => h2 h.2))
      go_enter Try.func72, Try.ntmps72
      go_wp2_with fail
      go_ret
      exact ⟨congrArg (fun x => Ending.returned (.bool x)) H.out.symm, rfl⟩
  · have d1 : decide (a ≤ n) = false := decide_eq_false h1
    have H := hid (show inB a n b = false from decide_eq_false (fun h => h1 h.1))
    go_enter Try.func72, Try.ntmps72
    go_wp2_with fail
    go_ret
    exact ⟨congrArg (fun x => Ending.returned (.bool x)) H.out.symm, rfl⟩

set_option maxHeartbeats 1600000 in
set_option maxRecDepth 20000 in
theorem check_calls (p : Par) (w : World) :
    Calls Try.prog 54 #[p.val] w fun e w' => e = .returned (.int .i64 (checkN p)) ∧ Keeps NoB w w' := by
  unfold Par.val
  by_cases h0 : ¬ (1 ≤ p.n ∧ p.n ≤ 1048576)
  · have e0 : inB 1 p.n 1048576 = false := decide_eq_false h0
    have hm := (mayB_false (p := p) (fun hm => h0 (by unfold Par.may at hm; omega)))
    replace e0 := hid e0
    replace hm := hid hm
    go_enter Try.func54, Try.ntmps54
    go_wp2_with fail
    refine (in_calls p.n 1 1048576 _).mono ?_
    rintro e w0 ⟨rfl, rfl⟩
    rw [e0.out]
    go_wp2_with fail
    go_ret
    unfold checkN
    rw [hm.out]
    exact ⟨rfl, (Keeps.refl _ w).alloc _⟩
  · have e0 : inB 1 p.n 1048576 = true := decide_eq_true (Classical.not_not.1 h0)
    by_cases h1 : ¬ (1 ≤ p.b ∧ p.b ≤ 65535)
    · have e1 : inB 1 p.b 65535 = false := decide_eq_false h1
      have hm := (mayB_false (p := p) (fun hm => h1 (by unfold Par.may at hm; omega)))
      replace e0 := hid e0
      replace e1 := hid e1
      replace hm := hid hm
      go_enter Try.func54, Try.ntmps54
      go_wp2_with fail
      refine (in_calls p.n 1 1048576 _).mono ?_
      rintro e w0 ⟨rfl, rfl⟩
      rw [e0.out]
      go_wp2_with fail
      refine (in_calls p.b 1 65535 _).mono ?_
      rintro e w1 ⟨rfl, rfl⟩
      rw [e1.out]
      go_wp2_with fail
      go_ret
      unfold checkN
      rw [hm.out]
      exact ⟨rfl, (Keeps.refl _ w).alloc _⟩
    · have e1 : inB 1 p.b 65535 = true := decide_eq_true (Classical.not_not.1 h1)
      by_cases h2 : ¬ (1 ≤ p.q ∧ p.q ≤ 8)
      · have e2 : inB 1 p.q 8 = false := decide_eq_false h2
        have hm := (mayB_false (p := p) (fun hm => h2 (by unfold Par.may at hm; omega)))
        replace e0 := hid e0
        replace e1 := hid e1
        replace e2 := hid e2
        replace hm := hid hm
        go_enter Try.func54, Try.ntmps54
        go_wp2_with fail
        refine (in_calls p.n 1 1048576 _).mono ?_
        rintro e w0 ⟨rfl, rfl⟩
        rw [e0.out]
        go_wp2_with fail
        refine (in_calls p.b 1 65535 _).mono ?_
        rintro e w1 ⟨rfl, rfl⟩
        rw [e1.out]
        go_wp2_with fail
        refine (in_calls p.q 1 8 _).mono ?_
        rintro e w2 ⟨rfl, rfl⟩
        rw [e2.out]
        go_wp2_with fail
        go_ret
        unfold checkN
        rw [hm.out]
        exact ⟨rfl, (Keeps.refl _ w).alloc _⟩
      · have e2 : inB 1 p.q 8 = true := decide_eq_true (Classical.not_not.1 h2)
        by_cases h3 : ¬ (1 ≤ p.eps ∧ p.eps ≤ 1000)
        · have e3 : inB 1 p.eps 1000 = false := decide_eq_false h3
          have hm := (mayB_false (p := p) (fun hm => h3 (by unfold Par.may at hm; omega)))
          replace e0 := hid e0
          replace e1 := hid e1
          replace e2 := hid e2
          replace e3 := hid e3
          replace hm := hid hm
          go_enter Try.func54, Try.ntmps54
          go_wp2_with fail
          refine (in_calls p.n 1 1048576 _).mono ?_
          rintro e w0 ⟨rfl, rfl⟩
          rw [e0.out]
          go_wp2_with fail
          refine (in_calls p.b 1 65535 _).mono ?_
          rintro e w1 ⟨rfl, rfl⟩
          rw [e1.out]
          go_wp2_with fail
          refine (in_calls p.q 1 8 _).mono ?_
          rintro e w2 ⟨rfl, rfl⟩
          rw [e2.out]
          go_wp2_with fail
          refine (in_calls p.eps 1 1000 _).mono ?_
          rintro e w3 ⟨rfl, rfl⟩
          rw [e3.out]
          go_wp2_with fail
          go_ret
          unfold checkN
          rw [hm.out]
          exact ⟨rfl, (Keeps.refl _ w).alloc _⟩
        · have e3 : inB 1 p.eps 1000 = true := decide_eq_true (Classical.not_not.1 h3)
          by_cases h4 : ¬ (2 ≤ p.f ∧ p.f ≤ 4096)
          · have e4 : inB 2 p.f 4096 = false := decide_eq_false h4
            have hm := (mayB_false (p := p) (fun hm => h4 (by unfold Par.may at hm; omega)))
            replace e0 := hid e0
            replace e1 := hid e1
            replace e2 := hid e2
            replace e3 := hid e3
            replace e4 := hid e4
            replace hm := hid hm
            go_enter Try.func54, Try.ntmps54
            go_wp2_with fail
            refine (in_calls p.n 1 1048576 _).mono ?_
            rintro e w0 ⟨rfl, rfl⟩
            rw [e0.out]
            go_wp2_with fail
            refine (in_calls p.b 1 65535 _).mono ?_
            rintro e w1 ⟨rfl, rfl⟩
            rw [e1.out]
            go_wp2_with fail
            refine (in_calls p.q 1 8 _).mono ?_
            rintro e w2 ⟨rfl, rfl⟩
            rw [e2.out]
            go_wp2_with fail
            refine (in_calls p.eps 1 1000 _).mono ?_
            rintro e w3 ⟨rfl, rfl⟩
            rw [e3.out]
            go_wp2_with fail
            refine (in_calls p.f 2 4096 _).mono ?_
            rintro e w4 ⟨rfl, rfl⟩
            rw [e4.out]
            go_wp2_with fail
            go_ret
            unfold checkN
            rw [hm.out]
            exact ⟨rfl, (Keeps.refl _ w).alloc _⟩
          · have e4 : inB 2 p.f 4096 = true := decide_eq_true (Classical.not_not.1 h4)
            simp only [Classical.not_not] at h0 h1 h2 h3 h4
            have hb := mul_bounds (show 0 ≤ p.f by omega) h4.2 (show 0 ≤ p.eps by omega) h3.2
            by_cases h5 : p.f * p.eps ≤ 1000
            · have d5 : decide (p.f * p.eps ≤ 1000) = true := decide_eq_true h5
              have hm := (mayB_false (p := p) (fun hm => by unfold Par.may at hm; omega))
              replace e0 := hid e0
              replace e1 := hid e1
              replace e2 := hid e2
              replace e3 := hid e3
              replace e4 := hid e4
              replace hm := hid hm
              go_enter Try.func54, Try.ntmps54
              go_wp2_with fail
              refine (in_calls p.n 1 1048576 _).mono ?_
              rintro e w0 ⟨rfl, rfl⟩
              rw [e0.out]
              go_wp2_with fail
              refine (in_calls p.b 1 65535 _).mono ?_
              rintro e w1 ⟨rfl, rfl⟩
              rw [e1.out]
              go_wp2_with fail
              refine (in_calls p.q 1 8 _).mono ?_
              rintro e w2 ⟨rfl, rfl⟩
              rw [e2.out]
              go_wp2_with fail
              refine (in_calls p.eps 1 1000 _).mono ?_
              rintro e w3 ⟨rfl, rfl⟩
              rw [e3.out]
              go_wp2_with fail
              refine (in_calls p.f 2 4096 _).mono ?_
              rintro e w4 ⟨rfl, rfl⟩
              rw [e4.out]
              go_wp2_with fail
              go_ret
              unfold checkN
              rw [hm.out]
              exact ⟨rfl, (Keeps.refl _ w).alloc _⟩
            · have d5 : decide (p.f * p.eps ≤ 1000) = false := decide_eq_false h5
              have hm := (mayB_true (p := p) (by unfold Par.may; omega))
              replace e0 := hid e0
              replace e1 := hid e1
              replace e2 := hid e2
              replace e3 := hid e3
              replace e4 := hid e4
              replace hm := hid hm
              go_enter Try.func54, Try.ntmps54
              go_wp2_with fail
              refine (in_calls p.n 1 1048576 _).mono ?_
              rintro e w0 ⟨rfl, rfl⟩
              rw [e0.out]
              go_wp2_with fail
              refine (in_calls p.b 1 65535 _).mono ?_
              rintro e w1 ⟨rfl, rfl⟩
              rw [e1.out]
              go_wp2_with fail
              refine (in_calls p.q 1 8 _).mono ?_
              rintro e w2 ⟨rfl, rfl⟩
              rw [e2.out]
              go_wp2_with fail
              refine (in_calls p.eps 1 1000 _).mono ?_
              rintro e w3 ⟨rfl, rfl⟩
              rw [e3.out]
              go_wp2_with fail
              refine (in_calls p.f 2 4096 _).mono ?_
              rintro e w4 ⟨rfl, rfl⟩
              rw [e4.out]
              go_wp2_with fail
              go_ret
              unfold checkN
              rw [hm.out]
              exact ⟨rfl, (Keeps.refl _ w).alloc _⟩

set_option maxHeartbeats 1600000 in
set_option maxRecDepth 20000 in
theorem may_calls (p : Par) (w : World) :
    Calls Try.prog 9 #[p.val] w fun e w' => e = .returned (.bool (mayB p)) ∧ Keeps NoB w w' := by
  unfold Par.val
  by_cases h0 : p.n < 1
  · have e0 : decide (p.n < 1) = true := decide_eq_true h0
    have hm := (mayB_false (p := p) (fun hm => by unfold Par.may at hm; omega))
    replace hm := hid hm
    go_enter Try.func9, Try.ntmps9
    go_wp2_with fail
    go_ret
    rw [hm.out]
    exact ⟨rfl, (Keeps.refl _ w).alloc _⟩
  · have e0 : decide (p.n < 1) = false := decide_eq_false h0
    by_cases h1 : 1048576 < p.n
    · have e1 : decide (1048576 < p.n) = true := decide_eq_true h1
      have hm := (mayB_false (p := p) (fun hm => by unfold Par.may at hm; omega))
      replace hm := hid hm
      go_enter Try.func9, Try.ntmps9
      go_wp2_with fail
      go_ret
      rw [hm.out]
      exact ⟨rfl, (Keeps.refl _ w).alloc _⟩
    · have e1 : decide (1048576 < p.n) = false := decide_eq_false h1
      by_cases h2 : p.b < 1
      · have e2 : decide (p.b < 1) = true := decide_eq_true h2
        have hm := (mayB_false (p := p) (fun hm => by unfold Par.may at hm; omega))
        replace hm := hid hm
        go_enter Try.func9, Try.ntmps9
        go_wp2_with fail
        go_ret
        rw [hm.out]
        exact ⟨rfl, (Keeps.refl _ w).alloc _⟩
      · have e2 : decide (p.b < 1) = false := decide_eq_false h2
        by_cases h3 : 65535 < p.b
        · have e3 : decide (65535 < p.b) = true := decide_eq_true h3
          have hm := (mayB_false (p := p) (fun hm => by unfold Par.may at hm; omega))
          replace hm := hid hm
          go_enter Try.func9, Try.ntmps9
          go_wp2_with fail
          go_ret
          rw [hm.out]
          exact ⟨rfl, (Keeps.refl _ w).alloc _⟩
        · have e3 : decide (65535 < p.b) = false := decide_eq_false h3
          by_cases h4 : p.q < 1
          · have e4 : decide (p.q < 1) = true := decide_eq_true h4
            have hm := (mayB_false (p := p) (fun hm => by unfold Par.may at hm; omega))
            replace hm := hid hm
            go_enter Try.func9, Try.ntmps9
            go_wp2_with fail
            go_ret
            rw [hm.out]
            exact ⟨rfl, (Keeps.refl _ w).alloc _⟩
          · have e4 : decide (p.q < 1) = false := decide_eq_false h4
            by_cases h5 : 8 < p.q
            · have e5 : decide (8 < p.q) = true := decide_eq_true h5
              have hm := (mayB_false (p := p) (fun hm => by unfold Par.may at hm; omega))
              replace hm := hid hm
              go_enter Try.func9, Try.ntmps9
              go_wp2_with fail
              go_ret
              rw [hm.out]
              exact ⟨rfl, (Keeps.refl _ w).alloc _⟩
            · have e5 : decide (8 < p.q) = false := decide_eq_false h5
              by_cases h6 : p.eps < 1
              · have e6 : decide (p.eps < 1) = true := decide_eq_true h6
                have hm := (mayB_false (p := p) (fun hm => by unfold Par.may at hm; omega))
                replace hm := hid hm
                go_enter Try.func9, Try.ntmps9
                go_wp2_with fail
                go_ret
                rw [hm.out]
                exact ⟨rfl, (Keeps.refl _ w).alloc _⟩
              · have e6 : decide (p.eps < 1) = false := decide_eq_false h6
                by_cases h7 : 1000 < p.eps
                · have e7 : decide (1000 < p.eps) = true := decide_eq_true h7
                  have hm := (mayB_false (p := p) (fun hm => by unfold Par.may at hm; omega))
                  replace hm := hid hm
                  go_enter Try.func9, Try.ntmps9
                  go_wp2_with fail
                  go_ret
                  rw [hm.out]
                  exact ⟨rfl, (Keeps.refl _ w).alloc _⟩
                · have e7 : decide (1000 < p.eps) = false := decide_eq_false h7
                  by_cases h8 : p.f < 2
                  · have e8 : decide (p.f < 2) = true := decide_eq_true h8
                    have hm := (mayB_false (p := p) (fun hm => by unfold Par.may at hm; omega))
                    replace hm := hid hm
                    go_enter Try.func9, Try.ntmps9
                    go_wp2_with fail
                    go_ret
                    rw [hm.out]
                    exact ⟨rfl, (Keeps.refl _ w).alloc _⟩
                  · have e8 : decide (p.f < 2) = false := decide_eq_false h8
                    by_cases h9 : 4096 < p.f
                    · have e9 : decide (4096 < p.f) = true := decide_eq_true h9
                      have hm := (mayB_false (p := p) (fun hm => by unfold Par.may at hm; omega))
                      replace hm := hid hm
                      go_enter Try.func9, Try.ntmps9
                      go_wp2_with fail
                      go_ret
                      rw [hm.out]
                      exact ⟨rfl, (Keeps.refl _ w).alloc _⟩
                    · have e9 : decide (4096 < p.f) = false := decide_eq_false h9
                      have hb := mul_bounds (show 0 ≤ p.f by omega) (show p.f ≤ 4096 by omega) (show 0 ≤ p.eps by omega) (show p.eps ≤ 1000 by omega)
                      by_cases h10 : 1000 < p.f * p.eps
                      · have d10 : decide (1000 < p.f * p.eps) = true := decide_eq_true h10
                        have hm := (mayB_true (p := p) (by unfold Par.may; omega))
                        replace hm := hid hm
                        go_enter Try.func9, Try.ntmps9
                        go_wp2_with fail
                        go_ret
                        rw [hm.out]
                        exact ⟨rfl, (Keeps.refl _ w).alloc _⟩
                      · have d10 : decide (1000 < p.f * p.eps) = false := decide_eq_false h10
                        have hm := (mayB_false (p := p) (fun hm => by unfold Par.may at hm; omega))
                        replace hm := hid hm
                        go_enter Try.func9, Try.ntmps9
                        go_wp2_with fail
                        go_ret
                        rw [hm.out]
                        exact ⟨rfl, (Keeps.refl _ w).alloc _⟩

set_option maxHeartbeats 400000 in
set_option maxRecDepth 20000 in
theorem aux_calls (p : Par) (w : World) (h : p.may) :
    Calls Try.prog 62 #[p.val] w fun e w' => e = .returned (.int .i64 (auxN p)) ∧ Keeps NoB w w' := by
  have hb := prod_bounds h
  have hq : 1 ≤ p.q ∧ p.q ≤ 8 := by unfold Par.may at h; omega
  unfold Par.val
  go_enter Try.func62, Try.ntmps62
  go_wp2_with fail
  all_goals
    go_ret
    exact ⟨congrArg (fun x => Ending.returned (.int .i64 x)) (by unfold auxN; omega), (Keeps.refl _ w).alloc _⟩
set_option maxHeartbeats 800000 in
set_option maxRecDepth 20000 in
theorem raux_calls (p : Par) (w : World) (h : p.may) :
    Calls Try.prog 52 #[p.val] w fun e w' => e = .returned (.int .i64 (auxN p)) ∧ Keeps NoB w w' := by
  have hb := prod_bounds h
  have hq : 1 ≤ p.q ∧ p.q ≤ 8 := by unfold Par.may at h; omega
  unfold Par.val
  have HA := hid (show auxN p = max p.q ((55 * p.q * p.eps * p.n + 99999) / 100000) from rfl)
  by_cases h1 : 55 * p.q * p.eps * p.n / 100000 * 100000 < 55 * p.q * p.eps * p.n
  · have d1 : decide (55 * p.q * p.eps * p.n / 100000 * 100000 < 55 * p.q * p.eps * p.n) = true := decide_eq_true h1
    by_cases h2 : 55 * p.q * p.eps * p.n / 100000 + 1 < p.q
    · have d2 : decide (55 * p.q * p.eps * p.n / 100000 + 1 < p.q) = true := decide_eq_true h2
      have HR := hid (show auxN p = p.q by rw [HA.out]; omega)
      go_enter Try.func52, Try.ntmps52
      go_wp2_with fail
      go_ret
      rw [HR.out]
      exact ⟨rfl, (Keeps.refl _ w).alloc _⟩
    · have d2 : decide (55 * p.q * p.eps * p.n / 100000 + 1 < p.q) = false := decide_eq_false h2
      have HR := hid (show auxN p = 55 * p.q * p.eps * p.n / 100000 + 1 by rw [HA.out]; omega)
      go_enter Try.func52, Try.ntmps52
      go_wp2_with fail
      go_ret
      rw [HR.out]
      exact ⟨rfl, (Keeps.refl _ w).alloc _⟩
  · have d1 : decide (55 * p.q * p.eps * p.n / 100000 * 100000 < 55 * p.q * p.eps * p.n) = false := decide_eq_false h1
    by_cases h2 : 55 * p.q * p.eps * p.n / 100000 < p.q
    · have d2 : decide (55 * p.q * p.eps * p.n / 100000 < p.q) = true := decide_eq_true h2
      have HR := hid (show auxN p = p.q by rw [HA.out]; omega)
      go_enter Try.func52, Try.ntmps52
      go_wp2_with fail
      go_ret
      rw [HR.out]
      exact ⟨rfl, (Keeps.refl _ w).alloc _⟩
    · have d2 : decide (55 * p.q * p.eps * p.n / 100000 < p.q) = false := decide_eq_false h2
      have HR := hid (show auxN p = 55 * p.q * p.eps * p.n / 100000 by rw [HA.out]; omega)
      go_enter Try.func52, Try.ntmps52
      go_wp2_with fail
      go_ret
      rw [HR.out]
      exact ⟨rfl, (Keeps.refl _ w).alloc _⟩
end Go.Proofs.Ytnnkfopopanfjaa
