/- Small walks of layer 13's laws: same, big. No condition but that numbers are of their kinds. -/
import Derived.Test.YtnnkfopopanfjaaRef13
import Derived.Deep.QuietTactic
set_option linter.unusedVariables false
namespace Go.Proofs.Ytnnkfopopanfjaa
open Go.RowKit
attribute [local go_sem ↓] Go.wp_at_zero Go.wp_at_succ

def sameB (a b : List (List UInt8)) : Bool := decide (a = b)
theorem rows_ext {a b : List (List UInt8)} (hl : a.length = b.length) (h : ∀ j, j < a.length → gr a j = gr b j) : a = b := by
  apply List.ext_getElem hl
  intro j h1 h2
  have := h j h1
  rwa [gr_eq a j h1, gr_eq b j h2] at this
set_option maxHeartbeats 1000000 in
set_option maxRecDepth 20000 in
theorem same13_calls (a b : List (List UInt8)) (A1 A2 : Option Addr) (c1 c2 : Nat) (R1 R2 : Nat → Prop) (w : World) (h1 : RowsIn R1 w A1 a) (h2 : RowsIn R2 w A2 b) :
    Calls Try.prog 11 #[.slice A1 a.length c1, .slice A2 b.length c2] w fun e w' => e = .returned (.bool (sameB a b)) ∧ Keeps NoB w w' := by
  have hl1 := h1.len
  have hl2 := h2.len
  have H1 := hid h1
  have H2 := hid h2
  have hext := hid (rows_ext (a := a) (b := b))
  by_cases hl : a.length = b.length
  · obtain ⟨n, hn⟩ : ∃ n, b.length = n := ⟨_, rfl⟩
    rw [hn] at hl
    rw [hl, hn]
    have hn1 := hid hl
    have hn2 := hid hn
    have dne : ((n : Int) != (n : Int)) = false := by simp
    rw [hl] at hl1
    clear h1 h2 hl hn hl2
    go_enter Try.func11, Try.ntmps11
    go_wp2_with fail
    go_loopw [13] (fun v13 wr => ∃ k : Nat, k ≤ n ∧ v13 = .int .i64 (k : Int) ∧ Hid (∀ j, j < k → gr a j = gr b j) ∧ Hid (Keeps NoB w wr)) (fun v13 _ => n - (intOf v13).toNat)
    case atStart => exact ⟨0, Nat.zero_le _, rfl, fun j h => absurd h (Nat.not_lt_zero _), Keeps.refl _ _⟩
    case round =>
      obtain ⟨k, hk, rfl, HJ, HK⟩ := hrel
      by_cases hlt : k < n
      · obtain ⟨b1, o1, rfl, _, hc1⟩ := (H1.out.kept HK.out).2 (by rw [hn1.out]; omega)
        obtain ⟨u1, k1, B1, d1, rfl, _, _, r1⟩ := hc1 k (by rw [hn1.out]; exact hlt)
        obtain ⟨b2, o2, rfl, _, hc2⟩ := (H2.out.kept HK.out).2 (by rw [hn2.out]; omega)
        obtain ⟨u2, k2, B2, d2, rfl, _, _, r2⟩ := hc2 k (by rw [hn2.out]; exact hlt)
        have e1 := fun n => conv_run 25 9 Try.underlying25 Try.underlying9 (r1.kept ((Keeps.refl NoB wr).drewN n)) d1
        have e2 := fun n => conv_run 25 9 Try.underlying25 Try.underlying9 (r2.kept ((Keeps.refl NoB wr).drewN n)) d2
        have q0 : (0 : Int) ≤ (k : Int) := by omega
        have q1 : (k : Int) < (n : Int) := by omega
        clear hc1 hc2 r1 r2
        by_cases hx : gr a k = gr b k
        · have HJ2 := hid (show ∀ j, j < k + 1 → gr a j = gr b j from fun j hj => by
            by_cases e : j = k
            · rw [e]; exact hx
            · exact HJ.out j (by omega))
          have deq : ((strOf (gr a k)).toList == (strOf (gr b k)).toList) = true := by rw [hx]; simp
          clear hx
          generalize gr a k = x at *
          generalize gr b k = y at *
          go_wp2_with fail
          go_quiet (fail)
          go_wp2_with fail
          go_roundw
          case rel => exact ⟨k + 1, by omega, by go_num, HJ2, hid (HK.out.drewN _)⟩
          case measure => simp [intOf]; omega
        · have hs := hid (show sameB a b = false from decide_eq_false (fun e => hx (by rw [e])))
          have deq : ((strOf (gr a k)).toList == (strOf (gr b k)).toList) = false := by
            rw [strOf_toList, strOf_toList]; simpa using hx
          clear hx
          generalize gr a k = x at *
          generalize gr b k = y at *
          go_wp2_with fail
          go_quiet (fail)
          go_wp2_with fail
          go_ret
          rw [hs.out]
          exact ⟨rfl, HK.out.drewN _⟩
      · obtain rfl : k = n := by omega
        have hs := hid (show sameB a b = true from decide_eq_true (hext.out (by rw [hn1.out, hn2.out]) (fun j hj => HJ.out j (by rw [← hn1.out]; exact hj))))
        go_wp2_with fail
        go_ret
        rw [hs.out]
        exact ⟨rfl, HK.out⟩
  · have hs := hid (show sameB a b = false from decide_eq_false (fun e => hl (by rw [e])))
    have dne : (((a.length : Nat) : Int) != ((b.length : Nat) : Int)) = true := by simp; omega
    generalize a.length = n at *
    generalize b.length = m at *
    clear h1 h2 hl
    go_enter Try.func11, Try.ntmps11
    go_wp2_with fail
    go_ret
    rw [hs.out]
    exact ⟨rfl, Keeps.refl _ _⟩
def bigN (p : Par) : Bool := decide (60 < p.n ∨ 60 < p.b ∨ p.n < -60)
set_option maxHeartbeats 1000000 in
set_option maxRecDepth 20000 in
theorem big13_calls (p : Par) (w : World) :
    Calls Try.prog 8 #[p.val] w fun e w' => e = .returned (.bool (bigN p)) ∧ Keeps NoB w w' := by
  have hu := Try.underlying23
  have HK := hid ((Keeps.refl NoB w).alloc (.cells #[.int .i64 p.n, .int .i64 p.b, .int .i64 p.q, .int .i64 p.eps, .int .i64 p.f] 23))
  unfold Par.val
  by_cases h1 : 60 < p.n
  · have hb := hid (show bigN p = true from decide_eq_true (.inl h1))
    have d1 : decide ((60 : Int) < p.n) = true := decide_eq_true h1
    clear h1
    go_enter Try.func8, Try.ntmps8
    go_wp2_with fail
    go_ret
    rw [hb.out]
    exact ⟨rfl, HK.out⟩
  · have d1 : decide ((60 : Int) < p.n) = false := decide_eq_false h1
    by_cases h2 : 60 < p.b
    · have hb := hid (show bigN p = true from decide_eq_true (.inr (.inl h2)))
      have d2 : decide ((60 : Int) < p.b) = true := decide_eq_true h2
      clear h1 h2
      go_enter Try.func8, Try.ntmps8
      go_wp2_with fail
      go_ret
      rw [hb.out]
      exact ⟨rfl, HK.out⟩
    · have d2 : decide ((60 : Int) < p.b) = false := decide_eq_false h2
      by_cases h3 : p.n < -60
      · have hb := hid (show bigN p = true from decide_eq_true (.inr (.inr h3)))
        have d3 : decide (p.n < -60) = true := decide_eq_true h3
        clear h1 h2 h3
        go_enter Try.func8, Try.ntmps8
        go_wp2_with fail
        go_ret
        rw [hb.out]
        exact ⟨rfl, HK.out⟩
      · have hb := hid (show bigN p = false from decide_eq_false (by omega))
        have d3 : decide (p.n < -60) = false := decide_eq_false h3
        clear h1 h2 h3
        go_enter Try.func8, Try.ntmps8
        go_wp2_with fail
        go_ret
        rw [hb.out]
        exact ⟨rfl, HK.out⟩
end Go.Proofs.Ytnnkfopopanfjaa
