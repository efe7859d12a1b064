/- Are two lists the same; is a number among some that rise; a sample by its contract. Conditions: lengths that the lists' reads bear. -/
import Derived.Test.YtpkkaicpbihjfaaSome
import Derived.Test.YtpkkaicpbihjfaaSampleMath
set_option linter.unusedVariables false
namespace Go.Proofs.Ytpkkaicpbihjfaa
open Go.RowKit

def sameN (a b : List Int) : Int := if a = b then 1 else 0
theorem list_ext_gi {xs ys : List Int} (hl : xs.length = ys.length) (h : ∀ j, j < xs.length → gi xs j = gi ys j) : xs = ys := by
  apply List.ext_getElem hl
  intro j h1 h2
  have := h j h1
  rwa [gi_eq _ _ h1, gi_eq _ _ h2] at this
theorem RandAt.ne {w : World} {g s : Nat} {A : Option Addr} {xs : List Int} (hr : RandAt w g s) (h : IntsAt w .i64 A xs) : ∀ b off, A = some ⟨b, off, none⟩ → 0 < xs.length → ¬ b = g := by
  intro b off e h0 hb
  obtain ⟨b', off', e', hc⟩ := h.get h0
  obtain ⟨rfl, rfl⟩ : b' = b ∧ off' = off := by rw [e'] at e; simpa using e
  subst hb
  have := hc 0 h0
  simp only [World.cell?, hr.1] at this
  rcases Nat.eq_zero_or_pos (off' + 0) with h1 | h1
  · rw [h1] at this; simp at this
  · rw [show (off' + 0) = (off' + 0 - 1) + 1 by omega] at this; simp at this
/-- A sample, as all callers use it. -/
theorem some_calls (g s : Nat) (below many : Int) (w : World) (h : RandAt w g s) (hb : below ≤ 1073741824) (hb' : -9223372036854775808 ≤ below) (hm0 : -9223372036854775808 ≤ many) (hm1 : many ≤ 9223372036854775807) :
    Calls Try.prog 70 #[.pointer (some ⟨g, 0, none⟩), .int .i64 below, .int .i64 many] w fun e w' => ∃ v, e = .returned v ∧ OwnInts w' w.heap.size .i64 3 v (someN s below many) ∧ RandAt w' g (someS s below many) ∧ Keeps (· = g) w w' := by
  refine (some_core g s below many _ _ w h hb hb' hm0 hm1 rfl rfl).mono ?_
  rintro e w' ⟨v, rfl, h1, h2, h3⟩
  refine ⟨v, rfl, ?_, h2, h3⟩
  have : someN s below many = srtM (drawN s (loN below many) (cntN below many)).2 := (srtM_eq _).symm
  rw [this]; exact h1
theorem rsome_calls (s : Nat) (below many : Int) (w : World) (hs : s < 18446744073709551616) (hb : below ≤ 1073741824) (hb' : -9223372036854775808 ≤ below) (hm0 : -9223372036854775808 ≤ many) :
    Calls Try.prog 56 #[.int .u64 (s : Int), .int .i64 below, .int .i64 many] w fun e w' => ∃ A c, e = .returned (.tuple #[.int .u64 ((someS s below many) : Nat), .slice A (someN s below many).length c]) ∧ (someN s below many).length ≤ c ∧ IntsAt w' .i64 A (someN s below many) ∧ Keeps NoB w w' := by
  refine (rsome_core s below (if many > below then below else many) _ _ many w hs hb hb' (by split <;> omega) (by split <;> omega) rfl rfl rfl).mono ?_
  rintro e w' ⟨A, c, rfl, h1, h2, h3⟩
  exact ⟨A, c, by rw [someN_length]; rfl, by rw [someN_length]; exact h1, h2, h3⟩
theorem someS_lt (s : Nat) (below many : Int) (hs : s < 18446744073709551616) : someS s below many < 18446744073709551616 := drawN_lt s _ hs _
end Go.Proofs.Ytpkkaicpbihjfaa
