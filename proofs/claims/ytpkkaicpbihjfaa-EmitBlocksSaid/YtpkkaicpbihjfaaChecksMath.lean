/- Can blocks be put upon each other: what compose.Check answers. Conditions: numbers are of their kinds. -/
import Derived.Test.YtpkkaicpbihjfaaPick
set_option linter.unusedVariables false
namespace Go.Proofs.Ytpkkaicpbihjfaa
open Go.RowKit

/-- Can these be put upon each other? -/
def okAt (n : Int) (ls : List (List UInt8)) (i : Int) : Bool := decide (0 ≤ i) && decide (i < (ls.length : Int)) && decide (((gr ls i.toNat).length : Int) = n)
def checkB (n : Int) (ls : List (List UInt8)) (is : List Int) : Bool := decide (0 ≤ n) && is.all (okAt n ls)
theorem checkB_snoc (n : Int) (ls : List (List UInt8)) (is : List Int) (i : Int) : checkB n ls (is ++ [i]) = (checkB n ls is && okAt n ls i) := by
  unfold checkB; rw [List.all_append, Bool.and_assoc]; simp
theorem checkB_yes {n : Int} {ls : List (List UInt8)} {is : List Int} (h : checkB n ls is = true) : 0 ≤ n ∧ inRange ls.length is ∧ fitN n (pickR ls is) = true ∧ fitB n.toNat (pickR ls is) = true := by
  simp only [checkB, Bool.and_eq_true, decide_eq_true_eq, List.all_eq_true, okAt] at h
  obtain ⟨h0, h1⟩ := h
  have hf : fitB n.toNat (pickR ls is) = true := by
    unfold fitB pickR
    rw [List.all_eq_true]
    intro l hl
    obtain ⟨i, hi, rfl⟩ := List.mem_map.1 hl
    have := (h1 i hi).2
    simp; omega
  refine ⟨h0, fun i hi => ?_, ?_, hf⟩
  · have := h1 i hi; omega
  · unfold fitN; rw [hf]; simp [h0]
theorem checkB_no {n : Int} {ls : List (List UInt8)} {is : List Int} (h : checkB n ls is = false) (hr : inRange ls.length is) : fitN n (pickR ls is) = false := by
  cases hf : fitN n (pickR ls is)
  · rfl
  · exfalso
    unfold fitN at hf
    simp only [Bool.and_eq_true, decide_eq_true_eq] at hf
    have : checkB n ls is = true := by
      simp only [checkB, Bool.and_eq_true, decide_eq_true_eq, List.all_eq_true, okAt]
      refine ⟨hf.1, fun i hi => ?_⟩
      have h1 := hr i hi
      have h2 := hf.2
      unfold fitB pickR at h2
      rw [List.all_eq_true] at h2
      have h3 := h2 (gr ls i.toNat) (List.mem_map.2 ⟨i, hi, rfl⟩)
      simp at h3
      omega
    rw [this] at h; cases h
theorem check_bad (n : Int) (ls : List (List UInt8)) (is : List Int) (A : Option Addr) (c : Nat) (A2 : Option Addr) (c2 : Nat) (R : Nat → Prop) (w : World) (hn0 : -9223372036854775808 ≤ n) (hn : n ≤ 1073741824) (hb : RowsIn R w A ls) (hi : IntsAt w .i64 A2 is) (hlen : is.length ≤ 1073741824) (hx : checkB n ls is = false) :
    Calls Try.prog 42 #[.int .i64 n, .slice A ls.length c, .slice A2 is.length c2] w fun e w' => e = .returned (.tuple #[.slice none 0 0, .bool false]) ∧ Keeps NoB w w' := by
  by_cases hr : inRange ls.length is
  · refine (check_in n ls is A c A2 c2 R w hn0 hn hb hi hr hlen).mono ?_
    rintro e w' ⟨hk, ⟨_, he⟩ | ⟨hf, _⟩⟩
    · exact ⟨he, hk⟩
    · rw [checkB_no hx hr] at hf; cases hf
  · exact check_out n ls is A c A2 c2 w hb.len hi hr
theorem check_good (n : Int) (ls : List (List UInt8)) (is : List Int) (A : Option Addr) (c : Nat) (A2 : Option Addr) (c2 : Nat) (R : Nat → Prop) (w : World) (hn : n ≤ 1073741824) (hb : RowsIn R w A ls) (hi : IntsAt w .i64 A2 is) (hlen : is.length ≤ 1073741824) (hx : checkB n ls is = true) :
    Calls Try.prog 42 #[.int .i64 n, .slice A ls.length c, .slice A2 is.length c2] w fun e w' => ∃ v, e = .returned (.tuple #[v, .bool true]) ∧ OwnB w' w.heap.size v (sumB n.toNat (pickR ls is)) ∧ Keeps NoB w w' := by
  obtain ⟨h0, h1, h2, _⟩ := checkB_yes hx
  refine (check_in n ls is A c A2 c2 R w (by omega) hn hb hi h1 hlen).mono ?_
  rintro e w' ⟨hk, ⟨hf, _⟩ | ⟨_, v, he, ho⟩⟩
  · rw [h2] at hf; cases hf
  · exact ⟨v, he, ho, hk⟩
end Go.Proofs.Ytpkkaicpbihjfaa
