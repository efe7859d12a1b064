/- Of 4000 check blocks about as many are made of one block as there should be, by each of 64 seeds: reckoned by the kernel. No condition. -/
import Derived.Test.YtjfilleddekcmaaMath
set_option linter.unusedVariables false
namespace Go.Proofs.Ytjfilleddekcmaa
open Go.RowKit

def nxD (s : Nat) : Nat := (s + 11400714819323198485) % 18446744073709551616
def seedD (s x : Nat) : Nat := mixR (nxD s ^^^ x)
theorem nxD_eq (s : Nat) : nxS s = nxD s := nxS_def s
theorem nvD_eq (s : Nat) : nxV s = mixR (nxD s) := by unfold nxV; rw [nxD_eq, mixN_def]
theorem seedD_eq (a b c : Nat) : seedN [a, b, c] = seedD (seedD (seedD 0 a) b) c := by
  unfold seedN seedD
  simp only [List.foldl_cons, List.foldl_nil, seedStep]
  rw [mixN_def, mixN_def, mixN_def, nxD_eq, nxD_eq, nxD_eq]
/-- 1, if the number drawn is in the lowest quarter; else 0. -/
def oneD (st id : Nat) : Nat := 1 - mixR (nxD (seedD st id)) / 4611686018427387904
def sumD (st lo : Nat) : Nat → Nat
  | 0 => 0
  | k + 1 => sumD st lo k + oneD st (lo + k)
theorem sumD_add (st lo a b : Nat) : sumD st lo (a + b) = sumD st lo a + sumD st (lo + a) b := by
  induction b with
  | zero => rfl
  | succ b ih => show sumD st lo (a + b) + oneD st (lo + (a + b)) = sumD st lo a + (sumD st (lo + a) b + oneD st (lo + a + b)); rw [ih, Nat.add_assoc lo a b]; omega
/-- The same, by halves: for the kernel. -/
def cntD (st : Nat) : Nat → Nat → Nat → Nat
  | 0, _, _ => 0
  | k + 1, lo, len => match len with
    | 0 => 0
    | 1 => oneD st lo
    | m + 2 => cntD st k lo ((m + 2) / 2) + cntD st k (lo + (m + 2) / 2) ((m + 2) - (m + 2) / 2)
theorem cntD_eq (st : Nat) : ∀ k lo len, len ≤ 2 ^ k → cntD st (k + 1) lo len = sumD st lo len := by
  intro k
  induction k with
  | zero =>
    intro lo len hl
    match len, hl with
    | 0, _ => rfl
    | 1, _ => show oneD st lo = 0 + oneD st (lo + 0); rw [Nat.zero_add, Nat.add_zero]
    | m + 2, hl => simp at hl
  | succ k ih =>
    intro lo len hl
    match len, hl with
    | 0, _ => rfl
    | 1, _ => show oneD st lo = 0 + oneD st (lo + 0); rw [Nat.zero_add, Nat.add_zero]
    | m + 2, hl =>
      show cntD st (k + 1) lo ((m + 2) / 2) + cntD st (k + 1) (lo + (m + 2) / 2) ((m + 2) - (m + 2) / 2) = _
      have hp : 2 ^ (k + 1) = 2 ^ k * 2 := Nat.pow_succ 2 k
      rw [ih _ _ (by omega), ih _ _ (by omega), ← sumD_add, show (m + 2) / 2 + (m + 2 - (m + 2) / 2) = m + 2 by omega]
def okD (seed : Nat) : Bool := let c := cntD (seedD (seedD 0 seed) 2) 13 0 4000; Nat.blt 700 c && Nat.blt c 1300
theorem okD_0 : ((List.range 8).all fun i => okD (0 + i)) = true := by decide +kernel
theorem okD_1 : ((List.range 8).all fun i => okD (8 + i)) = true := by decide +kernel
theorem okD_2 : ((List.range 8).all fun i => okD (16 + i)) = true := by decide +kernel
theorem okD_3 : ((List.range 8).all fun i => okD (24 + i)) = true := by decide +kernel
theorem okD_4 : ((List.range 8).all fun i => okD (32 + i)) = true := by decide +kernel
theorem okD_5 : ((List.range 8).all fun i => okD (40 + i)) = true := by decide +kernel
theorem okD_6 : ((List.range 8).all fun i => okD (48 + i)) = true := by decide +kernel
theorem okD_7 : ((List.range 8).all fun i => okD (56 + i)) = true := by decide +kernel
theorem shares_ok (seed : Nat) (h : seed < 64) : 700 < sumD (seedD (seedD 0 seed) 2) 0 4000 ∧ sumD (seedD (seedD 0 seed) 2) 0 4000 < 1300 := by
  have hok : okD seed = true := by
    have key : ∀ b, ((List.range 8).all fun i => okD (b + i)) = true → b ≤ seed → seed < b + 8 → okD seed = true := fun b hb h1 h2 => by
      have := List.all_eq_true.1 hb (seed - b) (List.mem_range.2 (by omega))
      rwa [show b + (seed - b) = seed by omega] at this
    rcases (show seed < 8 ∨ (8 ≤ seed ∧ seed < 16) ∨ (16 ≤ seed ∧ seed < 24) ∨ (24 ≤ seed ∧ seed < 32) ∨ (32 ≤ seed ∧ seed < 40) ∨ (40 ≤ seed ∧ seed < 48) ∨ (48 ≤ seed ∧ seed < 56) ∨ (56 ≤ seed ∧ seed < 64) by omega) with h | h | h | h | h | h | h | h
    · exact key 0 okD_0 (by omega) (by omega)
    · exact key 8 okD_1 h.1 (by omega)
    · exact key 16 okD_2 h.1 (by omega)
    · exact key 24 okD_3 h.1 (by omega)
    · exact key 32 okD_4 h.1 (by omega)
    · exact key 40 okD_5 h.1 (by omega)
    · exact key 48 okD_6 h.1 (by omega)
    · exact key 56 okD_7 h.1 (by omega)
  unfold okD at hok
  simp only [Bool.and_eq_true] at hok
  rw [cntD_eq _ 12 0 4000 (by decide)] at hok
  exact ⟨Nat.le_of_ble_eq_true hok.1, Nat.le_of_ble_eq_true hok.2⟩
end Go.Proofs.Ytjfilleddekcmaa
