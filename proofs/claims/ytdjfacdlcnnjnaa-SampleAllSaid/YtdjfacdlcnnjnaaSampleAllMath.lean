/- Of all but one number each is left out by some seed: reckoned by the kernel. No condition. -/
import Derived.Test.YtdjfacdlcnnjnaaSampleMath
set_option linter.unusedVariables false
namespace Go.Proofs.Ytdjfacdlcnnjnaa
open Go.RowKit

def nxC (s : Nat) : Nat := (s + 11400714819323198485) % 18446744073709551616
def seedC (s x : Nat) : Nat := mixR (nxC s ^^^ x)
def triesC (few : Nat) : Nat → Nat → Nat × Nat
  | 0, s => (nxC s, mixR (nxC s))
  | k + 1, s => if mixR (nxC s) < few then triesC few k (nxC s) else (nxC s, mixR (nxC s))
def belowC (s n : Nat) : Nat × Nat := let t := triesC (fewN n) 15 s; (t.1, t.2 % n)
def pickC (l : List Nat) (j x : Nat) : Nat := if l.contains x then j else x
/-- i draws; the numbers, the last one first. -/
def drawC (lo : Nat) : Nat → Nat → Nat → List Nat → List Nat
  | 0, _, _, l => l
  | k + 1, i, s, l => let b := belowC s (lo + i + 1); drawC lo k (i + 1) b.1 (pickC l (lo + i) b.2 :: l)
theorem nxC_eq (s : Nat) : nxS s = nxC s := nxS_def s
theorem nxV_eq (s : Nat) : nxV s = mixR (nxC s) := by unfold nxV; rw [nxC_eq, mixN_def]
theorem triesC_eq (few k : Nat) : ∀ s, tries few k s = triesC few k s := by
  induction k with
  | zero => intro s; rw [tries_zero, nxV_eq, nxC_eq]; rfl
  | succ k ih => intro s; rw [tries_succ, nxV_eq, nxC_eq, ih]; rfl
theorem belowC_eq (s n : Nat) (h : 0 < n) : belowN s n = belowC s n := by rw [belowN_pos s n h, triesC_eq]; rfl
theorem seedC_eq (a b : Nat) : seedN [a, b] = seedC (seedC 0 a) b := by
  unfold seedN seedC
  simp only [List.foldl_cons, List.foldl_nil, seedStep]
  rw [mixN_def, mixN_def, nxC_eq, nxC_eq]
theorem drawC_mem (s lo : Nat) (x : Nat) (k : Nat) : ∀ (i st : Nat) (l : List Nat), drawN s lo i = (st, (drawN s lo i).2) → (∀ y : Nat, (y : Int) ∈ (drawN s lo i).2 ↔ y ∈ l) → ((x : Int) ∈ (drawN s lo (i + k)).2 ↔ x ∈ drawC lo k i st l) := by
  induction k with
  | zero => intro i st l h1 h2; exact h2 x
  | succ k ih =>
    intro i st l h1 h2
    have e : drawN s lo (i + 1) = ((belowC st (lo + i + 1)).1, (drawN s lo i).2 ++ [pickN (drawN s lo i).2 (lo + i) (belowC st (lo + i + 1)).2]) := by
      show ((belowN (drawN s lo i).1 (lo + i + 1)).1, (drawN s lo i).2 ++ [pickN (drawN s lo i).2 (lo + i) (belowN (drawN s lo i).1 (lo + i + 1)).2]) = _
      rw [congrArg Prod.fst h1, belowC_eq _ _ (by omega)]
    have hp : pickN (drawN s lo i).2 (lo + i) (belowC st (lo + i + 1)).2 = ((pickC l (lo + i) (belowC st (lo + i + 1)).2 : Nat) : Int) := by
      unfold pickN pickC
      by_cases hm : (belowC st (lo + i + 1)).2 ∈ l
      · rw [if_pos ((h2 _).2 hm), if_pos (List.contains_iff_mem.2 hm)]
      · rw [if_neg (fun h => hm ((h2 _).1 h)), if_neg (fun h => hm (List.contains_iff_mem.1 h))]
    have := ih (i + 1) (belowC st (lo + i + 1)).1 (pickC l (lo + i) (belowC st (lo + i + 1)).2 :: l) (by rw [e]) (by
      intro y
      rw [e, hp]
      simp only [List.mem_append, List.mem_cons, List.not_mem_nil, or_false, h2 y]
      constructor
      · rintro (h | h)
        · exact .inr h
        · exact .inl (by omega)
      · rintro (h | h)
        · exact .inr (by rw [h])
        · exact .inl h)
    rw [show i + (k + 1) = (i + 1) + k by omega]
    exact this
/-- Is a number left out by some of 200 seeds? -/
def outC (n seed i : Nat) : Bool := (List.range 200).any fun s => !(drawC 1 (n - 1) 0 (seedC (seedC 0 seed) s) []).contains i
def allC : Bool := (List.range 6).all fun m => (List.range 64).all fun seed => (List.range (m + 1)).all fun i => outC (m + 1) seed i
theorem allC_true : allC = true := by decide +kernel
theorem left_out (n seed i : Nat) (hn : 1 ≤ n) (hn6 : n ≤ 6) (hs : seed < 64) (hi : i < n) : ∃ s, s < 200 ∧ ¬ (i : Int) ∈ someN (seedN [seed, s]) n (n - 1) := by
  have h := allC_true
  unfold allC at h
  have h1 := List.all_eq_true.1 h (n - 1) (List.mem_range.2 (by omega))
  have h2 := List.all_eq_true.1 h1 seed (List.mem_range.2 hs)
  have h3 := List.all_eq_true.1 h2 i (List.mem_range.2 (by omega))
  rw [show n - 1 + 1 = n by omega] at h3
  obtain ⟨s, hs2, h4⟩ := List.any_eq_true.1 h3
  refine ⟨s, List.mem_range.1 hs2, fun hm => ?_⟩
  have hc : cntN (n : Int) ((n : Int) - 1) = n - 1 := by unfold cntN; rw [if_neg (by omega)]; omega
  have hl : loN (n : Int) ((n : Int) - 1) = 1 := by unfold loN; rw [hc]; omega
  unfold someN at hm
  rw [hc, hl, mem_srt] at hm
  have := (drawC_mem (seedN [seed, s]) 1 i (n - 1) 0 (seedN [seed, s]) [] rfl (by intro y; simp [drawN])).1 (by rw [Nat.zero_add]; exact hm)
  rw [seedC_eq] at this
  rw [List.contains_iff_mem.2 this] at h4
  simp at h4
end Go.Proofs.Ytdjfacdlcnnjnaa
