/- Composite blocks of which one is turned, or one is missing, or there is one more: the plain law. Conditions: parameters that may be. -/
import Derived.Test.YtpkkaicpbihjfaaJoinMath
set_option linter.unusedVariables false
namespace Go.Proofs.Ytpkkaicpbihjfaa
open Go.RowKit

/-- A byte of a block that is turned. -/
def turnB (l : List UInt8) (at' : Nat) (by' : UInt8) : List UInt8 := l.set at' (gb l at' ^^^ by')
theorem turnB_length (l : List UInt8) (a : Nat) (x : UInt8) : (turnB l a x).length = l.length := by simp [turnB]
/-- The blocks, one of which is another. -/
def turnR (ls : List (List UInt8)) (k : Nat) (x : List UInt8) : List (List UInt8) := ls.set k x
theorem turnR_length (ls : List (List UInt8)) (k : Nat) (x : List UInt8) : (turnR ls k x).length = ls.length := by simp [turnR]
/-- What is made of the blocks by 'more'. -/
def moreR (ls : List (List UInt8)) (more : Int) (x : List UInt8) : List (List UInt8) := if more < 0 then ls.take (ls.length - 1) else if 0 < more then ls ++ [x] else ls
theorem compN_length (p : Par) (session : Nat) (o : List UInt8) : (compN p session o).length = p.n.toNat + (auxN p).toNat := by unfold compN; rw [compK_length]
theorem right_more {p : Par} (hm : p.may) (session : Nat) (obj : List UInt8) (k : Nat) (x : List UInt8) (more n : Int) (h : more ≠ 0) : rightB p session n (moreR (turnR (compN p session obj) k x) more x) = false := by
  refine rightB_false (fun hr => ?_)
  have hl := congrArg List.length hr.2.2.2
  rw [compN_length] at hl
  have hn : 1 ≤ p.n := hm.1
  unfold moreR at hl
  split at hl
  · rw [List.length_take, turnR_length, compN_length] at hl; omega
  · split at hl
    · rw [List.length_append, turnR_length, compN_length] at hl; simp at hl
    · omega
/-- Whether these are the blocks of the object that they would be of. -/
theorem right_same {p : Par} (hm : p.may) (session : Nat) (n : Int) (ls : List (List UInt8)) (hl : ls.length = p.n.toNat + (auxN p).toNat) (hf : fitB p.b.toNat ls = true) :
    rightB p session n ls = (decide (0 ≤ n) && decide (n ≤ p.n * p.b) && sameB ls (compN p session ((ls.take p.n.toNat).flatten.take n.toNat))) := by
  have hn : 1 ≤ p.n := hm.1
  have ht : (ls.take p.n.toNat).length = p.n.toNat := by rw [List.length_take]; omega
  have hft : fitB p.b.toNat (ls.take p.n.toNat) = true := by
    unfold fitB at hf ⊢
    rw [List.all_eq_true] at hf ⊢
    exact fun l h => hf l (List.mem_of_mem_take h)
  by_cases hr : RightOk p session n ls
  · rw [rightB_true hr]
    obtain ⟨_, _, ⟨_, h0, h1, _⟩, he⟩ := hr
    have hs : sameB ls (compN p session ((ls.take p.n.toNat).flatten.take n.toNat)) = true := decide_eq_true he
    rw [hs, decide_eq_true h0, decide_eq_true h1]; rfl
  · rw [rightB_false hr]
    by_cases h0 : 0 ≤ n
    · by_cases h1 : n ≤ p.n * p.b
      · have hs : sameB ls (compN p session ((ls.take p.n.toNat).flatten.take n.toNat)) = false := decide_eq_false (fun he => hr ⟨hm, by omega, ⟨by omega, h0, h1, hft⟩, he⟩)
        rw [hs]; simp
      · rw [decide_eq_false h1]; simp
    · rw [decide_eq_false h0]; simp
theorem comp_fitB {p : Par} (hm : p.may) (session : Nat) (obj : List UInt8) : fitB p.b.toNat (compN p session obj) = true := by
  unfold fitB
  rw [List.all_eq_true]
  intro l hl
  have := comp_fit hm session obj _ l hl
  simpa using this
theorem turn_fitB {p : Par} (hm : p.may) (session : Nat) (obj : List UInt8) (k : Nat) (x : List UInt8) (hx : x.length = p.b.toNat) : fitB p.b.toNat (turnR (compN p session obj) k x) = true := by
  have h := comp_fitB hm session obj
  unfold fitB turnR at *
  rw [List.all_eq_true] at h ⊢
  intro l hl
  rcases List.mem_or_eq_of_mem_set hl with h1 | h1
  · exact h l h1
  · subst h1; simpa using hx
end Go.Proofs.Ytpkkaicpbihjfaa
