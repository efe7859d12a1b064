/- Of an object's composite blocks the outer equations hold: the plain law. Conditions: parameters that may be. -/
import Derived.Test.YtpkkaicpbihjfaaJoinMath
import Derived.Test.YtpkkaicpbihjfaaRef10Eqs
set_option linter.unusedVariables false
namespace Go.Proofs.Ytpkkaicpbihjfaa
open Go.RowKit

theorem xorL_self (s : List UInt8) : xorL s s = List.replicate s.length 0 := by
  induction s with
  | nil => rfl
  | cons x r ih =>
    have : xorL (x :: r) (x :: r) = (x ^^^ x) :: xorL r r := rfl
    rw [this, ih, UInt8.xor_self]; rfl
theorem sumB_snoc (n : Nat) (ls : List (List UInt8)) (l : List UInt8) : sumB n (ls ++ [l]) = xorL (sumB n ls) l := by
  unfold sumB xorAll; rw [List.foldl_append]; rfl
theorem comp_aux (p : Par) (session : Nat) (obj : List UInt8) (j : Nat) (hj : j < (auxN p).toNat) : gr (compN p session obj) (p.n.toNat + j) = auxB p session obj j := by
  unfold gr compN compK
  rw [List.getD_eq_getElem?_getD, List.getElem?_append_right (by rw [splitN_length]; omega), splitN_length]
  simp [hj]
theorem holds_at {p : Par} (hm : p.may) (session : Nat) (obj : List UInt8) (j : Nat) (hj : j < (auxN p).toNat) :
    inRange (compN p session obj).length (gl (hasN p session p.n.toNat) j ++ [p.n + (j : Int)]) ∧ fitN p.b (pickR (compN p session obj) (gl (hasN p session p.n.toNat) j ++ [p.n + (j : Int)])) = true ∧
    sumB p.b.toNat (pickR (compN p session obj) (gl (hasN p session p.n.toNat) j ++ [p.n + (j : Int)])) = List.replicate p.b.toNat 0 ∧ (gl (hasN p session p.n.toNat) j ++ [p.n + (j : Int)]).length ≤ 1073741824 := by
  have hn : 1 ≤ p.n ∧ p.n ≤ 1048576 := ⟨hm.1, hm.2.1⟩
  have hpb : 1 ≤ p.b := hm.2.2.1
  have hr := has_range' hm session obj j
  have e1 : pickR (compN p session obj) (gl (hasN p session p.n.toNat) j) = pickR (splitN p obj) (gl (hasN p session p.n.toNat) j) := pick_append hr
  have e2 : (p.n + (j : Int)).toNat = p.n.toNat + j := by omega
  have e3 : pickR (compN p session obj) (gl (hasN p session p.n.toNat) j ++ [p.n + (j : Int)]) = pickR (splitN p obj) (gl (hasN p session p.n.toNat) j) ++ [auxB p session obj j] := by
    rw [pickR_snoc, e1, e2, comp_aux p session obj j hj]
  have hf := pick_fit p obj hr
  have hl := auxB_length hm session obj j
  have hb := hasN_bound p session hm p.n.toNat j
  refine ⟨?_, ?_, ?_, ?_⟩
  · intro i hi
    unfold compN
    rw [compK_length]
    rcases List.mem_append.1 hi with h | h
    · have := hr i h; rw [splitN_length] at this; omega
    · have := List.mem_singleton.1 h; omega
  · rw [e3]
    unfold fitN fitB
    rw [List.all_append]
    unfold fitB at hf
    rw [hf]
    simp [hl]; omega
  · rw [e3, sumB_snoc, show auxB p session obj j = sumB p.b.toNat (pickR (splitN p obj) (gl (hasN p session p.n.toNat) j)) from rfl, xorL_self, sumB_length hf]
  · rw [List.length_append]; simp; omega
theorem zero_repl (n : Nat) : zeroB (List.replicate n 0) = true := by simp [zeroB]
theorem check_holds {p : Par} (hm : p.may) (session : Nat) (obj : List UInt8) (j : Nat) (hj : j < (auxN p).toNat) (A : Option Addr) (c : Nat) (A2 : Option Addr) (c2 : Nat) (R : Nat → Prop) (w : World) (hb : RowsIn R w A (compN p session obj)) (hi : IntsAt w .i64 A2 (gl (eqsN (hasN p session p.n.toNat) p.n (auxN p).toNat) j)) :
    Calls Try.prog 42 #[.int .i64 p.b, .slice A (compN p session obj).length c, .slice A2 (gl (eqsN (hasN p session p.n.toNat) p.n (auxN p).toNat) j).length c2] w fun e w' => ∃ v, e = .returned (.tuple #[v, .bool true]) ∧ OwnB w' w.heap.size v (List.replicate p.b.toNat 0) ∧ Keeps NoB w w' := by
  obtain ⟨h1, h2, h3, h4⟩ := holds_at hm session obj j hj
  have hpb : 1 ≤ p.b ∧ p.b ≤ 65535 := ⟨hm.2.2.1, hm.2.2.2.1⟩
  rw [eqsN_gl _ _ _ _ hj] at hi ⊢
  refine (check_in p.b (compN p session obj) _ A c A2 c2 R w (by omega) (by omega) hb hi h1 h4).mono ?_
  rintro e w' ⟨hk, ⟨hf, _⟩ | ⟨_, v, he, ho⟩⟩
  · rw [h2] at hf; cases hf
  · rw [h3] at ho; exact ⟨v, he, ho, hk⟩
end Go.Proofs.Ytpkkaicpbihjfaa
