/- Equations that all hold of some blocks agree: the plain law. No condition. -/
import Derived.Test.YtkjaacpcnjakcaaAgreeMath
import Derived.Test.YtkjaacpcnjakcaaSumsMath
set_option linter.unusedVariables false
namespace Go.Proofs.Ytkjaacpcnjakcaa

/-- The blocks of so many bytes. -/
def allT (N : Nat) (bs : List (List UInt8)) (k : Nat) : List (List UInt8) := (List.range k).map fun i => padB N (gr bs i)
theorem allT_succ (N : Nat) (bs : List (List UInt8)) (k : Nat) : allT N bs (k + 1) = allT N bs k ++ [padB N (gr bs k)] := by
  unfold allT; rw [List.range_succ, List.map_append]; rfl
theorem allT_length (N : Nat) (bs : List (List UInt8)) (k : Nat) : (allT N bs k).length = k := by simp [allT]
theorem allT_gr (N : Nat) (bs : List (List UInt8)) (k i : Nat) (h : i < k) : gr (allT N bs k) i = padB N (gr bs i) := by
  rw [gr_eq _ _ (by rw [allT_length]; exact h)]; simp [allT]
theorem padB_nil (N : Nat) : padB N [] = List.replicate N 0 := by simp [padB]
theorem gr_out (bs : List (List UInt8)) (i : Nat) (h : bs.length ≤ i) : gr bs i = [] := by simp [gr, h]
def fT (N : Nat) (bs : List (List UInt8)) (x : Int) : List UInt8 := padB N (gr bs x.toNat)
theorem fT_vals (N : Nat) (bs : List (List UInt8)) : ValsF N (fT N bs) := fun x => padB_length N _
/-- What an equation's value is made of. -/
def inT (n : Nat) (of : List Int) : List Int := of.filter fun i => decide (0 ≤ i) && decide (i < (n : Int))
def eqT (n N : Nat) (bs : List (List UInt8)) (of : List Int) : EqV := ⟨of, sumF N (fT N bs) (inT n of)⟩
def eqsT (n N : Nat) (bs : List (List UInt8)) (ofs : List (List Int)) : List EqV := ofs.map (eqT n N bs)
theorem eqT_length (n N : Nat) (bs : List (List UInt8)) (of : List Int) : (eqT n N bs of).val.length = N := sumF_length (fT_vals N bs) _
theorem eqsT_of (n N : Nat) (bs : List (List UInt8)) (ofs : List (List Int)) : (eqsT n N bs ofs).map EqV.of = ofs := by
  unfold eqsT; rw [List.map_map]
  exact List.map_id ofs
theorem eqsT_agree (n N : Nat) (bs : List (List UInt8)) (ofs : List (List Int)) : agreesN (n : Int) N (eqsT n N bs ofs) = true := by
  refine agreesN_yes ⟨fT N bs, fT_vals N bs, fun e he hc => ?_⟩
  obtain ⟨of, _, rfl⟩ := List.mem_map.1 he
  unfold closedE at hc
  simp only [Bool.and_eq_true] at hc
  have hin : inT n of = of := List.filter_eq_self.2 (fun x hx => by
    have := fitsN_in hc.1.1 x hx
    simp [this.1, this.2])
  show sumF N (fT N bs) (inT n of) = sumF N (fT N bs) of
  rw [hin]
theorem sumF_snoc {n : Nat} {f : Int → List UInt8} (h : ValsF n f) (is : List Int) (x : Int) : sumF n f (is ++ [x]) = xorL (sumF n f is) (f x) := by
  rw [sumF_append h, sumF_cons h, sumF_nil, xor_zero (h x)]
theorem inT_take (n : Nat) (of : List Int) (k : Nat) (h : k < of.length) : inT n (of.take (k + 1)) = inT n (of.take k) ++ (if 0 ≤ gi of k ∧ gi of k < (n : Int) then [gi of k] else []) := by
  unfold inT
  rw [take_gi2 of k h, List.filter_append]
  congr 1
  by_cases h0 : 0 ≤ gi of k <;> by_cases h1 : gi of k < (n : Int) <;> simp [h0, h1]
end Go.Proofs.Ytkjaacpcnjakcaa
