/- Equations that hold of blocks, put upon each other, hold of them: the plain law. No condition. -/
import Derived.Test.YtkjaacpcnjakcaaXorMath
set_option linter.unusedVariables false
namespace Go.Proofs.Ytkjaacpcnjakcaa

/-- A block of so many bytes: what there is of one, and zeros. -/
def padB (n : Nat) (b : List UInt8) : List UInt8 := b.take (min b.length n) ++ (List.replicate n 0).drop (min b.length n)
theorem padB_length (n : Nat) (b : List UInt8) : (padB n b).length = n := by unfold padB; rw [List.length_append, List.length_take, List.length_drop, List.length_replicate]; omega
def padsB (n : Nat) (bs : List (List UInt8)) : List (List UInt8) := bs.map (padB n)
theorem padsB_length (n : Nat) (bs : List (List UInt8)) : (padsB n bs).length = bs.length := by simp [padsB]
theorem padsB_snoc (n : Nat) (bs : List (List UInt8)) (b : List UInt8) : padsB n (bs ++ [b]) = padsB n bs ++ [padB n b] := by simp [padsB]
theorem padsB_gr (n : Nat) (bs : List (List UInt8)) (j : Nat) (h : j < bs.length) : (gr (padsB n bs) j).length = n := by
  rw [gr_eq _ _ (by rw [padsB_length]; exact h)]; simp [padsB, padB_length]
/-- Those of some numbers that are numbers of blocks. -/
def ownF (q : Nat) (is : List Int) : List Int := is.filter fun i => decide (0 ≤ i) && decide (i < (q : Int))
theorem ownF_take (q : Nat) (is : List Int) (k : Nat) (h : k < is.length) : ownF q (is.take (k + 1)) = ownF q (is.take k) ++ (if 0 ≤ gi is k ∧ gi is k < (q : Int) then [gi is k] else []) := by
  unfold ownF
  rw [take_gi2 is k h, List.filter_append]
  congr 1
  by_cases h0 : 0 ≤ gi is k <;> by_cases h1 : gi is k < (q : Int) <;> simp [h0, h1]
theorem ownF_le (q : Nat) (is : List Int) : (ownF q is).length ≤ is.length := List.length_filter_le _ _
theorem ownF_in (q : Nat) (is : List Int) : ∀ i ∈ ownF q is, 0 ≤ i ∧ i < (q : Int) := fun i hi => by
  have := (List.mem_filter.1 hi).2
  simpa using this
theorem ok_all {n : Nat} {bs : List (List UInt8)} {is : List Int} (h : ∀ i ∈ is, 0 ≤ i ∧ i < (bs.length : Int)) : is.all (okB n (padsB n bs)) = true := by
  rw [List.all_eq_true]
  intro i hi
  obtain ⟨h0, h1⟩ := h i hi
  unfold okB
  rw [decide_eq_true h0, padsB_length, decide_eq_true h1, decide_eq_true (padsB_gr n bs i.toNat (by omega))]; rfl
def eqS (n : Nat) (bs : List (List UInt8)) (is : List Int) : EqV := ⟨ownF bs.length is, sumB n (selB (padsB n bs) (ownF bs.length is))⟩
def eqsS (n : Nat) (bs : List (List UInt8)) (ofs : List (List Int)) : List EqV := ofs.map (eqS n bs)
theorem eqS_fit (n : Nat) (bs : List (List UInt8)) (is : List Int) : fitB n (selB (padsB n bs) (ownF bs.length is)) = true := allOk_fit (ok_all (ownF_in bs.length is))
theorem eqS_length (n : Nat) (bs : List (List UInt8)) (is : List Int) : (eqS n bs is).val.length = n := sumB_length (eqS_fit n bs is)
theorem eqS_holds (n : Nat) (bs : List (List UInt8)) (is : List Int) : holdsE (eqS n bs is).of (eqS n bs is).val (padsB n bs) = true :=
  (holds_iff (eqS_length n bs is) (ok_all (ownF_in bs.length is))).2 rfl
theorem eqsS_fit (n : Nat) (bs : List (List UInt8)) (ofs : List (List Int)) : fitB n (valsE (eqsS n bs ofs)) = true := by
  unfold fitB valsE eqsS
  rw [List.map_map, List.all_map, List.all_eq_true]
  intro is _
  simp [eqS_length]
theorem eqsS_in (n : Nat) (bs : List (List UInt8)) (ofs : List (List Int)) : ∀ i ∈ ofsE (eqsS n bs ofs), 0 ≤ i ∧ i < (bs.length : Int) := fun i hi => by
  obtain ⟨e, he, hi⟩ := List.mem_flatMap.1 hi
  obtain ⟨is, _, rfl⟩ := List.mem_map.1 he
  exact ownF_in bs.length is i hi
theorem selB_append (bs : List (List UInt8)) (a b : List Int) : selB bs (a ++ b) = selB bs a ++ selB bs b := by simp [selB]
theorem sum_sums (n : Nat) (bs : List (List UInt8)) (ofs : List (List Int)) : sumB n (valsE (eqsS n bs ofs)) = sumB n (selB (padsB n bs) (ofsE (eqsS n bs ofs))) := by
  induction ofs with
  | nil => rfl
  | cons is r ih =>
    show sumB n ((eqS n bs is).val :: valsE (eqsS n bs r)) = sumB n (selB (padsB n bs) ((eqS n bs is).of ++ ofsE (eqsS n bs r)))
    have h9 : fitB n (selB (padsB n bs) (eqS n bs is).of) = true := eqS_fit n bs is
    rw [sumB_cons (eqS_length n bs is), ih, selB_append, sumB_append h9]; rfl
theorem sums_hold (n : Nat) (bs : List (List UInt8)) (ofs : List (List Int)) : holdsE (oddN (ofsE (eqsS n bs ofs))) (sumB n (valsE (eqsS n bs ofs))) (padsB n bs) = true := by
  refine (holds_iff (sumB_length (eqsS_fit n bs ofs)) (ok_all (fun i hi => eqsS_in n bs ofs i (oddN_sub hi)))).2 ?_
  rw [sum_sums]
  refine (sum_odd (fun i => gr (padsB n bs) i.toNat) _ (fun i hi => ?_)).symm
  obtain ⟨h0, h1⟩ := eqsS_in n bs ofs i hi
  exact padsB_gr n bs i.toNat (by omega)
theorem twice_of (l : List Int) : oddN (l ++ l) = [] := oddN_eq List.Pairwise.nil (fun x => by
  rw [List.count_append]
  constructor
  · intro h; simp at h
  · intro h; omega)
theorem twice_val {n : Nat} {v : List UInt8} (h : v.length = n) : zeroB (sumB n [v, v]) = true := by
  rw [sumB_cons h, sumB_cons h, show sumB n [] = List.replicate n 0 from rfl, xor_zero h, xor_self]
  exact zeroB_zero _
theorem eqsS_len (n : Nat) (bs : List (List UInt8)) (ofs : List (List Int)) (h : ∀ l ∈ ofs, l.length ≤ 20) : (ofsE (eqsS n bs ofs)).length ≤ ofs.length * 20 := by
  induction ofs with
  | nil => simp [ofsE, eqsS]
  | cons is r ih =>
    have h1 := ih (fun l hl => h l (List.mem_cons_of_mem _ hl))
    have h2 := Nat.le_trans (ownF_le bs.length is) (h is (List.mem_cons_self ..))
    show ((eqS n bs is).of ++ ofsE (eqsS n bs r)).length ≤ (r.length + 1) * 20
    rw [List.length_append]
    show (ownF bs.length is).length + _ ≤ _
    omega
end Go.Proofs.Ytkjaacpcnjakcaa
