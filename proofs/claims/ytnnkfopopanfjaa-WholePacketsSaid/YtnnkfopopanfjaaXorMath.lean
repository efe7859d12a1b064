/- Blocks, put upon each other: the plain laws. No condition but on lengths. -/
import Derived.Test.YtnnkfopopanfjaaEqAdd
set_option linter.unusedVariables false
namespace Go.Proofs.Ytnnkfopopanfjaa

theorem xor_comm (a b : List UInt8) : xorL a b = xorL b a := by
  induction a generalizing b with
  | nil => cases b <;> rfl
  | cons x a ih => cases b with
    | nil => rfl
    | cons y b =>
      show (x ^^^ y) :: xorL a b = (y ^^^ x) :: xorL b a
      rw [ih, UInt8.xor_comm]
theorem xor_assoc (a b c : List UInt8) : xorL (xorL a b) c = xorL a (xorL b c) := by
  induction a generalizing b c with
  | nil => rfl
  | cons x a ih => cases b with
    | nil => rfl
    | cons y b => cases c with
      | nil => rfl
      | cons z c =>
        show (x ^^^ y ^^^ z) :: xorL (xorL a b) c = (x ^^^ (y ^^^ z)) :: xorL a (xorL b c)
        rw [ih, UInt8.xor_assoc]
theorem xor_self (a : List UInt8) : xorL a a = List.replicate a.length 0 := by
  induction a with
  | nil => rfl
  | cons x a ih =>
    show (x ^^^ x) :: xorL a a = 0 :: List.replicate a.length 0
    rw [ih, UInt8.xor_self]
theorem zero_xor {l : List UInt8} {n : Nat} (h : l.length = n) : xorL (List.replicate n 0) l = l := by
  subst h
  induction l with
  | nil => rfl
  | cons x l ih =>
    show (0 ^^^ x) :: xorL (List.replicate l.length 0) l = x :: l
    rw [ih, UInt8.zero_xor]
theorem xor_zero {l : List UInt8} {n : Nat} (h : l.length = n) : xorL l (List.replicate n 0) = l := by rw [xor_comm, zero_xor h]
theorem xor_cancel {a b : List UInt8} (h : b.length = a.length) : xorL a (xorL a b) = b := by
  rw [← xor_assoc, xor_self, zero_xor h]
theorem xorAll_perm (a : List UInt8) {l m : List (List UInt8)} (h : l.Perm m) : xorAll a l = xorAll a m := by
  unfold xorAll
  refine h.foldl_eq' (fun x _ y _ z => ?_) a
  rw [xor_assoc, xor_assoc, xor_comm x y]
theorem xorAll_append (a : List UInt8) (l m : List (List UInt8)) : xorAll a (l ++ m) = xorAll (xorAll a l) m := by unfold xorAll; rw [List.foldl_append]
theorem xorAll_out (a b : List UInt8) (l : List (List UInt8)) : xorAll (xorL a b) l = xorL a (xorAll b l) := by
  induction l generalizing b with
  | nil => rfl
  | cons x l ih =>
    show xorAll (xorL (xorL a b) x) l = xorL a (xorAll (xorL b x) l)
    rw [xor_assoc, ih]
theorem fitB_append (n : Nat) (l m : List (List UInt8)) : fitB n (l ++ m) = (fitB n l && fitB n m) := by unfold fitB; rw [List.all_append]
theorem xorAll_sum {n : Nat} {a : List UInt8} {l : List (List UInt8)} (h : a.length = n) : xorAll a l = xorL a (sumB n l) := by
  have e := xorAll_out a (List.replicate n 0) l
  rw [xor_zero h] at e
  exact e
theorem sumB_append {n : Nat} {l m : List (List UInt8)} (h : fitB n l = true) : sumB n (l ++ m) = xorL (sumB n l) (sumB n m) := by
  unfold sumB
  rw [xorAll_append]
  exact xorAll_sum (sumB_length h)
theorem sumB_perm {n : Nat} {l m : List (List UInt8)} (h : l.Perm m) : sumB n l = sumB n m := xorAll_perm _ h
theorem sumB_cons {n : Nat} {x : List UInt8} {l : List (List UInt8)} (h : x.length = n) : sumB n (x :: l) = xorL x (sumB n l) := by
  show xorAll (xorL (List.replicate n 0) x) l = _
  rw [zero_xor h]; exact xorAll_sum h
theorem fitB_perm {n : Nat} {l m : List (List UInt8)} (h : l.Perm m) : fitB n l = fitB n m := by
  unfold fitB
  rw [Bool.eq_iff_iff, List.all_eq_true, List.all_eq_true]
  exact ⟨fun k x hx => k x (h.mem_iff.2 hx), fun k x hx => k x (h.mem_iff.1 hx)⟩
theorem zero_length {n : Nat} : (List.replicate n (0 : UInt8)).length = n := List.length_replicate
theorem zeroB_zero (n : Nat) : zeroB (List.replicate n 0) = true := by unfold zeroB; rw [List.all_eq_true]; intro x hx; rw [(List.mem_replicate.1 hx).2]; rfl
theorem zeroB_eq {l : List UInt8} (h : zeroB l = true) : l = List.replicate l.length 0 := by
  apply List.eq_replicate_iff.2
  refine ⟨rfl, fun x hx => ?_⟩
  have := List.all_eq_true.1 h x hx
  simpa using this
/-- Of blocks by their numbers but what is there an odd number of times counts. -/
theorem sum_tog {n : Nat} (f : Int → List UInt8) (x : Int) (r : List Int) (hf : ∀ i ∈ x :: r, (f i).length = n) : sumB n ((tog x r).map f) = xorL (f x) (sumB n (r.map f)) := by
  have hx := hf x (List.mem_cons_self ..)
  induction r with
  | nil => show sumB n [f x] = _; rw [sumB_cons hx]; rfl
  | cons y r ih =>
    have hy := hf y (List.mem_cons_of_mem _ (List.mem_cons_self ..))
    have ih := ih (fun i hi => hf i (by rcases List.mem_cons.1 hi with h | h; rw [h]; exact List.mem_cons_self ..; exact List.mem_cons_of_mem _ (List.mem_cons_of_mem _ h)))
    unfold tog
    split
    · rw [List.map_cons, sumB_cons hx]
    · split
      · rename_i h1 h2
        subst h2
        rw [List.map_cons, sumB_cons hx, xor_cancel]
        have hfit : fitB n (r.map f) = true := by
          unfold fitB; rw [List.all_map, List.all_eq_true]
          intro i hi
          simpa using hf i (List.mem_cons_of_mem _ (List.mem_cons_of_mem _ hi))
        rw [sumB_length hfit, hx]
      · rw [List.map_cons, sumB_cons hy, ih, List.map_cons, sumB_cons hy, ← xor_assoc, ← xor_assoc, xor_comm (f y) (f x)]
theorem sum_odd {n : Nat} (f : Int → List UInt8) (l : List Int) (hf : ∀ i ∈ l, (f i).length = n) : sumB n ((oddN l).map f) = sumB n (l.map f) := by
  induction l with
  | nil => rfl
  | cons x l ih =>
    have h2 : ∀ i ∈ l, (f i).length = n := fun i hi => hf i (List.mem_cons_of_mem _ hi)
    rw [oddN_cons, sum_tog f x (oddN l) (fun i hi => by
      rcases List.mem_cons.1 hi with h | h
      · rw [h]; exact hf x (List.mem_cons_self ..)
      · exact h2 i (oddN_sub h)), ih h2, List.map_cons, sumB_cons (hf x (List.mem_cons_self ..))]
/-- Equations that hold, put upon each other, hold. -/
theorem holds_iff {n : Nat} {is : List Int} {val : List UInt8} {bs : List (List UInt8)} (hv : val.length = n) (h : is.all (okB n bs) = true) : holdsE is val bs = true ↔ val = sumB n (selB bs is) := by
  unfold holdsE
  rw [hv, h, Bool.true_and, xorAll_sum hv]
  have hl := sumB_length (allOk_fit h)
  constructor
  · intro hz
    have e := zeroB_eq hz
    rw [xorL_length (by rw [hl, hv]), hv] at e
    have e2 := congrArg (xorL val) e
    rw [xor_cancel (by rw [hl, hv]), xor_zero hv] at e2
    exact e2.symm
  · intro e
    rw [← e, xor_self]; exact zeroB_zero _
theorem order_of (x : EqV) (es : List EqV) : oddN (ofsE (x :: es ++ [x])) = oddN (ofsE es) := by
  refine oddN_count (fun z => ?_)
  simp [ofsE, List.count_append]
  omega
theorem order_back (es : List EqV) : oddN (ofsE es.reverse) = oddN (ofsE es) := oddN_perm ((List.reverse_perm es).flatMap_right _)
theorem vals_back (n : Nat) (es : List EqV) : sumB n (valsE es.reverse) = sumB n (valsE es) := sumB_perm ((List.reverse_perm es).map _)
theorem fit_back (n : Int) (es : List EqV) : fitN n (valsE es.reverse) = fitN n (valsE es) := by
  have h : (valsE es.reverse).Perm (valsE es) := (List.reverse_perm es).map EqV.val
  unfold fitN; rw [fitB_perm h]
theorem fit_more (n : Nat) (x : EqV) (es : List EqV) : fitN (n : Int) (valsE (x :: es ++ [x])) = (fitN (n : Int) (valsE es) && decide (x.val.length = n)) := by
  unfold fitN
  have e : valsE (x :: es ++ [x]) = x.val :: (valsE es ++ [x.val]) := by simp [valsE]
  rw [e]
  have h0 : decide ((0 : Int) ≤ (n : Int)) = true := decide_eq_true (by omega)
  rw [h0, Bool.true_and, Bool.true_and]
  show ((x.val :: (valsE es ++ [x.val])).all _) = _
  unfold fitB
  rw [List.all_cons, List.all_append]
  simp
theorem vals_more (n : Nat) (x : EqV) (es : List EqV) (hx : x.val.length = n) (hf : fitB n (valsE es) = true) : sumB n (valsE (x :: es ++ [x])) = sumB n (valsE es) := by
  have e : valsE (x :: es ++ [x]) = x.val :: (valsE es ++ [x.val]) := by simp [valsE]
  rw [e, sumB_cons hx, sumB_append hf, xor_comm (sumB n (valsE es))]
  have e1 : sumB n [x.val] = x.val := by rw [sumB_cons hx]; exact xor_zero hx
  rw [e1, xor_cancel (by rw [sumB_length hf, hx])]
end Go.Proofs.Ytnnkfopopanfjaa
