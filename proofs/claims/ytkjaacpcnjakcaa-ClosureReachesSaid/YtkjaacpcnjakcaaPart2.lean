/- Texts of this claim, part 2 of 3, one behind the other: what each proves, and its conditions, stands ahead of it. -/
import Derived.Test.YtkjaacpcnjakcaaPart1
import Derived.RegionTactic
import Derived.BigQuiet
import Derived.Maps.OwnSet
import Derived.Maps.RangeWalk
import Derived.Deep.RegionHeld3
import Derived.Deep.AppendLies
import Derived.Deep.DrawnRows
import Derived.Maps.OwnRows
import Derived.Maps.GroupsBeside
import Derived.ArgAppend
/- Blocks, put upon each other: the plain laws. No condition but on lengths. -/
set_option linter.unusedVariables false
namespace Go.Proofs.Ytkjaacpcnjakcaa

theorem xor_comm (a b : List UInt8) : xorL a b = xorL b a := by
  induction a generalizing b with
  | nil => cases b <;> rfl
  | cons x a ih => cases b with
    | nil => rfl
    | cons y b =>
      show (x ^^^ y) :: xorL a b = (y ^^^ x) :: xorL b a
      rw [ih, UInt8.xor_comm]
theorem xor_assoc (a b c : List UInt8) : xorL (xorL a b) c = xorL a (xorL b c) := by
  induction a generalizing b c with
  | nil => rfl
  | cons x a ih => cases b with
    | nil => rfl
    | cons y b => cases c with
      | nil => rfl
      | cons z c =>
        show (x ^^^ y ^^^ z) :: xorL (xorL a b) c = (x ^^^ (y ^^^ z)) :: xorL a (xorL b c)
        rw [ih, UInt8.xor_assoc]
theorem xor_self (a : List UInt8) : xorL a a = List.replicate a.length 0 := by
  induction a with
  | nil => rfl
  | cons x a ih =>
    show (x ^^^ x) :: xorL a a = 0 :: List.replicate a.length 0
    rw [ih, UInt8.xor_self]
theorem zero_xor {l : List UInt8} {n : Nat} (h : l.length = n) : xorL (List.replicate n 0) l = l := by
  subst h
  induction l with
  | nil => rfl
  | cons x l ih =>
    show (0 ^^^ x) :: xorL (List.replicate l.length 0) l = x :: l
    rw [ih, UInt8.zero_xor]
theorem xor_zero {l : List UInt8} {n : Nat} (h : l.length = n) : xorL l (List.replicate n 0) = l := by rw [xor_comm, zero_xor h]
theorem xor_cancel {a b : List UInt8} (h : b.length = a.length) : xorL a (xorL a b) = b := by
  rw [← xor_assoc, xor_self, zero_xor h]
theorem xorAll_perm (a : List UInt8) {l m : List (List UInt8)} (h : l.Perm m) : xorAll a l = xorAll a m := by
  unfold xorAll
  refine h.foldl_eq' (fun x _ y _ z => ?_) a
  rw [xor_assoc, xor_assoc, xor_comm x y]
theorem xorAll_append (a : List UInt8) (l m : List (List UInt8)) : xorAll a (l ++ m) = xorAll (xorAll a l) m := by unfold xorAll; rw [List.foldl_append]
theorem xorAll_out (a b : List UInt8) (l : List (List UInt8)) : xorAll (xorL a b) l = xorL a (xorAll b l) := by
  induction l generalizing b with
  | nil => rfl
  | cons x l ih =>
    show xorAll (xorL (xorL a b) x) l = xorL a (xorAll (xorL b x) l)
    rw [xor_assoc, ih]
theorem fitB_append (n : Nat) (l m : List (List UInt8)) : fitB n (l ++ m) = (fitB n l && fitB n m) := by unfold fitB; rw [List.all_append]
theorem xorAll_sum {n : Nat} {a : List UInt8} {l : List (List UInt8)} (h : a.length = n) : xorAll a l = xorL a (sumB n l) := by
  have e := xorAll_out a (List.replicate n 0) l
  rw [xor_zero h] at e
  exact e
theorem sumB_append {n : Nat} {l m : List (List UInt8)} (h : fitB n l = true) : sumB n (l ++ m) = xorL (sumB n l) (sumB n m) := by
  unfold sumB
  rw [xorAll_append]
  exact xorAll_sum (sumB_length h)
theorem sumB_perm {n : Nat} {l m : List (List UInt8)} (h : l.Perm m) : sumB n l = sumB n m := xorAll_perm _ h
theorem sumB_cons {n : Nat} {x : List UInt8} {l : List (List UInt8)} (h : x.length = n) : sumB n (x :: l) = xorL x (sumB n l) := by
  show xorAll (xorL (List.replicate n 0) x) l = _
  rw [zero_xor h]; exact xorAll_sum h
theorem fitB_perm {n : Nat} {l m : List (List UInt8)} (h : l.Perm m) : fitB n l = fitB n m := by
  unfold fitB
  rw [Bool.eq_iff_iff, List.all_eq_true, List.all_eq_true]
  exact ⟨fun k x hx => k x (h.mem_iff.2 hx), fun k x hx => k x (h.mem_iff.1 hx)⟩
theorem zero_length {n : Nat} : (List.replicate n (0 : UInt8)).length = n := List.length_replicate
theorem zeroB_zero (n : Nat) : zeroB (List.replicate n 0) = true := by unfold zeroB; rw [List.all_eq_true]; intro x hx; rw [(List.mem_replicate.1 hx).2]; rfl
theorem zeroB_eq {l : List UInt8} (h : zeroB l = true) : l = List.replicate l.length 0 := by
  apply List.eq_replicate_iff.2
  refine ⟨rfl, fun x hx => ?_⟩
  have := List.all_eq_true.1 h x hx
  simpa using this
/-- Of blocks by their numbers but what is there an odd number of times counts. -/
theorem sum_tog {n : Nat} (f : Int → List UInt8) (x : Int) (r : List Int) (hf : ∀ i ∈ x :: r, (f i).length = n) : sumB n ((tog x r).map f) = xorL (f x) (sumB n (r.map f)) := by
  have hx := hf x (List.mem_cons_self ..)
  induction r with
  | nil => show sumB n [f x] = _; rw [sumB_cons hx]; rfl
  | cons y r ih =>
    have hy := hf y (List.mem_cons_of_mem _ (List.mem_cons_self ..))
    have ih := ih (fun i hi => hf i (by rcases List.mem_cons.1 hi with h | h; rw [h]; exact List.mem_cons_self ..; exact List.mem_cons_of_mem _ (List.mem_cons_of_mem _ h)))
    unfold tog
    split
    · rw [List.map_cons, sumB_cons hx]
    · split
      · rename_i h1 h2
        subst h2
        rw [List.map_cons, sumB_cons hx, xor_cancel]
        have hfit : fitB n (r.map f) = true := by
          unfold fitB; rw [List.all_map, List.all_eq_true]
          intro i hi
          simpa using hf i (List.mem_cons_of_mem _ (List.mem_cons_of_mem _ hi))
        rw [sumB_length hfit, hx]
      · rw [List.map_cons, sumB_cons hy, ih, List.map_cons, sumB_cons hy, ← xor_assoc, ← xor_assoc, xor_comm (f y) (f x)]
theorem sum_odd {n : Nat} (f : Int → List UInt8) (l : List Int) (hf : ∀ i ∈ l, (f i).length = n) : sumB n ((oddN l).map f) = sumB n (l.map f) := by
  induction l with
  | nil => rfl
  | cons x l ih =>
    have h2 : ∀ i ∈ l, (f i).length = n := fun i hi => hf i (List.mem_cons_of_mem _ hi)
    rw [oddN_cons, sum_tog f x (oddN l) (fun i hi => by
      rcases List.mem_cons.1 hi with h | h
      · rw [h]; exact hf x (List.mem_cons_self ..)
      · exact h2 i (oddN_sub h)), ih h2, List.map_cons, sumB_cons (hf x (List.mem_cons_self ..))]
/-- Equations that hold, put upon each other, hold. -/
theorem holds_iff {n : Nat} {is : List Int} {val : List UInt8} {bs : List (List UInt8)} (hv : val.length = n) (h : is.all (okB n bs) = true) : holdsE is val bs = true ↔ val = sumB n (selB bs is) := by
  unfold holdsE
  rw [hv, h, Bool.true_and, xorAll_sum hv]
  have hl := sumB_length (allOk_fit h)
  constructor
  · intro hz
    have e := zeroB_eq hz
    rw [xorL_length (by rw [hl, hv]), hv] at e
    have e2 := congrArg (xorL val) e
    rw [xor_cancel (by rw [hl, hv]), xor_zero hv] at e2
    exact e2.symm
  · intro e
    rw [← e, xor_self]; exact zeroB_zero _
theorem order_of (x : EqV) (es : List EqV) : oddN (ofsE (x :: es ++ [x])) = oddN (ofsE es) := by
  refine oddN_count (fun z => ?_)
  simp [ofsE, List.count_append]
  omega
theorem order_back (es : List EqV) : oddN (ofsE es.reverse) = oddN (ofsE es) := oddN_perm ((List.reverse_perm es).flatMap_right _)
theorem vals_back (n : Nat) (es : List EqV) : sumB n (valsE es.reverse) = sumB n (valsE es) := sumB_perm ((List.reverse_perm es).map _)
theorem fit_back (n : Int) (es : List EqV) : fitN n (valsE es.reverse) = fitN n (valsE es) := by
  have h : (valsE es.reverse).Perm (valsE es) := (List.reverse_perm es).map EqV.val
  unfold fitN; rw [fitB_perm h]
theorem fit_more (n : Nat) (x : EqV) (es : List EqV) : fitN (n : Int) (valsE (x :: es ++ [x])) = (fitN (n : Int) (valsE es) && decide (x.val.length = n)) := by
  unfold fitN
  have e : valsE (x :: es ++ [x]) = x.val :: (valsE es ++ [x.val]) := by simp [valsE]
  rw [e]
  have h0 : decide ((0 : Int) ≤ (n : Int)) = true := decide_eq_true (by omega)
  rw [h0, Bool.true_and, Bool.true_and]
  show ((x.val :: (valsE es ++ [x.val])).all _) = _
  unfold fitB
  rw [List.all_cons, List.all_append]
  simp
theorem vals_more (n : Nat) (x : EqV) (es : List EqV) (hx : x.val.length = n) (hf : fitB n (valsE es) = true) : sumB n (valsE (x :: es ++ [x])) = sumB n (valsE es) := by
  have e : valsE (x :: es ++ [x]) = x.val :: (valsE es ++ [x.val]) := by simp [valsE]
  rw [e, sumB_cons hx, sumB_append hf, xor_comm (sumB n (valsE es))]
  have e1 : sumB n [x.val] = x.val := by rw [sumB_cons hx]; exact xor_zero hx
  rw [e1, xor_cancel (by rw [sumB_length hf, hx])]
end Go.Proofs.Ytkjaacpcnjakcaa
/- Which blocks follow of equations: the plain law. No condition. -/
set_option linter.unusedVariables false
namespace Go.Proofs.Ytkjaacpcnjakcaa

/-- A number among rising ones, once. -/
def insR (x : Int) (r : List Int) : List Int := if x ∈ r then r else tog x r
theorem mem_insR (x z : Int) (r : List Int) (h : r.Pairwise (· < ·)) : z ∈ insR x r ↔ z = x ∨ z ∈ r := by
  unfold insR
  split
  · rename_i hx
    exact ⟨.inr, fun h => by rcases h with rfl | h; exact hx; exact h⟩
  · rename_i hx
    rw [mem_tog x z r h]
    constructor
    · rintro (⟨h1, _⟩ | ⟨_, h1⟩)
      · exact .inr h1
      · exact .inl h1
    · rintro (h1 | h1)
      · exact .inr ⟨by rw [h1]; exact hx, h1⟩
      · exact .inl ⟨h1, fun e => hx (by rw [← e]; exact h1)⟩
theorem insR_rising (x : Int) (r : List Int) (h : r.Pairwise (· < ·)) : (insR x r).Pairwise (· < ·) := by
  unfold insR; split
  · exact h
  · exact tog_rising x r h
def setR (l : List Int) : List Int := l.foldr insR []
theorem setR_rising (l : List Int) : (setR l).Pairwise (· < ·) := by
  induction l with
  | nil => exact List.Pairwise.nil
  | cons x l ih => exact insR_rising x _ ih
theorem mem_setR (l : List Int) (z : Int) : z ∈ setR l ↔ z ∈ l := by
  induction l with
  | nil => simp [setR]
  | cons x l ih => show z ∈ insR x (setR l) ↔ _; rw [mem_insR x z _ (setR_rising l), ih, List.mem_cons]
theorem insR_length (x : Int) (r : List Int) : (insR x r).length ≤ r.length + 1 := by
  unfold insR; split
  · omega
  · induction r with
    | nil => simp [tog]
    | cons y r ih =>
      rename_i hx
      unfold tog
      split
      · simp
      · split
        · simp; omega
        · simp only [List.length_cons]
          have := ih (fun h => hx (List.mem_cons_of_mem _ h))
          omega
theorem setR_length (l : List Int) : (setR l).length ≤ l.length := by
  induction l with
  | nil => simp [setR]
  | cons x l ih => exact Nat.le_trans (insR_length x (setR l)) (by simp; exact ih)
/-- Are these numbers of blocks such as there are, rising? -/
def fitAt (all : Int) (of : List Int) (k : Nat) : Bool := decide (0 ≤ gi of k) && decide (gi of k < all) && (decide (k = 0) || decide (gi of (k - 1) < gi of k))
def fitsN (all : Int) (of : List Int) : Bool := (List.range of.length).all (fitAt all of)
theorem fitsN_no {all : Int} {of : List Int} {k : Nat} (hk : k < of.length) (h : fitAt all of k = false) : fitsN all of = false :=
  List.all_eq_false.2 ⟨k, List.mem_range.2 hk, by simp [h]⟩
theorem fitsN_yes {all : Int} {of : List Int} (h : ∀ k, k < of.length → fitAt all of k = true) : fitsN all of = true :=
  List.all_eq_true.2 (fun k hk => h k (List.mem_range.1 hk))
theorem fitsN_in {all : Int} {of : List Int} (h : fitsN all of = true) : ∀ n ∈ of, 0 ≤ n ∧ n < all := fun n hn => by
  obtain ⟨k, hk, rfl⟩ := List.getElem_of_mem hn
  have := List.all_eq_true.1 h k (List.mem_range.2 hk)
  simp only [fitAt, Bool.and_eq_true, decide_eq_true_eq] at this
  rw [gi_eq of k hk] at this
  exact this.1
theorem fitsN_rising {all : Int} {of : List Int} (h : fitsN all of = true) : of.Pairwise (· < ·) := by
  have step : ∀ k, k + 1 < of.length → gi of k < gi of (k + 1) := fun k hk => by
    have := List.all_eq_true.1 h (k + 1) (List.mem_range.2 hk)
    simp only [fitAt, Bool.and_eq_true, Bool.or_eq_true, decide_eq_true_eq] at this
    rcases this.2 with h1 | h1
    · omega
    · simpa using h1
  have far : ∀ d i, i + d + 1 < of.length → gi of i < gi of (i + d + 1) := by
    intro d
    induction d with
    | zero => intro i hi; exact step i hi
    | succ d ih =>
      intro i hi
      have h1 := ih i (by omega)
      have h2 := step (i + d + 1) (by omega)
      have : i + (d + 1) + 1 = i + d + 1 + 1 := by omega
      rw [this]; omega
  rw [List.pairwise_iff_getElem]
  intro i j hi hj hij
  have := far (j - i - 1) i (by omega)
  rw [show i + (j - i - 1) + 1 = j by omega, gi_eq of i hi, gi_eq of j hj] at this
  exact this
/-- What follows: an equation all of whose other blocks follow gives its block. -/
inductive Follows (all : Int) (eqs : List (List Int)) : Int → Prop
  | step (of : List Int) (x : Int) (hof : of ∈ eqs) (hfit : fitsN all of = true) (hx : x ∈ of) (hy : ∀ y ∈ of, y ≠ x → Follows all eqs y) : Follows all eqs x
theorem Follows.mem {all : Int} {eqs : List (List Int)} {x : Int} (h : Follows all eqs x) : ∃ of ∈ eqs, fitsN all of = true ∧ x ∈ of := by
  cases h with
  | step of x hof hfit hx hy => exact ⟨of, hof, hfit, hx⟩
theorem Follows.mono {all : Int} {eqs eqs' : List (List Int)} (hs : ∀ of ∈ eqs, of ∈ eqs') {x : Int} (h : Follows all eqs x) : Follows all eqs' x := by
  induction h with
  | step of x hof hfit hx hy ih => exact .step of x (hs of hof) hfit hx ih
open Classical in
/-- The blocks that follow, rising. -/
noncomputable def reachN (all : Int) (eqs : List (List Int)) : List Int := (setR eqs.flatten).filter fun x => decide (Follows all eqs x)
theorem reachN_rising (all : Int) (eqs : List (List Int)) : (reachN all eqs).Pairwise (· < ·) := (setR_rising _).filter _
theorem mem_reachN (all : Int) (eqs : List (List Int)) (x : Int) : x ∈ reachN all eqs ↔ Follows all eqs x := by
  unfold reachN
  rw [List.mem_filter, mem_setR]
  constructor
  · rintro ⟨_, h⟩; simpa using h
  · intro h
    obtain ⟨of, hof, _, hx⟩ := h.mem
    exact ⟨List.mem_flatten.2 ⟨of, hof, hx⟩, by simpa using h⟩
theorem reachN_eq {all : Int} {eqs : List (List Int)} {r : List Int} (hr : r.Pairwise (· < ·)) (h : ∀ x, x ∈ r ↔ Follows all eqs x) : r = reachN all eqs :=
  rise_ext hr (reachN_rising all eqs) (fun x => by rw [h, mem_reachN])
theorem reachN_length (all : Int) (eqs : List (List Int)) : (reachN all eqs).length ≤ eqs.flatten.length := by
  unfold reachN
  exact Nat.le_trans (List.length_filter_le _ _) (setR_length _)
theorem reachN_same {all : Int} {eqs eqs' : List (List Int)} (h : ∀ of, of ∈ eqs ↔ of ∈ eqs') : reachN all eqs = reachN all eqs' :=
  reachN_eq (reachN_rising all eqs) (fun x => by
    rw [mem_reachN]
    exact ⟨Follows.mono (fun of hof => (h of).1 hof), Follows.mono (fun of hof => (h of).2 hof)⟩)
/-- Those of an equation's blocks that aren't known. -/
def unkN (known of : List Int) : List Int := of.filter fun i => !decide (i ∈ known)
theorem mem_unkN (known of : List Int) (x : Int) : x ∈ unkN known of ↔ x ∈ of ∧ x ∉ known := by simp [unkN]
theorem unkN_take (known of : List Int) (k : Nat) (h : k < of.length) : unkN known (of.take (k + 1)) = unkN known (of.take k) ++ (if gi of k ∈ known then [] else [gi of k]) := by
  unfold unkN
  rw [List.take_succ_eq_append_getElem h, gi_eq of k h, List.filter_append]
  congr 1
  by_cases hx : of[k] ∈ known <;> simp [hx]
theorem unkN_le (known of : List Int) : (unkN known of).length ≤ of.length := List.length_filter_le _ _
/-- Where all that is known follows, what alone isn't follows, too. -/
theorem follows_one {all : Int} {eqs : List (List Int)} {known of : List Int} {x : Int} (hk : ∀ y ∈ known, Follows all eqs y) (hof : of ∈ eqs) (hfit : fitsN all of = true) (h : unkN known of = [x]) : Follows all eqs x := by
  have hx := (mem_unkN known of x).1 (by rw [h]; exact List.mem_singleton.2 rfl)
  refine .step of x hof hfit hx.1 (fun y hy hne => hk y ?_)
  by_cases hm : y ∈ known
  · exact hm
  · have := (mem_unkN known of y).2 ⟨hy, hm⟩
    rw [h] at this
    exact absurd (List.mem_singleton.1 this) hne
/-- Where no fitting equation has but one that isn't known, all that follows is known. -/
theorem closed_all {all : Int} {eqs : List (List Int)} {known : List Int} (h : ∀ of ∈ eqs, fitsN all of = true → (unkN known of).length ≠ 1) {x : Int} (hf : Follows all eqs x) : x ∈ known := by
  induction hf with
  | step of x hof hfit hx hy ih =>
    by_cases hm : x ∈ known
    · exact hm
    · exfalso
      apply h of hof hfit
      have hn : (unkN known of).Nodup := (nodup_of_rising (fitsN_rising hfit)).filter _
      have hall : ∀ y ∈ unkN known of, y = x := fun y hy2 => by
        obtain ⟨h1, h2⟩ := (mem_unkN known of y).1 hy2
        by_cases e : y = x
        · exact e
        · exact absurd (ih y h1 e) h2
      have hxm : x ∈ unkN known of := (mem_unkN known of x).2 ⟨hx, hm⟩
      match hu : unkN known of with
      | [] => rw [hu] at hxm; simp at hxm
      | [a] => rfl
      | a :: b :: r =>
        rw [hu] at hn hall
        have h1 := hall a (by simp)
        have h2 := hall b (by simp)
        rw [h1, h2] at hn
        simp at hn
theorem reach_done {all : Int} {eqs : List (List Int)} {known : List Int} (hr : known.Pairwise (· < ·)) (hk : ∀ y ∈ known, Follows all eqs y) (h : ∀ of ∈ eqs, fitsN all of = true → (unkN known of).length ≠ 1) : known = reachN all eqs :=
  reachN_eq hr (fun x => ⟨hk x, closed_all h⟩)
end Go.Proofs.Ytkjaacpcnjakcaa
/- Equations of blocks: whether they can all hold: the plain law. No condition. -/
set_option linter.unusedVariables false
namespace Go.Proofs.Ytkjaacpcnjakcaa

/-- Blocks of so many bytes. -/
def ValsF (n : Nat) (f : Int → List UInt8) : Prop := ∀ x, (f x).length = n
def sumF (n : Nat) (f : Int → List UInt8) (is : List Int) : List UInt8 := sumB n (is.map f)
def SatE (n : Nat) (f : Int → List UInt8) (e : EqV) : Prop := e.val = sumF n f e.of
theorem valsF_fit {n : Nat} {f : Int → List UInt8} (h : ValsF n f) (is : List Int) : fitB n (is.map f) = true := by
  unfold fitB; rw [List.all_map, List.all_eq_true]
  intro i _
  simpa using h i
theorem sumF_length {n : Nat} {f : Int → List UInt8} (h : ValsF n f) (is : List Int) : (sumF n f is).length = n := sumB_length (valsF_fit h is)
theorem sumF_cons {n : Nat} {f : Int → List UInt8} (h : ValsF n f) (x : Int) (is : List Int) : sumF n f (x :: is) = xorL (f x) (sumF n f is) := sumB_cons (h x)
theorem sumF_append {n : Nat} {f : Int → List UInt8} (h : ValsF n f) (a b : List Int) : sumF n f (a ++ b) = xorL (sumF n f a) (sumF n f b) := by
  unfold sumF; rw [List.map_append]; exact sumB_append (valsF_fit h a)
theorem sumF_odd {n : Nat} {f : Int → List UInt8} (h : ValsF n f) (l : List Int) : sumF n f (oddN l) = sumF n f l := sum_odd f l (fun i _ => h i)
theorem sumF_congr {n : Nat} {f g : Int → List UInt8} {is : List Int} (h : ∀ i ∈ is, f i = g i) : sumF n f is = sumF n g is := by
  unfold sumF; rw [List.map_congr_left h]
theorem sumF_nil (n : Nat) (f : Int → List UInt8) : sumF n f [] = List.replicate n 0 := rfl
theorem xor_right_inj {a b c : List UInt8} (ha : a.length = b.length) (hc : c.length = b.length) (h : xorL b a = xorL b c) : a = c := by
  have := congrArg (xorL b) h
  rwa [xor_cancel ha, xor_cancel hc] at this
/-- Two equations, put upon each other. -/
def addE (n : Nat) (e p : EqV) : EqV := ⟨oddN (ofsE [e, p]), sumB n (valsE [e, p])⟩
theorem addE_val {n : Nat} {e p : EqV} (he : e.val.length = n) (hp : p.val.length = n) : (addE n e p).val = xorL e.val p.val := by
  show sumB n [e.val, p.val] = _
  rw [sumB_cons he, sumB_cons hp, show sumB n [] = List.replicate n 0 from rfl, xor_zero hp]
theorem addE_length {n : Nat} {e p : EqV} (he : e.val.length = n) (hp : p.val.length = n) : (addE n e p).val.length = n := by
  rw [addE_val he hp, xorL_length (by rw [he, hp]), he]
theorem addE_of (n : Nat) (e p : EqV) : (addE n e p).of = oddN (e.of ++ p.of) := by simp [addE, ofsE]
theorem addE_sat {n : Nat} {f : Int → List UInt8} (hf : ValsF n f) {e p : EqV} (he : e.val.length = n) (hp : p.val.length = n) (hs : SatE n f p) : SatE n f (addE n e p) ↔ SatE n f e := by
  unfold SatE at *
  rw [addE_val he hp, addE_of, sumF_odd hf, sumF_append hf, ← hs]
  constructor
  · intro h
    rw [xor_comm e.val, xor_comm (sumF n f e.of)] at h
    exact xor_right_inj (by rw [he, hp]) (by rw [sumF_length hf, hp]) h
  · intro h; rw [h]
/-- Where both rise and begin alike the head goes, and the rest is greater. -/
theorem odd_heads {x : Int} {a b : List Int} (ha : (x :: a).Pairwise (· < ·)) (hb : (x :: b).Pairwise (· < ·)) : ∀ y ∈ oddN ((x :: a) ++ (x :: b)), x < y := by
  intro y hy
  rw [mem_oddN] at hy
  have ha' := List.pairwise_cons.1 ha
  have hb' := List.pairwise_cons.1 hb
  have hm := oddN_sub ((mem_oddN _ _).2 hy)
  by_cases e : y = x
  · subst e
    have h1 : a.count y = 0 := List.count_eq_zero.2 (fun h => by have := ha'.1 y h; omega)
    have h2 : b.count y = 0 := List.count_eq_zero.2 (fun h => by have := hb'.1 y h; omega)
    rw [List.count_append, List.count_cons_self, List.count_cons_self, h1, h2] at hy
    omega
  · rcases List.mem_append.1 hm with h | h
    · rcases List.mem_cons.1 h with h | h
      · exact absurd h e
      · exact ha'.1 y h
    · rcases List.mem_cons.1 h with h | h
      · exact absurd h e
      · exact hb'.1 y h
/-- Equations in steps: each has a head, and none the same. -/
structure Steps (n : Nat) (tab : List EqV) : Prop where
  rise : ∀ t ∈ tab, t.of.Pairwise (· < ·)
  some : ∀ t ∈ tab, t.of ≠ []
  len : ∀ t ∈ tab, t.val.length = n
  heads : (tab.map fun t => gi t.of 0).Nodup
theorem gi_head (x : Int) (l : List Int) : gi (x :: l) 0 = x := rfl
/-- Such equations can all hold. -/
theorem steps_solve {n : Nat} {tab : List EqV} (h : Steps n tab) : ∃ f, ValsF n f ∧ ∀ t ∈ tab, SatE n f t := by
  -- sorted by their heads
  suffices H : ∀ l : List EqV, (∀ t ∈ l, t.of.Pairwise (· < ·) ∧ t.of ≠ [] ∧ t.val.length = n) → l.Pairwise (fun s t => gi s.of 0 < gi t.of 0) → ∃ f, ValsF n f ∧ ∀ t ∈ l, SatE n f t by
    have hp := List.mergeSort_perm tab (fun s t => decide (gi s.of 0 ≤ gi t.of 0))
    have hs := List.pairwise_mergeSort (le := fun s t : EqV => decide (gi s.of 0 ≤ gi t.of 0)) (fun a b c h1 h2 => by simp at *; omega) (fun a b => by simp; omega) tab
    have hnd : ((tab.mergeSort (fun s t => decide (gi s.of 0 ≤ gi t.of 0))).map fun t => gi t.of 0).Nodup := (hp.map _).nodup_iff.2 h.heads
    obtain ⟨f, h1, h2⟩ := H (tab.mergeSort (fun s t => decide (gi s.of 0 ≤ gi t.of 0))) (fun t ht => by
      have := hp.mem_iff.1 ht
      exact ⟨h.rise t this, h.some t this, h.len t this⟩) (by
      unfold List.Nodup at hnd
      rw [List.pairwise_map] at hnd
      exact (List.Pairwise.and hs hnd).imp (fun ⟨h1, h2⟩ => by simp at h1; omega))
    exact ⟨f, h1, fun t ht => h2 t (hp.mem_iff.2 ht)⟩
  intro l
  induction l with
  | nil => intro _ _; exact ⟨fun _ => List.replicate n 0, fun x => by simp, fun t ht => by simp at ht⟩
  | cons t l ih =>
    intro hl hp
    have hp' := List.pairwise_cons.1 hp
    obtain ⟨f, h1, h2⟩ := ih (fun s hs => hl s (List.mem_cons_of_mem _ hs)) hp'.2
    obtain ⟨hr, hne, hlen⟩ := hl t (List.mem_cons_self ..)
    obtain ⟨of, v⟩ := t
    cases of with
    | nil => exact absurd rfl hne
    | cons x a =>
      have hr' := List.pairwise_cons.1 hr
      dsimp only at hlen
      let g : Int → List UInt8 := fun y => if y = x then xorL v (sumF n f a) else f y
      have hga : sumF n g a = sumF n f a := sumF_congr (fun i hi => by
        have := hr'.1 i hi
        show (if i = x then _ else _) = _
        rw [if_neg (by omega)])
      have hg : ValsF n g := fun y => by
        show (if y = x then xorL v (sumF n f a) else f y).length = n
        split
        · rw [xorL_length (by rw [sumF_length h1, hlen]), hlen]
        · exact h1 y
      refine ⟨g, hg, fun s hs => ?_⟩
      rcases List.mem_cons.1 hs with rfl | hs
      · show v = sumF n g (x :: a)
        rw [sumF_cons hg, hga]
        show v = xorL (if x = x then xorL v (sumF n f a) else f x) (sumF n f a)
        rw [if_pos rfl, xor_assoc, xor_self, sumF_length h1, xor_zero hlen]
      · have h3 := h2 s hs
        have h4 := hp'.1 s hs
        obtain ⟨hrs, hnes, _⟩ := hl s (List.mem_cons_of_mem _ hs)
        unfold SatE at *
        rw [h3]
        refine sumF_congr (fun i hi => ?_)
        show _ = (if i = x then _ else _)
        rw [if_neg]
        intro e
        cases hso : s.of with
        | nil => exact hnes hso
        | cons y b =>
          rw [hso] at hrs hi h4
          have hb := List.pairwise_cons.1 hrs
          rw [gi_head] at h4
          have h4 : x < y := h4
          rcases List.mem_cons.1 hi with h5 | h5
          · omega
          · have := hb.1 i h5; omega
/-- Of equations those that are closed: they fit, their value is of so many bytes, and all of their blocks follow. -/
def closedE (all : Int) (n : Nat) (known : List Int) (e : EqV) : Bool := fitsN all e.of && decide (e.val.length = n) && e.of.all fun i => decide (i ∈ known)
def Agree (all : Int) (n : Nat) (es : List EqV) : Prop := ∃ f, ValsF n f ∧ ∀ e ∈ es, closedE all n (reachN all (es.map EqV.of)) e = true → SatE n f e
open Classical in
noncomputable def agreesN (all : Int) (n : Nat) (es : List EqV) : Bool := decide (Agree all n es)
open Classical in
theorem agreesN_yes {all : Int} {n : Nat} {es : List EqV} (h : Agree all n es) : agreesN all n es = true := by unfold agreesN; exact decide_eq_true h
open Classical in
theorem agreesN_no {all : Int} {n : Nat} {es : List EqV} (h : ¬ Agree all n es) : agreesN all n es = false := by unfold agreesN; exact decide_eq_false h
/-- What stands behind the first equations: equations in steps that hold just where these do. -/
structure Elim (all : Int) (n : Nat) (known : List Int) (es : List EqV) (tab : List EqV) : Prop where
  steps : Steps n tab
  same : ∀ f, ValsF n f → ((∀ t ∈ tab, SatE n f t) ↔ ∀ e ∈ es, closedE all n known e = true → SatE n f e)
/-- An equation that is gone through: so far it has become e. -/
structure Under (n : Nat) (tab : List EqV) (e0 e : EqV) : Prop where
  rise : e.of.Pairwise (· < ·)
  len : e.val.length = n
  same : ∀ f, ValsF n f → (∀ t ∈ tab, SatE n f t) → (SatE n f e0 ↔ SatE n f e)
variable {all : Int} {n : Nat} {known : List Int} {es tab : List EqV} {e0 e : EqV}
theorem Elim.none (all : Int) (n : Nat) (known : List Int) : Elim all n known [] [] := ⟨⟨by simp, by simp, by simp, by simp⟩, fun f _ => by simp⟩
theorem Elim.skip (h : Elim all n known es tab) (he : closedE all n known e0 = false) : Elim all n known (es ++ [e0]) tab := ⟨h.steps, fun f hf => by
  rw [h.same f hf]
  constructor
  · intro h1 e hm hc
    rcases List.mem_append.1 hm with hm | hm
    · exact h1 e hm hc
    · rw [List.mem_singleton.1 hm, he] at hc; cases hc
  · intro h1 e hm hc
    exact h1 e (List.mem_append_left _ hm) hc⟩
theorem Under.start (hc : closedE all n known e0 = true) : Under n tab e0 e0 := by
  simp only [closedE, Bool.and_eq_true, decide_eq_true_eq] at hc
  exact ⟨fitsN_rising hc.1.1, hc.1.2, fun _ _ _ => Iff.rfl⟩
theorem Under.step (ht : Steps n tab) (h : Under n tab e0 e) {p : EqV} (hp : p ∈ tab) : Under n tab e0 (addE n e p) :=
  ⟨by rw [addE_of]; exact oddN_rising _, addE_length h.len (ht.len p hp), fun f hf hs => (h.same f hf hs).trans (addE_sat hf h.len (ht.len p hp) (hs p hp)).symm⟩
theorem Under.store (hE : Elim all n known es tab) (h : Under n tab e0 e) (hc : closedE all n known e0 = true) (hne : e.of ≠ []) (hn : ∀ t ∈ tab, gi t.of 0 ≠ gi e.of 0) : Elim all n known (es ++ [e0]) (tab ++ [e]) := by
  refine ⟨⟨fun t ht => ?_, fun t ht => ?_, fun t ht => ?_, ?_⟩, fun f hf => ?_⟩
  · rcases List.mem_append.1 ht with ht | ht
    · exact hE.steps.rise t ht
    · rw [List.mem_singleton.1 ht]; exact h.rise
  · rcases List.mem_append.1 ht with ht | ht
    · exact hE.steps.some t ht
    · rw [List.mem_singleton.1 ht]; exact hne
  · rcases List.mem_append.1 ht with ht | ht
    · exact hE.steps.len t ht
    · rw [List.mem_singleton.1 ht]; exact h.len
  · rw [List.map_append, List.nodup_append]
    refine ⟨hE.steps.heads, by simp, fun a ha b hb => ?_⟩
    obtain ⟨t, ht, rfl⟩ := List.mem_map.1 ha
    simp only [List.map_cons, List.map_nil, List.mem_singleton] at hb
    rw [hb]; exact hn t ht
  · constructor
    · intro h1
      have h2 : ∀ t ∈ tab, SatE n f t := fun t ht => h1 t (List.mem_append_left _ ht)
      intro x hm hcx
      rcases List.mem_append.1 hm with hm | hm
      · exact (hE.same f hf).1 h2 x hm hcx
      · rw [List.mem_singleton.1 hm]
        exact (h.same f hf h2).2 (h1 e (by simp))
    · intro h1
      have h2 := (hE.same f hf).2 (fun x hm hcx => h1 x (List.mem_append_left _ hm) hcx)
      intro t ht
      rcases List.mem_append.1 ht with ht | ht
      · exact h2 t ht
      · rw [List.mem_singleton.1 ht]
        exact (h.same f hf h2).1 (h1 e0 (by simp) hc)
theorem sat_empty {f : Int → List UInt8} {v : List UInt8} (hv : v.length = n) : SatE n f ⟨[], v⟩ ↔ zeroB v = true := by
  unfold SatE
  show v = List.replicate n 0 ↔ _
  constructor
  · intro h; rw [h]; exact zeroB_zero n
  · intro h; have := zeroB_eq h; rw [hv] at this; exact this
theorem Under.zero (hE : Elim all n known es tab) (h : Under n tab e0 e) (hne : e.of = []) (hz : zeroB e.val = true) : Elim all n known (es ++ [e0]) tab := by
  refine ⟨hE.steps, fun f hf => ?_⟩
  constructor
  · intro h1 x hm hcx
    rcases List.mem_append.1 hm with hm | hm
    · exact (hE.same f hf).1 h1 x hm hcx
    · rw [List.mem_singleton.1 hm]
      refine (h.same f hf h1).2 ?_
      have := (sat_empty (n := n) (f := f) h.len).2 hz
      rw [show e = ⟨[], e.val⟩ by rw [← hne]]
      exact this
  · intro h1
    exact (hE.same f hf).2 (fun x hm hcx => h1 x (List.mem_append_left _ hm) hcx)
theorem Under.bad (hE : Elim all n known es tab) (h : Under n tab e0 e) (hc : closedE all n known e0 = true) (hne : e.of = []) (hz : zeroB e.val = false) {f : Int → List UInt8} (hf : ValsF n f) (h1 : ∀ x ∈ es, closedE all n known x = true → SatE n f x) : ¬ SatE n f e0 := by
  intro hs
  have h2 := (h.same f hf ((hE.same f hf).2 h1)).1 hs
  rw [show e = ⟨[], e.val⟩ by rw [← hne]] at h2
  have := (sat_empty (n := n) (f := f) h.len).1 h2
  rw [hz] at this; cases this
theorem Elim.agree (h : Elim all n (reachN all (es.map EqV.of)) es tab) : Agree all n es := by
  obtain ⟨f, h1, h2⟩ := steps_solve h.steps
  exact ⟨f, h1, (h.same f h1).1 h2⟩
theorem not_agree {es0 : List EqV} (hE : Elim all n (reachN all (es0.map EqV.of)) es tab) (h : Under n tab e0 e) (hc : closedE all n (reachN all (es0.map EqV.of)) e0 = true) (hne : e.of = []) (hz : zeroB e.val = false) (hs : ∀ x ∈ es, x ∈ es0) (h0 : e0 ∈ es0) : ¬ Agree all n es0 := by
  rintro ⟨f, hf, h1⟩
  exact Under.bad hE h hc hne hz hf (fun x hx hcx => h1 x (hs x hx) hcx) (h1 e0 h0 hc)
/-- How many steps may still come. -/
def stepsLeft (all : Int) (e : EqV) : Nat := if e.of = [] then 0 else (all - gi e.of 0).toNat + 1
theorem gi_zero_mem {l : List Int} (h : l ≠ []) : gi l 0 ∈ l := by
  cases l with
  | nil => exact absurd rfl h
  | cons x l => exact List.mem_cons_self ..
theorem stepsLeft_add {all : Int} {n : Nat} {e p : EqV} (he : e.of.Pairwise (· < ·)) (hp : p.of.Pairwise (· < ·)) (hne : e.of ≠ []) (hpe : p.of ≠ []) (hh : gi p.of 0 = gi e.of 0) (hin : ∀ y ∈ e.of, y < all) (hip : ∀ y ∈ p.of, y < all) : stepsLeft all (addE n e p) < stepsLeft all e := by
  obtain ⟨eo, ev⟩ := e
  obtain ⟨po, pv⟩ := p
  dsimp only at *
  cases eo with
  | nil => exact absurd rfl hne
  | cons x a =>
    cases po with
    | nil => exact absurd rfl hpe
    | cons y b =>
      obtain rfl : y = x := hh
      have hg := odd_heads he hp
      have hx := hin y (List.mem_cons_self ..)
      unfold stepsLeft
      rw [if_neg (show ¬ (⟨y :: a, ev⟩ : EqV).of = [] by simp)]
      split
      · omega
      · rename_i h
        have hm := gi_zero_mem h
        rw [addE_of] at hm
        have h1 := hg _ hm
        have h2 : gi (oddN (y :: a ++ y :: b)) 0 < all := by
          rcases List.mem_append.1 (oddN_sub hm) with h3 | h3
          · exact hin _ h3
          · exact hip _ h3
        rw [addE_of]
        show (all - gi (oddN (y :: a ++ y :: b)) 0).toNat + 1 < (all - gi (y :: a) 0).toNat + 1
        rw [gi_head]
        dsimp only at h1 h2
        omega
end Go.Proofs.Ytkjaacpcnjakcaa
/- What the first words of the laws of closure come to: the plain law. No condition. -/
set_option linter.unusedVariables false
namespace Go.Proofs.Ytkjaacpcnjakcaa

def eqs16 : List EqV := [⟨[0], [1]⟩, ⟨[0, 1], [3]⟩, ⟨[1], [2]⟩]
theorem reach_16 : reachN 4 [[0], [0, 1], [1, 2, 3]] = [0, 1] := by
  have f0 : Follows 4 [[0], [0, 1], [1, 2, 3]] 0 := .step [0] 0 (by simp) (by decide) (by simp) (by simp)
  have f1 : Follows 4 [[0], [0, 1], [1, 2, 3]] 1 := .step [0, 1] 1 (by simp) (by decide) (by simp) (by
    intro y hy hne
    rcases List.mem_cons.1 hy with rfl | hy
    · exact f0
    · exact absurd (List.mem_singleton.1 hy) hne)
  refine (reach_done (known := [0, 1]) (by simp) (by intro y hy; rcases List.mem_cons.1 hy with rfl | hy; exact f0; rw [List.mem_singleton.1 hy]; exact f1) ?_).symm
  intro of hof _
  rcases List.mem_cons.1 hof with rfl | hof
  · decide
  · rcases List.mem_cons.1 hof with rfl | hof
    · decide
    · rw [List.mem_singleton.1 hof]; decide
theorem reach_16e {es : List EqV} (h : es = eqs16 ∨ es = eqs16 ++ [(⟨[1], [3]⟩ : EqV)]) : ∀ x, (x = 0 ∨ x = 1) → x ∈ reachN 4 (es.map EqV.of) := by
  have h0 : ∀ e ∈ eqs16, e ∈ es := fun e he => by rcases h with rfl | rfl; exact he; exact List.mem_append_left _ he
  intro x hx
  rw [mem_reachN]
  rcases hx with rfl | rfl
  · exact .step [0] 0 (List.mem_map.2 ⟨⟨[0], [1]⟩, h0 _ (by simp [eqs16]), rfl⟩) (by decide) (by simp) (by simp)
  · exact .step [1] 1 (List.mem_map.2 ⟨⟨[1], [2]⟩, h0 _ (by simp [eqs16]), rfl⟩) (by decide) (by simp) (by simp)
theorem agree_16 : agreesN 4 1 eqs16 = true := by
  refine agreesN_yes ⟨fun x => if x = 0 then [1] else [2], fun x => by dsimp only; split <;> rfl, fun e he _ => ?_⟩
  unfold eqs16 at he
  rcases List.mem_cons.1 he with rfl | he
  · unfold SatE sumF; decide
  · rcases List.mem_cons.1 he with rfl | he
    · unfold SatE sumF; decide
    · rw [List.mem_singleton.1 he]; unfold SatE sumF; decide
theorem agree_16no : agreesN 4 1 (eqs16 ++ [⟨[1], [3]⟩]) = false := by
  refine agreesN_no ?_
  rintro ⟨f, hf, h⟩
  have hr := reach_16e (es := eqs16 ++ [(⟨[1], [3]⟩ : EqV)]) (.inr rfl)
  have hc : ∀ v : List UInt8, v.length = 1 → closedE 4 1 (reachN 4 ((eqs16 ++ [(⟨[1], [3]⟩ : EqV)]).map EqV.of)) ⟨[1], v⟩ = true := by
    intro v hv
    unfold closedE
    have h1 := hr 1 (.inr rfl)
    simp only [Bool.and_eq_true, decide_eq_true_eq, List.all_cons, List.all_nil, and_true]
    exact ⟨⟨by decide, hv⟩, h1⟩
  have h2 := h ⟨[1], [2]⟩ (by simp [eqs16]) (hc [2] rfl)
  have h3 := h ⟨[1], [3]⟩ (by simp [eqs16]) (hc [3] rfl)
  unfold SatE at h2 h3
  have h4 : ([2] : List UInt8) = [3] := h2.trans h3.symm
  revert h4
  decide
end Go.Proofs.Ytkjaacpcnjakcaa
/- Are two equations one: the program's walk. Conditions: what is read lies there. -/
set_option linter.unusedVariables false
namespace Go.Proofs.Ytkjaacpcnjakcaa
open Go.RowKit

def sameE (a b : EqV) : Bool := decide (a.of = b.of) && decide (a.val = b.val)
end Go.Proofs.Ytkjaacpcnjakcaa
/- The document's sum of blocks: its walk. Conditions: numbers are of their kinds; all blocks are as long. -/
set_option linter.unusedVariables false
namespace Go.Proofs.Ytkjaacpcnjakcaa
open Go.RowKit

/-- What is reckoned so far: the bytes before k wholly, byte k of the first i blocks. -/
def sumRow (n : Nat) (ls : List (List UInt8)) (k i : Nat) : List UInt8 := (List.range n).map fun j => if j < k then sumAt ls j ls.length else if j = k then sumAt ls k i else 0
theorem sumRow_length (n : Nat) (ls : List (List UInt8)) (k i : Nat) : (sumRow n ls k i).length = n := by simp [sumRow]
theorem sumRow_zero (n : Nat) (ls : List (List UInt8)) : sumRow n ls 0 0 = List.replicate n 0 := by
  apply List.ext_getElem
  · simp [sumRow]
  · intro j h1 h2
    simp [sumRow, sumAt]
theorem sumRow_next (n : Nat) (ls : List (List UInt8)) (k : Nat) : sumRow n ls k ls.length = sumRow n ls (k + 1) 0 := by
  apply List.ext_getElem
  · simp [sumRow]
  · intro j h1 h2
    simp only [sumRow, List.getElem_map, List.getElem_range]
    by_cases hj : j < k
    · rw [if_pos hj, if_pos (by omega)]
    · rw [if_neg hj]
      by_cases e : j = k
      · rw [if_pos e, if_pos (by omega), e]
      · rw [if_neg e, if_neg (by omega)]
        by_cases e2 : j = k + 1
        · rw [if_pos e2]; rfl
        · rw [if_neg e2]
theorem sumRow_full (n : Nat) (ls : List (List UInt8)) (h : fitB n ls = true) : sumRow n ls n 0 = sumB n ls := by
  rw [sumB_eq h]
  apply List.map_congr_left
  intro j hj
  rw [if_pos (List.mem_range.1 hj)]
theorem sumRow_gb (n : Nat) (ls : List (List UInt8)) (k i : Nat) (hk : k < n) : gb (sumRow n ls k i) k = sumAt ls k i := by
  rw [gb_eq _ _ (by rw [sumRow_length]; exact hk)]
  simp [sumRow]
theorem sumRow_set (n : Nat) (ls : List (List UInt8)) (k i : Nat) (hk : k < n) (hi : i < ls.length) : (sumRow n ls k i).set k (sumAt ls k i ^^^ gb (gr ls i) k) = sumRow n ls k (i + 1) := by
  apply List.ext_getElem
  · simp [sumRow]
  · intro j h1 h2
    rw [List.getElem_set]
    simp only [sumRow, List.getElem_map, List.getElem_range]
    by_cases e : k = j
    · subst e
      rw [if_pos rfl, if_neg (Nat.lt_irrefl _), if_pos rfl, sumAt_succ ls k i hi]
    · rw [if_neg e]
      by_cases hj : j < k
      · rw [if_pos hj, if_pos hj]
      · rw [if_neg hj, if_neg hj, if_neg (fun h => e h.symm), if_neg (fun h => e h.symm)]
set_option maxHeartbeats 2000000 in
set_option maxRecDepth 20000 in
theorem rsum_calls (n : Nat) (ls : List (List UInt8)) (A : Option Addr) (c : Nat) (R : Nat → Prop) (w : World) (hn : n ≤ 1073741824) (hb : RowsIn R w A ls) (hfit : fitB n ls = true) :
    Calls Try.prog 55 #[.int .i64 (n : Int), .slice A ls.length c] w fun e w' => ∃ v, e = .returned v ∧ OwnB w' w.heap.size v (sumB n ls) ∧ Keeps NoB w w' := by
  have hl := hb.len
  have HB := hid hb.lt
  have HF := hid hfit
  have hui := Try.underlying67
  obtain ⟨i0, hi, hz0, hz1, hz2⟩ := info_parts info_u8
  have hfull := hid (sumRow_full n ls hfit)
  have hnext := hid (sumRow_next n ls)
  have hz := hid (sumRow_zero n ls)
  have hlen := hid (sumRow_length n ls)
  have hgb := hid (sumRow_gb n ls)
  have hset := hid (sumRow_set n ls)
  obtain ⟨m, hm⟩ : ∃ m, ls.length = m := ⟨_, rfl⟩
  rw [hm] at hl hnext ⊢
  have hnext := hid hnext.out
  have hmm := hid hm
  clear hb hfit hm
  go_enter Try.func55, Try.ntmps55
  go_wp2_with (at_make; go_must (refine wpList_make_full _ rfl _ _ _ rfl w.heap.size 5 i0 (.int .u8 0) 1 hui hi hz0 hz1 .i64 .i64 _ _ n rfl rfl rfl rfl (by rw [hz2]; omega) (by unfold maxLen; omega) (Nat.le_refl _) ?_); intro w3 hown3 hgr3)
  have HO := hid (OwnB.ofMake hown3)
  have HK3 := hid ((Keeps.refl NoB w).grown hgr3 (fun i e => by cases e))
  clear hown3 hgr3
  obtain ⟨g, hg⟩ : ∃ g, g = w.heap.size := ⟨_, rfl⟩
  have hgw : w.heap.size ≤ g := by omega
  rw [← hg] at HO ⊢
  have HO := hid (show OwnB w3 w.heap.size (.slice (some ⟨g, 0, none⟩) n n) (List.replicate n 0) by rw [← hg]; exact HO.out)
  clear hg
  go_loopw [6] (fun v6 wr => ∃ k : Nat, k ≤ n ∧ v6 = .int .i64 (k : Int) ∧ Hid (OwnB wr w.heap.size (.slice (some ⟨g, 0, none⟩) n n) (sumRow n ls k 0)) ∧ Hid (Keeps NoB w wr)) (fun v6 _ => n - (intOf v6).toNat)
  case atStart => exact ⟨0, Nat.zero_le _, rfl, by rw [hz.out]; exact HO, HK3⟩
  case round =>
    obtain ⟨k, hk, rfl, HOk, HK⟩ := hrel
    by_cases hlt : k < n
    · go_wp2_with fail
      go_loopw [7] (fun v7 wr => ∃ i : Nat, i ≤ m ∧ v7 = .int .i64 (i : Int) ∧ Hid (OwnB wr w.heap.size (.slice (some ⟨g, 0, none⟩) n n) (sumRow n ls k i)) ∧ Hid (Keeps NoB w wr)) (fun v7 _ => m - (intOf v7).toNat)
      case atStart => exact ⟨0, Nat.zero_le _, rfl, HOk, HK⟩
      case round =>
        obtain ⟨i, hi2, rfl, HOi, HKi⟩ := hrel
        by_cases hlt2 : i < m
        · have hrow := HB.out.kept HKi.out
          obtain ⟨bb, ob, rfl, hbR, hc⟩ := hrow.2 (by rw [hmm.out]; omega)
          obtain ⟨u, c1, A1, cc1, rfl, _, _, h1⟩ := hc i (by rw [hmm.out]; exact hlt2)
          have hll := fitB_at HF.out i (by rw [hmm.out]; exact hlt2)
          obtain ⟨bx, ox, rfl, hxR, hcx⟩ := h1.get (by omega)
          have c2 := hcx k (by omega)
          have hg1 := hgb.out k i hlt
          have hs1 := hset.out k i hlt (by rw [hmm.out]; exact hlt2)
          have hl1 := hlen.out k i
          have c3 := OwnInts.cell (HOi.out : OwnInts _ _ _ _ _ _) (j := k) (by rw [enc8_length, hl1]; exact hlt)
          rw [gi_enc8 _ k (by rw [hl1]; exact hlt), hg1] at c3
          have f3 := OwnInts.free (HOi.out : OwnInts _ _ _ _ _ _) k
          have hst := OwnInts.set (HOi.out : OwnInts _ _ _ _ _ _) (j := k) (by rw [enc8_length, hl1]; exact hlt) ((sumAt ls k i ^^^ gb (gr ls i) k).toNat : Int)
          rw [enc8_set, hs1] at hst
          have HST := hid hst
          have hx := xor_byte (sumAt ls k i) (gb (gr ls i) k)
          rw [hll] at c1
          generalize ((sumAt ls k i ^^^ gb (gr ls i) k).toNat : Int) = z at *
          generalize ((sumAt ls k i).toNat : Int) = x at *
          generalize ((gb (gr ls i) k).toNat : Int) = y at *
          have q0 : (0 : Int) ≤ (k : Int) := by omega
          have q1 : (k : Int) < (n : Int) := by omega
          have q2 : (0 : Int) ≤ (i : Int) := by omega
          have q3 : (i : Int) < (m : Int) := by omega
          clear hst hs1 hg1 hl1 hcx hxR hc hbR hll h1 hrow
          go_wp2_with fail
          go_region
          all_goals go_wp2_with fail
          all_goals go_roundw
          case rel => exact ⟨i + 1, by omega, by go_num, HST, hid (HKi.out.drew.setCell (p := ⟨g, k, none⟩) (fun hq => absurd hgw (Nat.not_le.2 hq)) _)⟩
          case measure => simp [intOf]; omega
        · obtain rfl : i = m := by omega
          go_wp2_with fail
          go_roundw
          case rel => exact ⟨k + 1, by omega, by go_num, by rw [← hnext.out]; exact HOi, HKi⟩
          case measure => simp [intOf]; omega
    · obtain rfl : k = n := by omega
      go_wp2_with fail
      go_ret
      exact ⟨_, rfl, by rw [← hfull.out]; exact HOk.out, HK.out⟩
end Go.Proofs.Ytkjaacpcnjakcaa
/- The blocks of an equation that aren't known; does an equation hold, by the reference: the walks. Conditions: lengths are small; what is read lies below. -/
set_option linter.unusedVariables false
namespace Go.Proofs.Ytkjaacpcnjakcaa
open Go.RowKit

theorem xorL_zero2 {l : List UInt8} {n : Nat} (h : l.length = n) : xorL (List.replicate n 0) l = l := by
  subst h
  induction l with
  | nil => rfl
  | cons x l ih =>
    show (0 ^^^ x) :: xorL (List.replicate l.length 0) l = x :: l
    rw [ih]; simp
theorem sum_val (val : List UInt8) (sel : List (List UInt8)) : sumB val.length (val :: sel) = xorAll val sel := by
  show xorAll (xorL (List.replicate val.length 0) val) sel = _
  rw [xorL_zero2 rfl]
theorem OwnRows.one {R : Nat → Prop} {w : World} {base : Nat} {u : Value} {l : List UInt8} (hb : base ≤ w.heap.size) (h : RowIn (fun b => R b ∧ b < w.heap.size) w u l) : OwnRows R (w.alloc (.cells #[u] 67)) base (.slice (some ⟨w.heap.size, 0, none⟩) 1 1) [l] := by
  refine ⟨[u], rfl, ⟨by simp, .inr ⟨w.heap.size, 1, #[u], rfl, hb, heap_alloc_new w _, Nat.le_refl _, by unfold maxLen; omega, rfl, by simp⟩⟩, fun j u' hu => ?_⟩
  cases j with
  | zero =>
    simp at hu; subst hu
    exact (h.keeps ((Keeps.refl NoB w).alloc _) (fun _ _ h => h)).mono (fun b _ hb => ⟨hb.1, fun e => absurd (show w.heap.size = b by simpa [Value.ownBlock] using e) (by omega)⟩)
  | succ j => simp at hu
end Go.Proofs.Ytkjaacpcnjakcaa
/- The first words of the laws of equations: the walk of almonrylaw15.speaks. No condition. -/
set_option linter.unusedVariables false
namespace Go.Proofs.Ytkjaacpcnjakcaa
open Go.RowKit

theorem BytesIn.ofCells {R : Nat → Prop} {w : World} {b : Nat} {e : TypeId} {fr : Nat × Nat} (l : List UInt8) (h : w.heap[b]? = some (.cells ((enc8 l).map (Value.int .u8)).toArray e fr)) (hl : l.length ≤ 9223372036854775807) (hR : R b) : BytesIn R w (some ⟨b, 0, none⟩) l :=
  ⟨IntsAt.ofBlock (enc8 l) h (by rw [enc8_length]; exact hl), fun b' off e' _ => by injection e' with e'; injection e' with e' _; subst e'; exact hR⟩
theorem IntsIn.ofCells {R : Nat → Prop} {w : World} {b : Nat} {e : TypeId} {fr : Nat × Nat} (l : List Int) (h : w.heap[b]? = some (.cells (l.map (Value.int .i64)).toArray e fr)) (hl : l.length ≤ 9223372036854775807) (hR : R b) : IntsIn R w (some ⟨b, 0, none⟩) l :=
  ⟨IntsAt.ofBlock l h hl, fun b' off e' _ => by injection e' with e'; injection e' with e' _; subst e'; exact hR⟩
theorem odd_15 : oddN [3, 1, 3, 2] = [1, 2] := by decide
theorem sum_15 : sumB 1 [[5], [6]] = [3] := by decide
theorem heap_allocs (os : List Obj) : ∀ (w : World) (i : Nat), i < os.length → (os.foldl World.alloc w).heap[w.heap.size + i]? = os[i]? := by
  have keep : ∀ (os : List Obj) (w : World) (k : Nat), k < w.heap.size → (os.foldl World.alloc w).heap[k]? = w.heap[k]? := by
    intro os
    induction os with
    | nil => intro w k _; rfl
    | cons o os ih =>
      intro w k hk
      show (os.foldl World.alloc (w.alloc o)).heap[k]? = _
      rw [ih _ _ (by simp; omega)]
      exact Below.heap_alloc _ _ _ hk
  induction os with
  | nil => intro w i hi; simp at hi
  | cons o os ih =>
    intro w i hi
    show (os.foldl World.alloc (w.alloc o)).heap[w.heap.size + i]? = _
    cases i with
    | zero => rw [keep os _ _ (by simp)]; exact heap_alloc_new w o
    | succ i =>
      have := ih (w.alloc o) i (by simpa using hi)
      rw [World.size_alloc] at this
      rw [show w.heap.size + (i + 1) = w.heap.size + 1 + i by omega, this]; rfl
theorem keeps_allocs (os : List Obj) : ∀ w : World, Keeps NoB w (os.foldl World.alloc w) := by
  induction os with
  | nil => intro w; exact Keeps.refl _ _
  | cons o os ih => intro w; exact ((Keeps.refl NoB w).alloc o).fresh (ih _)
theorem rows_three (w : World) (b b0 b1 b2 : Nat) (l0 l1 l2 : List UInt8) (T : TypeId) (h : w.heap[b]? = some (.cells #[.slice (some ⟨b0, 0, none⟩) l0.length l0.length, .slice (some ⟨b1, 0, none⟩) l1.length l1.length, .slice (some ⟨b2, 0, none⟩) l2.length l2.length] T (0, 0)))
    (h0 : BytesIn (fun _ => True) w (some ⟨b0, 0, none⟩) l0) (h1 : BytesIn (fun _ => True) w (some ⟨b1, 0, none⟩) l1) (h2 : BytesIn (fun _ => True) w (some ⟨b2, 0, none⟩) l2) : RowsIn (fun _ => True) w (some ⟨b, 0, none⟩) [l0, l1, l2] := by
  refine ⟨by simp, fun _ => ⟨b, 0, rfl, trivial, fun j hj => ?_⟩⟩
  match j, hj with
  | 0, _ => exact ⟨.slice (some ⟨b0, 0, none⟩) l0.length l0.length, by simp [World.cell?, h], ⟨_, _, rfl, Nat.le_refl _, (fun e => by cases e), h0⟩⟩
  | 1, _ => exact ⟨.slice (some ⟨b1, 0, none⟩) l1.length l1.length, by simp [World.cell?, h], ⟨_, _, rfl, Nat.le_refl _, (fun e => by cases e), h1⟩⟩
  | 2, _ => exact ⟨.slice (some ⟨b2, 0, none⟩) l2.length l2.length, by simp [World.cell?, h], ⟨_, _, rfl, Nat.le_refl _, (fun e => by cases e), h2⟩⟩
theorem eqs_two (R : Nat → Prop) (w : World) (b b0 b1 b2 b3 : Nat) (x y : EqV) (T : TypeId) (hR : ∀ k, R k) (h : w.heap[b]? = some (.cells #[.slice (some ⟨b0, 0, none⟩) x.of.length x.of.length, .slice (some ⟨b1, 0, none⟩) x.val.length x.val.length, .slice (some ⟨b2, 0, none⟩) y.of.length y.of.length, .slice (some ⟨b3, 0, none⟩) y.val.length y.val.length] T (0, 0)))
    (h0 : IntsIn R w (some ⟨b0, 0, none⟩) x.of) (h1 : BytesIn R w (some ⟨b1, 0, none⟩) x.val) (h2 : IntsIn R w (some ⟨b2, 0, none⟩) y.of) (h3 : BytesIn R w (some ⟨b3, 0, none⟩) y.val) : EqsIn R w (some ⟨b, 0, none⟩) [x, y] := by
  refine ⟨by simp, fun _ => ⟨b, 0, rfl, hR b, fun j hj => ?_⟩⟩
  match j, hj with
  | 0, _ => exact ⟨.slice (some ⟨b0, 0, none⟩) x.of.length x.of.length, .slice (some ⟨b1, 0, none⟩) x.val.length x.val.length, by simp [World.cell?, h], by simp [World.cell?, h], ⟨_, _, rfl, Nat.le_refl _, (fun e => by cases e), h0⟩, ⟨_, _, rfl, Nat.le_refl _, (fun e => by cases e), h1⟩⟩
  | 1, _ => exact ⟨.slice (some ⟨b2, 0, none⟩) y.of.length y.of.length, .slice (some ⟨b3, 0, none⟩) y.val.length y.val.length, by simp [World.cell?, h], by simp [World.cell?, h], ⟨_, _, rfl, Nat.le_refl _, (fun e => by cases e), h2⟩, ⟨_, _, rfl, Nat.le_refl _, (fun e => by cases e), h3⟩⟩
end Go.Proofs.Ytkjaacpcnjakcaa
/- A sample, as the program draws it: its walk. Conditions: the numbers are of their kinds; below is at most 2^30. -/
set_option linter.unusedVariables false
namespace Go.Proofs.Ytkjaacpcnjakcaa
open Go.RowKit

theorem key_law : Maps.Keyed Try.prog 3 := Maps.int_keyed Try.underlying3
theorem zero_unit (w : World) : (zeroValue 73).run Try.prog w = .ok (.agg #[]) w := by kernel_rfl
/-- A set of numbers, by its keys in the order in which they were put. -/
def SetAt (w : World) (b n : Nat) (l : List Int) : Prop := w.ownsMap (H := Unit) Try.prog 3 unitElem b n (Maps.setOf (.agg []) (l.map (Lit.int .i64)))
theorem same_key_int (a b : Int) : (Lit.int .i64 a).sameKey (.int .i64 b) = decide (a = b) := by
  by_cases h : a = b
  · subst h; rw [WideAt.sameKey_self (a := .int .i64 a) trivial]; simp
  · rw [Maps.sameKey_ne (fun e => h (by injection e))]; simp [h]
theorem set_has (l : List Int) (x : Int) : Maps.has (Maps.setOf (H := Unit) (.agg []) (l.map (Lit.int .i64))) (.int .i64 x) = decide (x ∈ l) := by
  rw [Maps.has_setOf _ _ _ (fun y hy => by obtain ⟨a, _, rfl⟩ := List.mem_map.1 hy; trivial), List.any_map]
  rw [Bool.eq_iff_iff, List.any_eq_true, decide_eq_true_eq]
  constructor
  · rintro ⟨y, hy, h⟩
    rw [Function.comp_apply, same_key_int, decide_eq_true_eq] at h
    exact h ▸ hy
  · intro h
    exact ⟨x, h, by rw [Function.comp_apply, same_key_int]; simp⟩
theorem cnt_cast (below many : Int) : min (max many 0) (max below 0) = ((cntN below many : Nat) : Int) := by
  unfold cntN; split <;> omega
theorem cnt_le (below many : Int) : cntN below many ≤ below.toNat := by unfold cntN; split <;> omega
theorem ne_own {H : Type} {k : TypeId} {R : Value → Option (DataW H × List MemPlace)} {P : Program} {w : World} {b n : Nat} {D : DataW H} {base : Nat} {q : IntKind} {e : TypeId} {v : Value} {xs : List Int} (hm : w.ownsMap P k R b n D) (h : OwnInts w base q e v xs) : some b ≠ v.ownBlock := by
  obtain ⟨es, clock, hb, _⟩ := hm
  rcases h.2 with ⟨rfl, _⟩ | ⟨g, cap, cur, rfl, _, hg, _⟩
  · simp [Value.ownBlock]
  · intro e1
    have : b = g := by simpa [Value.ownBlock] using e1
    subst this
    rw [hb] at hg; cases hg
theorem SetAt.keeps {w w1 : World} {b n : Nat} {l : List Int} (h : SetAt w b n l) {S : Nat → Prop} (hk : Keeps S w w1) (hn : ¬ S b) : SetAt w1 b n l := by
  obtain ⟨es, clock, hb, r⟩ := h
  exact ⟨es, clock, hk.heap hb hn, r⟩
theorem SetAt.lt {w : World} {b n : Nat} {l : List Int} (h : SetAt w b n l) : b < w.heap.size := World.ownsMap.lt h
end Go.Proofs.Ytkjaacpcnjakcaa
/- A map with keys of type int and whatever elements, as a function from keys to values. No condition. -/
set_option linter.unusedVariables false
namespace Go.Proofs.Ytkjaacpcnjakcaa
open Go.RowKit Go.Maps

/-- An element reads as itself. -/
def selfElem (v : Value) : Option (DataW Value × List MemPlace) := some (.held v, [])
/-- What a datum holds, key by key. -/
def HoldsV (D : DataW Value) (f : Int → Option Value) : Prop := ∀ x, (∀ zd, D.atKey (.int .i64 x) zd = match f x with | some v => .held v | none => zd) ∧ Maps.has D (.int .i64 x) = (f x).isSome
/-- Block b is a map of at most n entries that holds f. -/
def MapAt (w : World) (b n : Nat) (f : Int → Option Value) : Prop := ∃ D : DataW Value, w.ownsMap Try.prog 3 selfElem b n D ∧ HoldsV D f
theorem MapAt.lt {w : World} {b n : Nat} {f : Int → Option Value} (h : MapAt w b n f) : b < w.heap.size := by obtain ⟨D, h, _⟩ := h; exact h.lt
theorem MapAt.keeps {w w1 : World} {b n : Nat} {f : Int → Option Value} (h : MapAt w b n f) {S : Nat → Prop} (hk : Keeps S w w1) (hn : ¬ S b) : MapAt w1 b n f := by
  obtain ⟨D, ⟨es, clock, hb, r⟩, hf⟩ := h
  exact ⟨D, ⟨es, clock, hk.heap hb hn, r⟩, hf⟩
theorem MapAt.mono {w : World} {b n n' : Nat} {f : Int → Option Value} (h : MapAt w b n f) (hn : n ≤ n') : MapAt w b n' f := by
  obtain ⟨D, h, hf⟩ := h
  exact ⟨D, h.mono hn, hf⟩
theorem MapAt.made (w : World) : MapAt (w.alloc (.map #[] 0)) w.heap.size 0 (fun _ => none) := ⟨.map [], World.ownsMap_made w _ _ _, fun x => ⟨fun zd => rfl, rfl⟩⟩
theorem MapAt.ne_own {w : World} {b n : Nat} {f : Int → Option Value} (hm : MapAt w b n f) {base sz m : Nat} {e : TypeId} {v : Value} {xs : List Value} (h : w.ownsRow base e sz v m xs) : v.ownBlock ≠ some b := by
  obtain ⟨D, ⟨es, clock, hb, _⟩, _⟩ := hm
  rcases h.2 with ⟨rfl, _⟩ | ⟨g, cap, cur, rfl, _, hg, _⟩
  · simp [Value.ownBlock]
  · intro e1
    have : g = b := by simpa [Value.ownBlock] using e1
    subst this
    rw [hb] at hg; cases hg
theorem MapAt.ne_cells {w : World} {b n : Nat} {f : Int → Option Value} (hm : MapAt w b n f) {g : Nat} {cs : Array Value} {T : TypeId} {fr : Nat × Nat} (h : w.heap[g]? = some (.cells cs T fr)) : g ≠ b := by
  obtain ⟨D, ⟨es, clock, hb, _⟩, _⟩ := hm
  rintro rfl
  rw [hb] at h; cases h
theorem HoldsV.put {D : DataW Value} {f : Int → Option Value} (h : HoldsV D f) (hm : Maps.IsMap D) (x : Int) (v : Value) : HoldsV (D.put (.int .i64 x) (.held v)) (fun y => if y = x then some v else f y) := fun y => by
  by_cases e : y = x
  · subst e
    refine ⟨fun zd => ?_, ?_⟩
    · rw [Maps.atKey_put_same hm (show WideAt.IsKeyLit (.int .i64 y) from trivial)]; simp
    · rw [Maps.has_put_same hm (show WideAt.IsKeyLit (.int .i64 y) from trivial)]; simp
  · have hne : (Lit.int .i64 y) ≠ .int .i64 x := fun h => e (by injection h)
    refine ⟨fun zd => ?_, ?_⟩
    · rw [Maps.atKey_put_other hne]; simp only [if_neg e]; exact (h y).1 zd
    · rw [Maps.has_put_other hne]; simp only [if_neg e]; exact (h y).2
theorem HoldsV.del {D : DataW Value} {f : Int → Option Value} (h : HoldsV D f) (hm : Maps.Tidy D) (x : Int) : HoldsV (D.del (.int .i64 x)) (fun y => if y = x then none else f y) := fun y => by
  by_cases e : y = x
  · subst e
    refine ⟨fun zd => ?_, ?_⟩
    · rw [Maps.atKey_del_same]; simp
    · rw [Maps.has_del_same]; simp
  · have hne : (Lit.int .i64 y) ≠ .int .i64 x := fun h => e (by injection h)
    refine ⟨fun zd => ?_, ?_⟩
    · rw [Maps.atKey_del_other hne]; simp only [if_neg e]; exact (h y).1 zd
    · rw [Maps.has_del_other hne]; simp only [if_neg e]; exact (h y).2
section
variable (w : World) {ops : Array Oper} {rest : List Oper} {o : Oper} {a : Act} {Q : Exit → Act → World → Prop}
/-- 'm[x]', 'v, ok := m[x]'. -/
theorem MapAt.look {w : World} {b n : Nat} {f : Int → Option Value} (h : MapAt w b n f) {t e : TypeId} (ht : Try.prog.underlying t = some (.map 3 e)) {z : Value} (hz : (zeroValue e).run Try.prog w = .ok z w) {x : Int} (hx : (Lit.int .i64 x).wf = true) :
    (Instr.lookup t (.map (some b)) (.int .i64 x) false).run Try.prog w = .ok ((f x).getD z) w ∧ (Instr.lookup t (.map (some b)) (.int .i64 x) true).run Try.prog w = .ok (.tuple #[(f x).getD z, .bool (f x).isSome]) w := by
  obtain ⟨D, hD, hf⟩ := h
  have hk : keyOf Try.prog 3 (.int .i64 x) = some (.int .i64 x) := Maps.keyOf_int_mk Try.underlying3 hx
  have fact : ∀ (v : Value) (ps : List MemPlace), selfElem v = some (D.atKey (.int .i64 x) (.held z), ps) → v = (f x).getD z := by
    intro v ps hv
    unfold selfElem at hv
    rw [(hf x).1] at hv
    cases hfx : f x with
    | none =>
      rw [hfx] at hv
      simp only [Option.some.injEq, Prod.mk.injEq, DataW.held.injEq] at hv
      exact hv.1
    | some u =>
      rw [hfx] at hv
      simp only [Option.some.injEq, Prod.mk.injEq, DataW.held.injEq] at hv
      exact hv.1
  obtain ⟨v, ps, hrun, hv⟩ := hD.lookup key_law ht hz (show selfElem z = some (.held z, []) from rfl) hk
  obtain ⟨v2, ps2, hrun2, hv2⟩ := hD.look_ok key_law ht hz (show selfElem z = some (.held z, []) from rfl) hk
  rw [fact v ps hv] at hrun
  rw [fact v2 ps2 hv2, (hf x).2] at hrun2
  exact ⟨hrun, hrun2⟩
theorem wpList_look_at (hg : o.guard = none) (m k : Operand) (t : TypeId) (hop : o.op = Op.lookup t m k false) (e : TypeId) (ht : Try.prog.underlying t = some (.map 3 e)) (z : Value) (hz : (zeroValue e).run Try.prog w = .ok z w) (b n : Nat) (f : Int → Option Value)
    (hm : a.eval m = .map (some b)) (h : MapAt w b n f) (x : Int) (hx : a.eval k = .int .i64 x) (hwf : (Lit.int .i64 x).wf = true) (u : Value) (hu : (f x).getD z = u)
    (hK : wpList Try.prog ops Q rest (a.put o.dst u) w) : wpList Try.prog ops Q (o :: rest) a w := by
  refine wpList_plain hg fun K' hK' => ?_
  have hrun := (h.look ht hz hwf).1
  rw [hu] at hrun
  unfold Oper.wp
  simp [execOp, hop, hm, hx, hrun, Result.andThen]
  exact hK' _ _ hK
theorem wpList_look_ok_at (hg : o.guard = none) (m k : Operand) (t : TypeId) (hop : o.op = Op.lookup t m k true) (e : TypeId) (ht : Try.prog.underlying t = some (.map 3 e)) (z : Value) (hz : (zeroValue e).run Try.prog w = .ok z w) (b n : Nat) (f : Int → Option Value)
    (hm : a.eval m = .map (some b)) (h : MapAt w b n f) (x : Int) (hx : a.eval k = .int .i64 x) (hwf : (Lit.int .i64 x).wf = true) (u : Value) (hu : (f x).getD z = u) (r : Bool) (hr : (f x).isSome = r)
    (hK : wpList Try.prog ops Q rest (a.put o.dst (.tuple #[u, .bool r])) w) : wpList Try.prog ops Q (o :: rest) a w := by
  refine wpList_plain hg fun K' hK' => ?_
  have hrun := (h.look ht hz hwf).2
  rw [hu, hr] at hrun
  unfold Oper.wp
  simp [execOp, hop, hm, hx, hrun, Result.andThen]
  exact hK' _ _ hK
/-- 'm[x] = v'. -/
theorem MapAt.store {w : World} {b n : Nat} {f : Int → Option Value} (h : MapAt w b n f) {t e : TypeId} (ht : Try.prog.underlying t = some (.map 3 e)) (hn : n < maxLen) {x : Int} (hx : (Lit.int .i64 x).wf = true) (v : Value) :
    ∃ w', (Instr.mapUpdate t (.map (some b)) (.int .i64 x) v).run Try.prog w = .ok () w' ∧ MapAt w' b (n + 1) (fun y => if y = x then some v else f y) ∧ w.grownBy w' (some b) ∧ w'.heap.size = w.heap.size := by
  obtain ⟨D, hD, hf⟩ := h
  obtain ⟨w', h1, h2, h3⟩ := hD.store key_law ht hn (Maps.keyOf_int_mk Try.underlying3 hx) (show selfElem v = some (.held v, []) from rfl)
  refine ⟨w', h1, ⟨_, h2, hf.put hD.isMap x v⟩, h3.grown, ?_⟩
  obtain ⟨es, clock, es', clock', hb, rfl⟩ := h3
  simp [ChangeMaps.setBlock]
theorem wpList_put_at (hg : o.guard = none) (m k v : Operand) (t : TypeId) (hop : o.op = Op.mapUpdate t m k v) (e : TypeId) (ht : Try.prog.underlying t = some (.map 3 e)) (b n : Nat) (f : Int → Option Value)
    (hm : a.eval m = .map (some b)) (h : MapAt w b n f) (hn : n < maxLen) (x : Int) (hx : a.eval k = .int .i64 x) (hwf : (Lit.int .i64 x).wf = true)
    (hK : ∀ w', MapAt w' b (n + 1) (fun y => if y = x then some (a.eval v) else f y) → w.grownBy w' (some b) → w'.heap.size = w.heap.size → wpList Try.prog ops Q rest (a.put o.dst undef) w') : wpList Try.prog ops Q (o :: rest) a w := by
  refine wpList_plain hg fun K' hK' => ?_
  obtain ⟨w', hrun, r1, r2, r3⟩ := h.store ht hn hwf (a.eval v)
  unfold Oper.wp
  simp [execOp, hop, hm, hx, hrun, Result.andThen]
  exact hK' _ _ (hK w' r1 r2 r3)
/-- The same in a region that draws its order. -/
theorem step_put_at {w : World} {K : Act → World → Prop} {E : Prop} (hg : o.guard = none) (m k v : Operand) (t : TypeId) (hop : o.op = Op.mapUpdate t m k v) (e : TypeId) (ht : Try.prog.underlying t = some (.map 3 e)) (b n : Nat) (f : Int → Option Value)
    (hm : a.eval m = .map (some b)) (h : MapAt w b n f) (hn : n < maxLen) (x : Int) (hx : a.eval k = .int .i64 x) (hwf : (Lit.int .i64 x).wf = true) (val : Value) (hv : a.eval v = val)
    (hK : ∀ w', MapAt w' b (n + 1) (fun y => if y = x then some val else f y) → w.grownBy w' (some b) → w'.heap.size = w.heap.size → K (a.put o.dst undef) w') :
    if Region.wanted o (yielded ops a.tmps) = true then Oper.wp Try.prog o a w K Q else E := by
  have hw : Region.wanted o (yielded ops a.tmps) = true := by simp [Region.wanted, hg]
  rw [if_pos hw]
  obtain ⟨w', hrun, r1, r2, r3⟩ := h.store ht hn hwf val
  unfold Oper.wp
  simp [execOp, hop, hm, hx, hv, hrun, Result.andThen]
  exact hK w' r1 r2 r3
/-- 'delete(m, x)'. -/
theorem MapAt.drop {w : World} {b n : Nat} {f : Int → Option Value} (h : MapAt w b n f) {t e : TypeId} (ht : Try.prog.underlying t = some (.map 3 e)) {x : Int} (hx : (Lit.int .i64 x).wf = true) (ty : TypeId) :
    ∃ w', (Builtin.delete_ #[t, 3] ty #[.map (some b), .int .i64 x]).run Try.prog w = .ok (.tuple #[]) w' ∧ MapAt w' b n (fun y => if y = x then none else f y) ∧ w.grownBy w' (some b) ∧ w'.heap.size = w.heap.size := by
  obtain ⟨D, hD, hf⟩ := h
  obtain ⟨w', h1, h2, h3⟩ := hD.drop key_law ht (Maps.keyOf_int_mk Try.underlying3 hx) ty
  refine ⟨w', h1, ⟨_, h2, hf.del (hD.tidy key_law) x⟩, h3.grown, ?_⟩
  obtain ⟨es, clock, es', clock', hb, rfl⟩ := h3
  simp [ChangeMaps.setBlock]
theorem wpList_delete_at (hg : o.guard = none) (m k : Operand) (t : TypeId) (hop : o.op = Op.call { callee := Callee.builtin Builtin.delete, args := #[m, k], argTypes := #[t, 3] }) (e : TypeId) (ht : Try.prog.underlying t = some (.map 3 e)) (b n : Nat) (f : Int → Option Value)
    (hm : a.eval m = .map (some b)) (h : MapAt w b n f) (x : Int) (hx : a.eval k = .int .i64 x) (hwf : (Lit.int .i64 x).wf = true)
    (hK : ∀ w', MapAt w' b n (fun y => if y = x then none else f y) → w.grownBy w' (some b) → w'.heap.size = w.heap.size → wpList Try.prog ops Q rest (a.put o.dst (.tuple #[])) w') : wpList Try.prog ops Q (o :: rest) a w := by
  refine wpList_plain hg fun K' hK' => ?_
  obtain ⟨w', hrun, r1, r2, r3⟩ := h.drop ht hwf o.type
  unfold Oper.wp
  simp [execOp, hop, resolve, invoke, builtin, hm, hx, hrun, Result.andThen]
  exact hK' _ _ (hK w' r1 r2 r3)
/-- 'len(m)': how many keys there are. -/
theorem keys_count {D : DataW Value} {f : Int → Option Value} {b n : Nat} {w : World} (hD : w.ownsMap Try.prog 3 selfElem b n D) (hf : HoldsV D f) {l : List Int} (hl : l.Nodup) (hm : ∀ x, x ∈ l ↔ (f x).isSome = true) : Maps.size D = l.length := by
  obtain ⟨es, rfl, hp, hk⟩ := hD.entries key_law
  have hint : ∀ p ∈ es, ∃ x : Int, p.1 = .int .i64 x := by
    intro p hpm
    obtain ⟨es0, clock, hb, F, hs, hD0⟩ := hD
    injection hD0 with hD0
    rw [hD0] at hpm
    obtain ⟨x, hx, rfl⟩ := List.mem_map.1 (mem_sorted.1 hpm)
    obtain ⟨y, hy⟩ := F.reads x hx
    obtain ⟨z, _, e, _⟩ := Maps.keyOf_int_inv Try.underlying3 (WideElems.rd_key hy)
    exact ⟨z, by rw [WideElems.rg_of hy]; exact e⟩
  have hmem : ∀ x : Int, x ∈ l ↔ (.int .i64 x) ∈ es.map Prod.fst := by
    intro x
    rw [hm x, ← (hf x).2]
    show es.any (fun p => p.1.sameKey (.int .i64 x)) = true ↔ _
    rw [List.any_eq_true, List.mem_map]
    constructor
    · rintro ⟨p, h1, h2⟩
      obtain ⟨y, hy⟩ := hint p h1
      rw [hy, same_key_int, decide_eq_true_eq] at h2
      exact ⟨p, h1, by rw [hy, h2]⟩
    · rintro ⟨p, h1, h2⟩
      exact ⟨p, h1, by rw [h2, same_key_int]; simp⟩
  have hnd : (es.map Prod.fst).Nodup := by
    unfold List.Nodup
    rw [List.pairwise_map]
    exact hp
  have hperm : (l.map (Lit.int .i64)).Perm (es.map Prod.fst) := by
    refine (List.perm_ext_iff_of_nodup ?_ hnd).2 ?_
    · unfold List.Nodup
      rw [List.pairwise_map]
      exact hl.imp (fun h e => h (by injection e))
    · intro k
      rw [List.mem_map]
      constructor
      · rintro ⟨x, hx, rfl⟩; exact (hmem x).1 hx
      · intro hk
        obtain ⟨p, hp1, rfl⟩ := List.mem_map.1 hk
        obtain ⟨y, hy⟩ := hint p hp1
        exact ⟨y, (hmem y).2 (by rw [← hy]; exact List.mem_map.2 ⟨p, hp1, rfl⟩), hy.symm⟩
  have := hperm.length_eq
  rw [List.length_map, List.length_map] at this
  show es.length = l.length
  omega
theorem wpList_len_at (hg : o.guard = none) (m : Operand) (t : TypeId) (hop : o.op = Op.call { callee := Callee.builtin Builtin.len, args := #[m], argTypes := #[t] }) (e : TypeId) (ht : Try.prog.underlying t = some (.map 3 e)) (b n : Nat) (f : Int → Option Value)
    (hm : a.eval m = .map (some b)) (h : MapAt w b n f) (l : List Int) (hl : l.Nodup) (hlm : ∀ x, x ∈ l ↔ (f x).isSome = true)
    (hK : wpList Try.prog ops Q rest (a.put o.dst (.int .i64 (l.length : Int))) w) : wpList Try.prog ops Q (o :: rest) a w := by
  obtain ⟨D, hD, hf⟩ := h
  refine wpList_len_own w hg m t hop 3 e ht selfElem b n D hm hD ?_
  rw [keys_count hD hf hl hlm]
  exact hK
end
end Go.Proofs.Ytkjaacpcnjakcaa
/- Steps of a region that draws its order: appends. No condition. -/
set_option linter.unusedVariables false
namespace Go.Proofs.Ytkjaacpcnjakcaa
open Go.RowKit

theorem step_appInts2 {P : Program} {w : World} {ops : Array Oper} {o : Oper} {a : Act} {K : Act → World → Prop} {Q : Exit → Act → World → Prop} {E : Prop} (hgd : o.guard = none) (s x : Operand) (t : TypeId)
    (ho : o.op = .call { callee := .builtin .append, args := #[s, x], argTypes := #[t, t] }) (base : Nat) (e : TypeId) (k : IntKind) (bytes : Nat) (ht : P.underlying t = some (.slice e))
    (hi : (P.info? e).map (fun i => (i.zero, i.size, i.bytes)) = some (some (.int k 0), 1, bytes)) (v : Value) (ys : List Int) (hs : a.eval s = v) (hown : OwnInts w base k e v ys) (A : Option Addr) (c : Nat) (xs : List Int)
    (hx : a.eval x = .slice A xs.length c) (hA : A = none → c = 0) (hat : IntsAt w k A xs) (hb : (ys.length + xs.length) * bytes ≤ 140737488355328) (hm : ys.length + xs.length ≤ 140737488355328) (hbase : base ≤ w.heap.size)
    (h : ∀ A' c' w', OwnInts w' base k e (.slice A' (ys ++ xs).length c') (ys ++ xs) → w.grownBy w' v.ownBlock → K (a.put o.dst (.slice A' (ys ++ xs).length c')) w') :
    if Region.wanted o (yielded ops a.tmps) = true then Oper.wp P o a w K Q else E := by
  have hw : Region.wanted o (yielded ops a.tmps) = true := by simp [Region.wanted, hgd]
  rw [if_pos hw]
  obtain ⟨i, i1, i2, i3, i4⟩ := info_parts hi
  cases A with
  | none =>
    have hn : xs = [] := by
      rcases Nat.eq_zero_or_pos xs.length with h0 | h0
      · exact List.length_eq_zero_iff.1 h0
      · obtain ⟨b, off, e, _⟩ := hat.get h0; cases e
    subst hn
    rw [hA rfl] at hx
    have hrun := run_append_owned_none (P := P) (w := w) base t o.type e i 1 ht i1 v ys.length _ hown
    unfold Oper.wp
    simp [execOp, ho, resolve, invoke, builtin, hs, hx, hrun, Result.andThen]
    obtain ⟨A', c', e', _⟩ := hown.reads
    have := h A' c' w (by rw [List.append_nil, ← e']; exact hown) ⟨rfl, rfl, rfl, Nat.le_refl _, fun _ _ _ => rfl⟩
    rw [List.append_nil, ← e'] at this
    exact this
  | some ad =>
    refine wp_append_own w s x t ho base e i (.int k 0) 1 bytes ht i1 i2 i3 i4 rfl (by decide) v ys.length (ys.map (Value.int k)) hs hown ad xs.length c (xs.map (Value.int k)) hx (by simp) ?_ (ints_oneCell k xs) (by unfold maxLen; omega) hb hbase ?_
    · intro j u hu
      rw [List.getElem?_map] at hu
      obtain ⟨y, hy, rfl⟩ := Option.map_eq_some_iff.1 hu
      obtain ⟨hj, hyj⟩ := List.getElem?_eq_some_iff.1 hy
      obtain ⟨b, off, e, hc⟩ := hat.get (by omega)
      cases e
      have := hc j hj
      rw [gi_eq xs j hj, hyj] at this
      unfold Addr.add
      split
      · rename_i e0; subst e0; simpa using this
      · exact this
    · intro v' w' h1 h2 h3
      have hO : OwnInts w' base k e v' (ys ++ xs) := by unfold OwnInts; simpa using h1
      obtain ⟨A', c', e', _⟩ := hO.reads
      subst e'
      exact h A' c' w' hO h2
theorem step_app1V2 {P : Program} {w : World} {ops : Array Oper} {o : Oper} {a : Act} {K : Act → World → Prop} {Q : Exit → Act → World → Prop} {E : Prop} (hgd : o.guard = none) (s x : Operand) (t : TypeId)
    (ho : o.op = .call { callee := .builtin .append, args := #[s, x], argTypes := #[t, t] }) (base : Nat) (e : TypeId) (z : Value) (bytes : Nat) (ht : P.underlying t = some (.slice e))
    (hi : (P.info? e).map (fun i => (i.zero, i.size, i.bytes)) = some (some z, 1, bytes)) (hz : z.cells.size = 1) (v : Value) (n : Nat) (xs : List Value) (hs : a.eval s = v) (hown : w.ownsRow base e 1 v n xs) (bx c : Nat) (y : Value) (hy : y.oneCell' = true)
    (hx : a.eval x = .slice (some ⟨bx, 0, none⟩) 1 c) (hcell : w.cell? ⟨bx, 0, none⟩ = some y) (hb : (n + 1) * bytes ≤ 140737488355328) (hm : n + 1 ≤ 140737488355328) (hbase : base ≤ w.heap.size)
    (h : ∀ g cap w', w'.ownsRow base e 1 (.slice (some ⟨g, 0, none⟩) (n + 1) cap) (n + 1) (xs ++ [y]) → w.grownBy w' v.ownBlock → (v.ownBlock = some g ∨ g = w.heap.size) → K (a.put o.dst (.slice (some ⟨g, 0, none⟩) (n + 1) cap)) w') :
    if Region.wanted o (yielded ops a.tmps) = true then Oper.wp P o a w K Q else E := by
  obtain ⟨i, i1, i2, i3, i4⟩ := info_parts hi
  refine step_append_lies (H := w.heap.size) (hH := rfl) (w := w) hgd s x t ho base e i z 1 bytes ht i1 i2 i3 i4 hz (by decide) v n xs hs hown ⟨bx, 0, none⟩ 1 c [y] hx rfl ?_ ?_ (by omega) (by unfold maxLen; omega) hb hbase ?_
  · intro j u hu
    cases j with
    | zero => simp at hu; subst hu; exact hcell
    | succ j => simp at hu
  · intro u hu; simp at hu; subst hu; exact hy
  · intro g cap w' h1 h2 h3 _
    exact h g cap w' h1 h2 h3
end Go.Proofs.Ytkjaacpcnjakcaa
/- Lists of equations of the call's own. No condition. -/
set_option linter.unusedVariables false
namespace Go.Proofs.Ytkjaacpcnjakcaa
open Go.RowKit

theorem info_eqn : (Try.prog.info? 69).map (fun i => (i.zero, i.size, i.bytes)) = some (some (.agg #[.slice none 0 0, .slice none 0 0]), 2, 48) := by kernel_rfl
theorem Keeps.sizeN {w w' : World} (h : Keeps NoB w w') : w.heap.size ≤ w'.heap.size := h.size
theorem EqsIn.kept {R : Nat → Prop} {w w1 : World} {A : Option Addr} {es : List EqV} (h : EqsIn R w A es) (hk : Keeps NoB w w1) : EqsIn R w1 A es := h.keeps hk (fun _ _ h => h)
/-- The two cells of an equation. -/
def PairIn (R : Nat → Prop) (w : World) (u1 u2 : Value) (e : EqV) : Prop := NumsIn R w u1 e.of ∧ RowIn R w u2 e.val
theorem PairIn.keeps {R S : Nat → Prop} {w w1 : World} {u1 u2 : Value} {e : EqV} (h : PairIn R w u1 u2 e) (hk : Keeps S w w1) (hn : ∀ b, R b → ¬ S b) : PairIn R w1 u1 u2 e := ⟨h.1.keeps hk hn, h.2.keeps hk hn⟩
theorem PairIn.kept {R : Nat → Prop} {w w1 : World} {u1 u2 : Value} {e : EqV} (h : PairIn R w u1 u2 e) (hk : Keeps NoB w w1) : PairIn R w1 u1 u2 e := h.keeps hk (fun _ _ h => h)
theorem PairIn.mono {R R' : Nat → Prop} {w : World} {u1 u2 : Value} {e : EqV} (h : PairIn R w u1 u2 e) (hr : ∀ b, b < w.heap.size → R b → R' b) : PairIn R' w u1 u2 e := ⟨h.1.mono hr, h.2.mono hr⟩
theorem PairIn.ones {R : Nat → Prop} {w : World} {u1 u2 : Value} {e : EqV} (h : PairIn R w u1 u2 e) : u1.oneCell' = true ∧ u2.oneCell' = true := by
  obtain ⟨⟨_, _, rfl, _⟩, ⟨_, _, rfl, _⟩⟩ := h
  exact ⟨rfl, rfl⟩
/-- Cells, two for each equation. -/
def PairsIn (R : Nat → Prop) (w : World) (us : List Value) (es : List EqV) : Prop := us.length = es.length * 2 ∧ ∀ j, j < es.length → ∃ u1 u2, us[j * 2]? = some u1 ∧ us[j * 2 + 1]? = some u2 ∧ PairIn R w u1 u2 (ge es j)
theorem PairsIn.keeps {R S : Nat → Prop} {w w1 : World} {us : List Value} {es : List EqV} (h : PairsIn R w us es) (hk : Keeps S w w1) (hn : ∀ b, R b → ¬ S b) : PairsIn R w1 us es := ⟨h.1, fun j hj => by
  obtain ⟨u1, u2, h1, h2, h3⟩ := h.2 j hj
  exact ⟨u1, u2, h1, h2, h3.keeps hk hn⟩⟩
theorem PairsIn.mono {R R' : Nat → Prop} {w : World} {us : List Value} {es : List EqV} (h : PairsIn R w us es) (hr : ∀ b, b < w.heap.size → R b → R' b) : PairsIn R' w us es := ⟨h.1, fun j hj => by
  obtain ⟨u1, u2, h1, h2, h3⟩ := h.2 j hj
  exact ⟨u1, u2, h1, h2, h3.mono hr⟩⟩
theorem ge_append_left (es fs : List EqV) (j : Nat) (h : j < es.length) : ge (es ++ fs) j = ge es j := by unfold ge; rw [List.getD_eq_getElem?_getD, List.getD_eq_getElem?_getD, List.getElem?_append_left h]
theorem ge_append_right (es fs : List EqV) (j : Nat) (h : es.length ≤ j) : ge (es ++ fs) j = ge fs (j - es.length) := by unfold ge; rw [List.getD_eq_getElem?_getD, List.getD_eq_getElem?_getD, List.getElem?_append_right h]
theorem PairsIn.append {R : Nat → Prop} {w : World} {us vs : List Value} {es fs : List EqV} (h : PairsIn R w us es) (k : PairsIn R w vs fs) : PairsIn R w (us ++ vs) (es ++ fs) := by
  refine ⟨by rw [List.length_append, List.length_append, h.1, k.1]; omega, fun j hj => ?_⟩
  rw [List.length_append] at hj
  rcases Nat.lt_or_ge j es.length with h1 | h1
  · obtain ⟨u1, u2, e1, e2, e3⟩ := h.2 j h1
    refine ⟨u1, u2, ?_, ?_, by rw [ge_append_left es fs j h1]; exact e3⟩
    · rw [List.getElem?_append_left (by rw [h.1]; omega)]; exact e1
    · rw [List.getElem?_append_left (by rw [h.1]; omega)]; exact e2
  · obtain ⟨u1, u2, e1, e2, e3⟩ := k.2 (j - es.length) (by omega)
    refine ⟨u1, u2, ?_, ?_, by rw [ge_append_right es fs j h1]; exact e3⟩
    · rw [List.getElem?_append_right (by rw [h.1]; omega), h.1, show j * 2 - es.length * 2 = (j - es.length) * 2 by omega]; exact e1
    · rw [List.getElem?_append_right (by rw [h.1]; omega), h.1, show j * 2 + 1 - es.length * 2 = (j - es.length) * 2 + 1 by omega]; exact e2
theorem PairsIn.one {R : Nat → Prop} {w : World} {u1 u2 : Value} {e : EqV} (h : PairIn R w u1 u2 e) : PairsIn R w [u1, u2] [e] := ⟨rfl, fun j hj => by
  obtain rfl : j = 0 := by simpa using hj
  exact ⟨u1, u2, rfl, rfl, h⟩⟩
/-- The cells of equations that are read. -/
theorem EqsIn.cells {R : Nat → Prop} {w : World} {b off : Nat} {es : List EqV} (h : EqsIn R w (some ⟨b, off, none⟩) es) : ∃ us, PairsIn R w us es ∧ (∀ (j : Nat) (u : Value), us[j]? = some u → w.cell? ⟨b, off + j, none⟩ = some u) ∧ ∀ u ∈ us, u.oneCell' = true := by
  rcases Nat.eq_zero_or_pos es.length with h0 | h0
  · obtain rfl : es = [] := List.length_eq_zero_iff.1 h0
    exact ⟨[], ⟨rfl, fun j hj => by simp at hj⟩, fun j u hj => by simp at hj, fun u hu => by simp at hu⟩
  · obtain ⟨b', off', e, _, hc⟩ := h.2 h0
    injection e with e; injection e with e1 e2 _
    subst e1 e2
    have key : ∀ i, i < es.length * 2 → ∃ u, w.cell? ⟨b, off + i, none⟩ = some u ∧ u.oneCell' = true := by
      intro i hi
      obtain ⟨u1, u2, h1, h2, h3, h4⟩ := hc (i / 2) (by omega)
      have ho := PairIn.ones ⟨h3, h4⟩
      rcases Nat.mod_two_eq_zero_or_one i with hm | hm
      · exact ⟨u1, by rw [show off + i = off + i / 2 * 2 by omega]; exact h1, ho.1⟩
      · exact ⟨u2, by rw [show off + i = off + i / 2 * 2 + 1 by omega]; exact h2, ho.2⟩
    refine ⟨(List.range (es.length * 2)).map fun i => (w.cell? ⟨b, off + i, none⟩).getD undef, ⟨by simp, fun j hj => ?_⟩, fun j u hj => ?_, fun u hu => ?_⟩
    · obtain ⟨u1, u2, h1, h2, h3, h4⟩ := hc j hj
      refine ⟨u1, u2, ?_, ?_, h3, h4⟩
      · rw [List.getElem?_map, List.getElem?_range (by omega)]; simp [h1]
      · rw [List.getElem?_map, List.getElem?_range (by omega)]; simp only [Option.map_some, ← Nat.add_assoc, h2, Option.getD_some]
    · rw [List.getElem?_map] at hj
      obtain ⟨i, hi, rfl⟩ := Option.map_eq_some_iff.1 hj
      obtain ⟨hlt, rfl⟩ := List.getElem?_eq_some_iff.1 hi
      simp only [List.length_range] at hlt
      simp only [List.getElem_range]
      obtain ⟨u, hu, _⟩ := key j hlt
      rw [hu]; rfl
    · obtain ⟨i, hi, rfl⟩ := List.mem_map.1 hu
      obtain ⟨u, hu, ho⟩ := key i (List.mem_range.1 hi)
      rw [hu]; exact ho
/-- Equations that are read at an address, wherever that lies. -/
def CellsE (R : Nat → Prop) (w : World) (A : Option Addr) (es : List EqV) : Prop := es = [] ∨ ∃ b off us, A = some ⟨b, off, none⟩ ∧ PairsIn R w us es ∧ (∀ (j : Nat) (u : Value), us[j]? = some u → w.cell? ⟨b, off + j, none⟩ = some u) ∧ ∀ u ∈ us, u.oneCell' = true
theorem EqsIn.cellsE {R : Nat → Prop} {w : World} {A : Option Addr} {es : List EqV} (h : EqsIn R w A es) : CellsE R w A es := by
  rcases Nat.eq_zero_or_pos es.length with h0 | h0
  · exact .inl (List.length_eq_zero_iff.1 h0)
  · obtain ⟨b, off, e, _, _⟩ := h.2 h0
    subst e
    obtain ⟨us, h1, h2, h3⟩ := h.cells
    exact .inr ⟨b, off, us, rfl, h1, h2, h3⟩
theorem CellsE.one {R : Nat → Prop} {w : World} {u1 u2 : Value} {e : EqV} {T : TypeId} (h : PairIn R w u1 u2 e) : CellsE R (w.alloc (.cells #[u1, u2] T)) (some ⟨w.heap.size, 0, none⟩) [e] := by
  have hb := box_two w u1 u2 T
  refine .inr ⟨w.heap.size, 0, [u1, u2], rfl, PairsIn.one (h.keeps ((Keeps.refl NoB w).alloc _) (fun _ _ h => h)), fun j u hj => ?_, fun u hu => ?_⟩
  · match j, hj with
    | 0, hj => simp at hj; subst hj; exact hb.1
    | 1, hj => simp at hj; subst hj; exact hb.2
  · rcases List.mem_cons.1 hu with e1 | hu
    · rw [e1]; exact h.ones.1
    · rw [List.mem_singleton.1 hu]; exact h.ones.2
theorem CellsE.keeps {R S : Nat → Prop} {w w1 : World} {b off : Nat} {es : List EqV} (h : CellsE R w (some ⟨b, off, none⟩) es) (hk : Keeps S w w1) (hn : ∀ b, R b → ¬ S b) (hb : ¬ S b) : CellsE R w1 (some ⟨b, off, none⟩) es := by
  rcases h with h | ⟨b', off', us, e, h1, h2, h3⟩
  · exact .inl h
  · injection e with e; injection e with e1 e2 _
    subst e1 e2
    exact .inr ⟨b, off, us, rfl, h1.keeps hk hn, fun j u hj => hk.cell (h2 j u hj) hb, h3⟩
/-- Equations of the call's own. -/
def OwnEqs (R : Nat → Prop) (w : World) (base : Nat) (v : Value) (es : List EqV) : Prop := ∃ us, w.ownsRow base 69 2 v es.length us ∧ PairsIn (fun b => R b ∧ v.ownBlock ≠ some b) w us es
theorem OwnEqs.keeps {R S : Nat → Prop} {w w1 : World} {base : Nat} {v : Value} {es : List EqV} (h : OwnEqs R w base v es) (hk : Keeps S w w1) (hR : ∀ b, R b → ¬ S b) (hv : ∀ b, v.ownBlock = some b → ¬ S b) : OwnEqs R w1 base v es := by
  obtain ⟨us, h1, h2⟩ := h
  refine ⟨us, ⟨h1.1, ?_⟩, h2.keeps hk (fun b hb => hR b hb.1)⟩
  rcases h1.2 with h3 | ⟨g, cap, cur, rfl, hg, hh, r⟩
  · exact .inl h3
  · exact .inr ⟨g, cap, cur, rfl, hg, hk.heap hh (hv g (by simp [Value.ownBlock])), r⟩
theorem OwnEqs.kept {R : Nat → Prop} {w w1 : World} {base : Nat} {v : Value} {es : List EqV} (h : OwnEqs R w base v es) (hk : Keeps NoB w w1) : OwnEqs R w1 base v es := h.keeps hk (fun _ _ h => h) (fun _ _ h => h)
theorem OwnEqs.nil (R : Nat → Prop) (w : World) (base : Nat) : OwnEqs R w base (.slice none 0 0) [] := ⟨[], World.ownsRow_nil w base _ 2, rfl, fun j hj => by simp at hj⟩
theorem OwnEqs.base_le {R : Nat → Prop} {w : World} {base : Nat} {v : Value} {es : List EqV} (h : OwnEqs R w base v es) (b : Nat) (hb : v.ownBlock = some b) : base ≤ b ∧ b < w.heap.size := by
  obtain ⟨us, h1, _⟩ := h
  exact World.ownsRow.lt h1 b hb
theorem OwnEqs.reads {R : Nat → Prop} {w : World} {base : Nat} {v : Value} {es : List EqV} (h : OwnEqs R w base v es) (hm : es.length ≤ 4611686018427387903) : ∃ A c, v = .slice A es.length c ∧ es.length ≤ c ∧ (A = none → c = 0) ∧ EqsIn (fun b => R b ∨ v.ownBlock = some b) w A es := by
  obtain ⟨us, h1, h2⟩ := h
  rcases h1.2 with ⟨rfl, h0⟩ | ⟨g, cap, cur, rfl, hg, hh, h3, h4, h5, h6⟩
  · exact ⟨none, 0, by rw [h0], by omega, fun _ => rfl, hm, fun h => by omega⟩
  · refine ⟨_, cap, rfl, h3, (fun e => by cases e), hm, fun h0 => ⟨g, 0, rfl, .inr rfl, fun j hj => ?_⟩⟩
    obtain ⟨u1, u2, e1, e2, e3⟩ := h2.2 j hj
    have hc := fun (i : Nat) (u : Value) (hu : us[i]? = some u) => World.ownsRow.cells (show w.ownsRow base 69 2 _ es.length us from h1) (g := g) (by simp [Value.ownBlock]) i u hu
    have hadd : ∀ i : Nat, (⟨g, 0, none⟩ : Addr).add i = ⟨g, 0 + i, none⟩ := fun i => by
      unfold Addr.add; split
      · rename_i e0; subst e0; rfl
      · rfl
    refine ⟨u1, u2, ?_, ?_, (e3.mono (fun b _ hb => .inl hb.1)).1, (e3.mono (fun b _ hb => .inl hb.1)).2⟩
    · have := hc _ _ e1; rwa [hadd] at this
    · have := hc _ _ e2; rwa [hadd, ← Nat.add_assoc] at this
theorem OwnEqs.eqs {R : Nat → Prop} {w : World} {base n c : Nat} {A : Option Addr} {es : List EqV} (h : OwnEqs R w base (.slice A n c) es) (hm : es.length ≤ 4611686018427387903) : EqsIn (fun _ => True) w A es := by
  obtain ⟨A', c', e, _, _, hq⟩ := h.reads hm
  injection e with e1 e2 e3
  subst e1
  exact hq.mono (fun _ _ _ => trivial)
theorem OwnEqs.mono {R R' : Nat → Prop} {w : World} {base : Nat} {v : Value} {es : List EqV} (h : OwnEqs R w base v es) (hr : ∀ b, b < w.heap.size → R b → R' b) : OwnEqs R' w base v es := by
  obtain ⟨us, h1, h2⟩ := h
  exact ⟨us, h1, h2.mono (fun b hb h => ⟨hr b hb h.1, h.2⟩)⟩
/-- '[]Equation{e}'. -/
theorem OwnEqs.one {R : Nat → Prop} {w : World} {base : Nat} {u1 u2 : Value} {e : EqV} (hb : base ≤ w.heap.size) (h : PairIn R w u1 u2 e) : OwnEqs R (w.alloc (.cells #[u1, u2] 69)) base (.slice (some ⟨w.heap.size, 0, none⟩) 1 1) [e] := by
  have h' : PairIn (fun b => R b ∧ b < w.heap.size) w u1 u2 e := h.mono (fun b h1 h2 => ⟨h2, h1⟩)
  refine ⟨[u1, u2], ⟨rfl, .inr ⟨w.heap.size, 1, #[u1, u2], rfl, hb, heap_alloc_new w _, Nat.le_refl _, by unfold maxLen; omega, rfl, rfl⟩⟩, PairsIn.one ((h'.keeps ((Keeps.refl NoB w).alloc _) (fun _ _ h => h)).mono (fun b _ hb => ⟨hb.1, fun e => ?_⟩))⟩
  have : w.heap.size = b := by simpa [Value.ownBlock] using e
  have := hb.2
  omega
theorem OwnEqs.oneAt {R : Nat → Prop} {w : World} {base n : Nat} {u1 u2 : Value} {e : EqV} (hn : w.heap.size = n) (hb : base ≤ w.heap.size) (h : PairIn R w u1 u2 e) : OwnEqs R (w.alloc (.cells #[u1, u2] 69)) base (.slice (some ⟨n, 0, none⟩) 1 1) [e] := by
  subst hn; exact OwnEqs.one hb h
theorem CellsE.oneAt {R : Nat → Prop} {w : World} {n : Nat} {u1 u2 : Value} {e : EqV} {T : TypeId} (hn : w.heap.size = n) (h : PairIn R w u1 u2 e) : CellsE R (w.alloc (.cells #[u1, u2] T)) (some ⟨n, 0, none⟩) [e] := by
  subst hn; exact CellsE.one h
theorem CellsE.kept {R : Nat → Prop} {w w1 : World} {b off : Nat} {es : List EqV} (h : CellsE R w (some ⟨b, off, none⟩) es) (hk : Keeps NoB w w1) : CellsE R w1 (some ⟨b, off, none⟩) es := h.keeps hk (fun _ _ h => h) (fun h => h)
theorem wp_append_at {P : Program} {w : World} {o : Oper} {a : Act} {K : Act → World → Prop} {Q : Exit → Act → World → Prop} (s x : Operand) (t : TypeId)
    (ho : o.op = .call { callee := .builtin .append, args := #[s, x], argTypes := #[t, t] })
    (base : Nat) (e : TypeId) (i : TypeInfo) (z : Value) (size bytes : Nat) (ht : P.underlying t = some (.slice e)) (hi : P.info? e = some i) (hz : i.zero = some z)
    (hsize : i.size = size) (hby : i.bytes = bytes) (hzs : z.cells.size = size) (hsz : 0 < size)
    (v : Value) (n : Nat) (xs : List Value) (hs : a.eval s = v) (hown : w.ownsRow base e size v n xs)
    (ad : Addr) (m c : Nat) (news : List Value) (hx : a.eval x = .slice (some ad) m c) (hl : news.length = m * size) (hnews : ∀ j u, news[j]? = some u → w.cell? (ad.add j) = some u) (h1 : ∀ u ∈ news, u.oneCell' = true)
    (h63 : n + m ≤ maxLen) (hbytes : (n + m) * bytes ≤ 140737488355328) (hbase : base ≤ w.heap.size)
    (h : ∀ v' w', w'.ownsRow base e size v' (n + m) (xs ++ news) → w.grownBy w' v.ownBlock → (v'.ownBlock = v.ownBlock ∨ v'.ownBlock = some w.heap.size) → K (a.put o.dst v') w') : o.wp P a w K Q := by
  obtain ⟨v', w', hr, h2, h3, _, h5⟩ := run_append_own_at (P := P) w base t o.type e i z size bytes ht hi hz hsize hby hzs hsz v n xs hown ad m c news hl hnews h1 h63 hbytes hbase
  unfold Oper.wp execOp
  simp only [ho, resolve, invoke, builtin, Sem.run_bind, Sem.run_pure, Result.andThen_ok, List.map_toArray, List.map_cons, List.map_nil, hs, hx, hr]
  exact h v' w' h2 h3 h5
/-- A block that lies by stays, and is none of the list's. -/
theorem zstep {W w' : World} {n : Nat} {o : Obj} {v v' : Value} (h : W.heap[n]? = some o) (hgr : W.grownBy w' v.ownBlock) (hne : ¬ some n = v.ownBlock) (hat : v'.ownBlock = v.ownBlock ∨ v'.ownBlock = some W.heap.size) : w'.heap[n]? = some o ∧ ¬ some n = v'.ownBlock := by
  refine ⟨(Keeps.ofGrown hgr).heap h hne, fun e => ?_⟩
  rcases hat with h1 | h1
  · exact hne (by rw [← h1]; exact e)
  · have h2 := lt_of_heap h
    have e2 := e.trans h1
    injection e2 with e2
    omega
theorem zuse {G : Prop} {W w' : World} {n : Nat} {o : Obj} {v v' : Value} (hgr : W.grownBy w' v.ownBlock) (hat : v'.ownBlock = v.ownBlock ∨ v'.ownBlock = some W.heap.size) (h : W.heap[n]? = some o) (hne : ¬ some n = v.ownBlock) (k : Hid (w'.heap[n]? = some o ∧ ¬ some n = v'.ownBlock) → G) : G := k (hid (zstep h hgr hne hat))
theorem zkeep {G : Prop} {W w' : World} {n : Nat} {o : Obj} (hk : Keeps NoB W w') (h : W.heap[n]? = some o) (k : Hid (w'.heap[n]? = some o) → G) : G := k (hid (hk.heap h (fun h => h)))
theorem free2 {w : World} {b : Nat} {cells : Array Value} {T : TypeId} (h : w.heap[b]? = some (.cells cells T (0, 0))) (j : Nat) : w.frozen? ⟨b, j, none⟩ = false := by simp [World.frozen?, h]
theorem size_two (w : World) (o p : Obj) : ((w.alloc o).alloc p).heap.size = w.heap.size + 2 := by simp
theorem IntsAt.setBox {w : World} {k : IntKind} {A : Option Addr} {xs : List Int} {b : Nat} {A0 A1 : Option Addr} {n0 c0 n1 c1 : Nat} {T : TypeId} {fr : Nat × Nat} (h : IntsAt w k A xs) (hb : w.heap[b]? = some (.cells #[.slice A0 n0 c0, .slice A1 n1 c1] T fr)) (x y : Value) : IntsAt ((w.setCell ⟨b, 0, none⟩ x).setCell ⟨b, 1, none⟩ y) k A xs := by
  refine h.keeps (((Keeps.refl (fun q => q = b) w).setCell (p := ⟨b, 0, none⟩) (fun _ => rfl) x).setCell (p := ⟨b, 1, none⟩) (fun _ => rfl) y) (fun b' off e h0 e1 => ?_)
  subst e1
  obtain ⟨b2, off2, e2, hc⟩ := h.get h0
  rw [e] at e2
  injection e2 with e2; injection e2 with e3 e4 _
  subst e3 e4
  have := hc 0 h0
  simp only [World.cell?, hb] at this
  match off, this with
  | 0, this => simp at this
  | 1, this => simp at this
  | n + 2, this => simp at this
theorem heapAt {w : World} {n : Nat} (hn : w.heap.size = n) (o : Obj) : (w.alloc o).heap[n]? = some o := by subst hn; exact heap_alloc_new w o
theorem heap_kept {w w1 : World} {n : Nat} {o : Obj} (h : w.heap[n]? = some o) (hk : Keeps NoB w w1) : w1.heap[n]? = some o := hk.heap h (fun h => h)
/-- 'append(v, l...)', what the equations are made of below the call's own memory. -/
theorem wp_appEqs {w : World} {o : Oper} {a : Act} {K : Act → World → Prop} {Q : Exit → Act → World → Prop} (s x : Operand) (t : TypeId) (R : Nat → Prop)
    (ho : o.op = .call { callee := .builtin .append, args := #[s, x], argTypes := #[t, t] }) (base : Nat) (ht : Try.prog.underlying t = some (.slice 69)) (v : Value) (es : List EqV) (hs : a.eval s = v) (hown : OwnEqs R w base v es) (hR : ∀ b, R b → b < base) (A : Option Addr) (m c : Nat) (fs : List EqV)
    (hx : a.eval x = .slice A m c) (hm : fs.length = m) (hA : A = none → c = 0) (hat : CellsE R w A fs) (n : Nat) (hn : es.length = n) (hb : n + m ≤ 1073741824) (hbase : base ≤ w.heap.size)
    (h : ∀ A' c' w', OwnEqs R w' base (.slice A' (n + m) c') (es ++ fs) → w.grownBy w' v.ownBlock → ((∀ i, some i = v.ownBlock → base ≤ i) ∧ ((Value.slice A' (n + m) c').ownBlock = v.ownBlock ∨ (Value.slice A' (n + m) c').ownBlock = some w.heap.size)) → K (a.put o.dst (.slice A' (n + m) c')) w') : o.wp Try.prog a w K Q := by
  subst hm hn
  obtain ⟨i, i1, i2, i3, i4⟩ := info_parts info_eqn
  have hlo : ∀ i, some i = v.ownBlock → base ≤ i := fun i e => (hown.base_le i e.symm).1
  obtain ⟨us, hus, hp⟩ := hown
  cases A with
  | none =>
    have hn : fs = [] := by
      rcases hat with h0 | ⟨b, off, us, e, _⟩
      · exact h0
      · cases e
    subst hn
    rw [hA rfl] at hx
    obtain ⟨A', c', e', _⟩ : ∃ A' c', v = .slice A' es.length c' ∧ True := by
      rcases hus.2 with ⟨rfl, h0⟩ | ⟨g, cap, cur, rfl, _⟩
      · exact ⟨none, 0, by rw [h0], trivial⟩
      · exact ⟨_, cap, rfl, trivial⟩
    subst e'
    have hrun := run_append_owned_none (P := Try.prog) (w := w) base t o.type 69 i 2 ht i1 _ es.length _ hus
    unfold Oper.wp
    simp [execOp, ho, resolve, invoke, builtin, hs, hx, hrun, Result.andThen]
    exact h A' c' w (by rw [List.append_nil]; exact ⟨us, hus, hp⟩) ⟨rfl, rfl, rfl, Nat.le_refl _, fun _ _ _ => rfl⟩ ⟨hlo, .inl rfl⟩
  | some ad =>
    rcases Nat.eq_zero_or_pos fs.length with h0 | h0
    · have hn : fs = [] := List.length_eq_zero_iff.1 h0
      subst hn
      refine wp_append_at s x t ho base 69 i _ 2 48 ht i1 i2 i3 i4 rfl (by decide) v es.length us hs hus ad 0 c [] hx rfl (fun j u hj => by simp at hj) (fun u hu => by simp at hu) (by unfold maxLen; omega) (by simp at hb ⊢; omega) hbase ?_
      intro v' w' h1 h2 hat
      rw [List.append_nil, Nat.add_zero] at h1
      obtain ⟨A', c', e', _⟩ : ∃ A' c', v' = .slice A' es.length c' ∧ True := by
        rcases h1.2 with ⟨rfl, h0⟩ | ⟨g, cap, cur, rfl, _⟩
        · exact ⟨none, 0, by rw [h0], trivial⟩
        · exact ⟨_, cap, rfl, trivial⟩
      subst e'
      refine h A' c' w' ⟨us, by rw [List.append_nil]; exact h1, ?_⟩ h2 ⟨hlo, hat⟩
      rw [List.append_nil]
      exact (hp.keeps (Keeps.ofGrown h2) (fun b hb e => hb.2 e.symm)).mono (fun b _ hb => ⟨hb.1, fun e => by have := (World.ownsRow.lt h1 b e).1; have := hR b hb.1; omega⟩)
    · obtain ⟨b, off, vs, e, hv, hcell, hone⟩ : ∃ b off us, some ad = some ⟨b, off, none⟩ ∧ PairsIn R w us fs ∧ (∀ (j : Nat) (u : Value), us[j]? = some u → w.cell? ⟨b, off + j, none⟩ = some u) ∧ ∀ u ∈ us, u.oneCell' = true := by
        rcases hat with e | h
        · rw [e] at h0; simp at h0
        · exact h
      injection e with e
      subst e
      refine wp_append_at s x t ho base 69 i _ 2 48 ht i1 i2 i3 i4 rfl (by decide) v es.length us hs hus ⟨b, off, none⟩ fs.length c vs hx hv.1 (fun j u hj => ?_) hone (by unfold maxLen; omega) (by omega) hbase ?_
      · have := hcell j u hj
        unfold Addr.add; split
        · rename_i e0; subst e0; simpa using this
        · exact this
      · intro v' w' h1 h2 hat
        obtain ⟨A', c', e', _⟩ : ∃ A' c', v' = .slice A' (es.length + fs.length) c' ∧ True := by
          rcases h1.2 with ⟨rfl, h0⟩ | ⟨g, cap, cur, rfl, _⟩
          · exact ⟨none, 0, by rw [h0], trivial⟩
          · exact ⟨_, cap, rfl, trivial⟩
        subst e'
        refine h A' c' w' ⟨us ++ vs, by rw [List.length_append]; exact h1, ?_⟩ h2 ⟨hlo, hat⟩
        have e1 : PairsIn R w' us es := (hp.keeps (Keeps.ofGrown h2) (fun b hb e => hb.2 e.symm)).mono (fun b _ hb => hb.1)
        have e2 : PairsIn R w' vs fs := hv.keeps (Keeps.ofGrown h2) (fun b hb e => by have := (World.ownsRow.lt hus b e.symm).1; have := hR b hb; omega)
        exact (e1.append e2).mono (fun b _ hb => ⟨hb, fun e => by have := (World.ownsRow.lt h1 b e).1; have := hR b hb; omega⟩)
theorem wpList_appEqs {w : World} {ops : Array Oper} {rest : List Oper} {o : Oper} {a : Act} {Q : Exit → Act → World → Prop} (hgd : o.guard = none) (s x : Operand) (t : TypeId) (R : Nat → Prop)
    (ho : o.op = .call { callee := .builtin .append, args := #[s, x], argTypes := #[t, t] }) (base : Nat) (ht : Try.prog.underlying t = some (.slice 69)) (v : Value) (es : List EqV) (hs : a.eval s = v) (hown : OwnEqs R w base v es) (hR : ∀ b, R b → b < base) (A : Option Addr) (m c : Nat) (fs : List EqV)
    (hx : a.eval x = .slice A m c) (hm : fs.length = m) (hA : A = none → c = 0) (hat : CellsE R w A fs) (n : Nat) (hn : es.length = n) (hb : n + m ≤ 1073741824) (hbase : base ≤ w.heap.size)
    (h : ∀ A' c' w', OwnEqs R w' base (.slice A' (n + m) c') (es ++ fs) → w.grownBy w' v.ownBlock → ((∀ i, some i = v.ownBlock → base ≤ i) ∧ ((Value.slice A' (n + m) c').ownBlock = v.ownBlock ∨ (Value.slice A' (n + m) c').ownBlock = some w.heap.size)) → wpList Try.prog ops Q rest (a.put o.dst (.slice A' (n + m) c')) w') : wpList Try.prog ops Q (o :: rest) a w :=
  wpList_plain hgd fun _ hK => wp_appEqs s x t R ho base ht v es hs hown hR A m c fs hx hm hA hat n hn hb hbase fun A' c' w' h2 h3 h4 => hK _ _ (h A' c' w' h2 h3 h4)
theorem step_appEqs {w : World} {ops : Array Oper} {o : Oper} {a : Act} {K : Act → World → Prop} {Q : Exit → Act → World → Prop} {E : Prop} (hgd : o.guard = none) (s x : Operand) (t : TypeId) (R : Nat → Prop)
    (ho : o.op = .call { callee := .builtin .append, args := #[s, x], argTypes := #[t, t] }) (base : Nat) (ht : Try.prog.underlying t = some (.slice 69)) (v : Value) (es : List EqV) (hs : a.eval s = v) (hown : OwnEqs R w base v es) (hR : ∀ b, R b → b < base) (A : Option Addr) (m c : Nat) (fs : List EqV)
    (hx : a.eval x = .slice A m c) (hm : fs.length = m) (hA : A = none → c = 0) (hat : CellsE R w A fs) (n : Nat) (hn : es.length = n) (hb : n + m ≤ 1073741824) (hbase : base ≤ w.heap.size)
    (h : ∀ A' c' w', OwnEqs R w' base (.slice A' (n + m) c') (es ++ fs) → w.grownBy w' v.ownBlock → ((∀ i, some i = v.ownBlock → base ≤ i) ∧ ((Value.slice A' (n + m) c').ownBlock = v.ownBlock ∨ (Value.slice A' (n + m) c').ownBlock = some w.heap.size)) → K (a.put o.dst (.slice A' (n + m) c')) w') : if Region.wanted o (yielded ops a.tmps) = true then Oper.wp Try.prog o a w K Q else E := by
  have hw : Region.wanted o (yielded ops a.tmps) = true := by simp [Region.wanted, hgd]
  rw [if_pos hw]
  exact wp_appEqs s x t R ho base ht v es hs hown hR A m c fs hx hm hA hat n hn hb hbase h
theorem OwnInts.nums {w : World} {base : Nat} {e : TypeId} {v : Value} {xs : List Int} (h : OwnInts w base .i64 e v xs) : NumsIn (fun b => v.ownBlock = some b) w v xs := by
  rcases h.2 with ⟨rfl, h0⟩ | ⟨g, cap, cur, rfl, hb, hg, h1, h2, h3, h4⟩
  · have hl : xs = [] := List.length_eq_zero_iff.1 h0
    subst hl
    exact ⟨none, 0, rfl, Nat.le_refl _, fun _ => rfl, ⟨by simp, fun h => by simp at h⟩, fun b off e => by cases e⟩
  · obtain ⟨A, c, e', hc, hat⟩ := OwnInts.reads h
    injection e' with e1 e2 e3
    subst e1 e3
    exact ⟨_, cap, rfl, hc, (fun e => by cases e), hat, fun b off e h0 => by injection e with e; injection e with e _; subst e; rfl⟩
theorem ge_last (es : List EqV) (e : EqV) (k : Nat) (h : es.length = k) : ge (es ++ [e]) k = e := by
  rw [ge_append_right es [e] k (by omega), h, Nat.sub_self]; rfl
/-- 'append(v, e)', what e is made of the call's own, too. -/
theorem wpList_app1Eq {w : World} {ops : Array Oper} {rest : List Oper} {o : Oper} {a : Act} {Q : Exit → Act → World → Prop} (hgd : o.guard = none) (s x : Operand) (t : TypeId)
    (ho : o.op = .call { callee := .builtin .append, args := #[s, x], argTypes := #[t, t] }) (base : Nat) (ht : Try.prog.underlying t = some (.slice 69)) (v : Value) (es : List EqV) (hs : a.eval s = v) (hown : OwnEqs (fun _ => True) w base v es) (bx c : Nat) (u1 u2 : Value) (e : EqV)
    (hx : a.eval x = .slice (some ⟨bx, 0, none⟩) 1 c) (hc1 : w.cell? ⟨bx, 0, none⟩ = some u1) (hc2 : w.cell? ⟨bx, 1, none⟩ = some u2) (hp : PairIn (fun b => v.ownBlock ≠ some b) w u1 u2 e) (n : Nat) (hn : es.length = n) (hb : n + 1 ≤ 1073741824) (hbase : base ≤ w.heap.size)
    (h : ∀ A' c' w', OwnEqs (fun _ => True) w' base (.slice A' (n + 1) c') (es ++ [e]) → w.grownBy w' v.ownBlock → (∀ i, some i = v.ownBlock → base ≤ i) → wpList Try.prog ops Q rest (a.put o.dst (.slice A' (n + 1) c')) w') : wpList Try.prog ops Q (o :: rest) a w := by
  subst hn
  obtain ⟨i, i1, i2, i3, i4⟩ := info_parts info_eqn
  have hlo : ∀ i, some i = v.ownBlock → base ≤ i := fun i e => (hown.base_le i e.symm).1
  obtain ⟨us, hus, hpp⟩ := hown
  have hones := hp.ones
  refine wpList_plain hgd fun K hK => wp_append_at s x t ho base 69 i _ 2 48 ht i1 i2 i3 i4 rfl (by decide) v es.length us hs hus ⟨bx, 0, none⟩ 1 c [u1, u2] hx rfl (fun j u hj => ?_) (fun u hu => ?_) (by unfold maxLen; omega) (by omega) hbase ?_
  · match j, hj with
    | 0, hj => simp at hj; subst hj; exact hc1
    | 1, hj => simp at hj; subst hj; exact hc2
  · rcases List.mem_cons.1 hu with e1 | hu
    · rw [e1]; exact hones.1
    · rw [List.mem_singleton.1 hu]; exact hones.2
  · intro v' w' h1 h2 hat
    obtain ⟨A', c', e', _⟩ : ∃ A' c', v' = .slice A' (es.length + 1) c' ∧ True := by
      rcases h1.2 with ⟨rfl, h0⟩ | ⟨g, cap, cur, rfl, _⟩
      · omega
      · exact ⟨_, cap, rfl, trivial⟩
    subst e'
    refine hK _ _ (h A' c' w' ⟨us ++ [u1, u2], by rw [List.length_append]; exact h1, ?_⟩ h2 hlo)
    have key : ∀ (vs : List Value) (fs : List EqV), PairsIn (fun b => v.ownBlock ≠ some b) w vs fs → PairsIn (fun b => True ∧ (Value.slice A' (es.length + 1) c').ownBlock ≠ some b) w' vs fs := fun vs fs hv => by
      have h5 : PairsIn (fun b => v.ownBlock ≠ some b ∧ b < w.heap.size) w vs fs := hv.mono (fun b h1 h2 => ⟨h2, h1⟩)
      refine (h5.keeps (Keeps.ofGrown h2) (fun b hb e => hb.1 e.symm)).mono (fun b _ hb => ⟨trivial, fun e => ?_⟩)
      rcases hat with h6 | h6
      · exact hb.1 (by rw [← h6]; exact e)
      · have e7 := e.symm.trans h6
        injection e7 with e7
        have := hb.2
        omega
    exact (key us es (hpp.mono (fun b _ hb => hb.2))).append (key [u1, u2] [e] (PairsIn.one hp))
end Go.Proofs.Ytkjaacpcnjakcaa
/- Lists of lists of numbers: the row that holds them is the call's own. No condition. -/
set_option linter.unusedVariables false
namespace Go.Proofs.Ytkjaacpcnjakcaa
open Go.RowKit

theorem info_nums : (Try.prog.info? 27).map (fun i => (i.zero, i.size, i.bytes)) = some (some (.slice none 0 0), 1, 24) := by kernel_rfl
def OwnNRows (R : Nat → Prop) (w : World) (base : Nat) (v : Value) (ls : List (List Int)) : Prop :=
  ∃ us : List Value, us.length = ls.length ∧ w.ownsRow base 27 1 v ls.length us ∧ ∀ (j : Nat) (u : Value), us[j]? = some u → NumsIn (fun b => R b ∧ v.ownBlock ≠ some b) w u (gl ls j)
theorem OwnNRows.nil (R : Nat → Prop) (w : World) (base : Nat) : OwnNRows R w base (.slice none 0 0) [] := ⟨[], rfl, World.ownsRow_nil w base _ 1, fun j u hu => by simp at hu⟩
theorem OwnNRows.base_le {R : Nat → Prop} {w : World} {base : Nat} {v : Value} {ls : List (List Int)} (h : OwnNRows R w base v ls) (b : Nat) (hb : v.ownBlock = some b) : base ≤ b ∧ b < w.heap.size := by
  obtain ⟨us, hl, hown, hr⟩ := h
  exact World.ownsRow.lt hown b hb
theorem OwnNRows.keeps {R S : Nat → Prop} {w w1 : World} {base : Nat} {v : Value} {ls : List (List Int)} (h : OwnNRows R w base v ls) (hk : Keeps S w w1) (hR : ∀ b, R b → ¬ S b) (hv : ∀ b, v.ownBlock = some b → ¬ S b) : OwnNRows R w1 base v ls := by
  obtain ⟨us, hl, hown, hr⟩ := h
  exact ⟨us, hl, own_keeps hown hk hv, fun j u hu => (hr j u hu).keeps hk (fun b hb => hR b hb.1)⟩
theorem OwnNRows.kept {R : Nat → Prop} {w w1 : World} {base : Nat} {v : Value} {ls : List (List Int)} (h : OwnNRows R w base v ls) (hk : Keeps NoB w w1) : OwnNRows R w1 base v ls := h.keeps hk (fun _ _ h => h) (fun _ _ h => h)
theorem OwnNRows.mono {R R' : Nat → Prop} {w : World} {base : Nat} {v : Value} {ls : List (List Int)} (h : OwnNRows R w base v ls) (hr : ∀ b, b < w.heap.size → R b → R' b) : OwnNRows R' w base v ls := by
  obtain ⟨us, hl, hown, h3⟩ := h
  exact ⟨us, hl, hown, fun j u hu => (h3 j u hu).mono (fun b h1 h2 => ⟨hr b h1 h2.1, h2.2⟩)⟩
theorem NumsIn.rowAt {R : Nat → Prop} {w : World} {u : Value} {l : List Int} (h : NumsIn R w u l) : RowAt w u l := by
  obtain ⟨A, c, h1, h2, h3, h4⟩ := h
  exact ⟨A, c, h1, h2, h3, h4.1⟩
theorem OwnNRows.reads {R : Nat → Prop} {w : World} {base : Nat} {v : Value} {ls : List (List Int)} (h : OwnNRows R w base v ls) : ∃ A c, v = .slice A ls.length c ∧ ls.length ≤ c ∧ (A = none → c = 0) ∧ RowsAt w A ls := by
  obtain ⟨us, hl, hown, hr⟩ := h
  obtain ⟨A, c, rfl, h1, h2, h3⟩ := own_form hown
  refine ⟨A, c, rfl, h1, h2, h3, fun h0 => ?_⟩
  rcases hown.2 with ⟨e, h4⟩ | ⟨g, cap, cur, e, hb, hg, h5, h6, h7, h8⟩
  · omega
  · injection e with e1 e2 e3
    subst e1 e3
    refine ⟨g, 0, rfl, fun j hj => ?_⟩
    obtain ⟨u, hu⟩ : ∃ u, us[j]? = some u := ⟨us[j]'(by omega), List.getElem?_eq_getElem _⟩
    have hc := own_cell hown hu
    exact ⟨u, by rw [Nat.zero_add]; exact hc, (hr j u hu).rowAt⟩
theorem gl_append (ls ms : List (List Int)) (j : Nat) : gl (ls ++ ms) j = if j < ls.length then gl ls j else gl ms (j - ls.length) := by
  unfold gl
  rw [List.getD_eq_getElem?_getD, List.getD_eq_getElem?_getD, List.getD_eq_getElem?_getD]
  split
  · rename_i h; rw [List.getElem?_append_left h]
  · rename_i h; rw [List.getElem?_append_right (by omega)]
theorem NumsIn.one {R : Nat → Prop} {w : World} {u : Value} {l : List Int} (h : NumsIn R w u l) : u.oneCell' = true := by
  obtain ⟨A, c, rfl, _⟩ := h; rfl
/-- More of them. -/
theorem wp_appRows {w : World} {o : Oper} {a : Act} {K : Act → World → Prop} {Q : Exit → Act → World → Prop} (s x : Operand) (t : TypeId) (R : Nat → Prop)
    (ho : o.op = .call { callee := .builtin .append, args := #[s, x], argTypes := #[t, t] }) (base : Nat) (ht : Try.prog.underlying t = some (.slice 27)) (v : Value) (ls : List (List Int)) (hs : a.eval s = v) (h : OwnNRows R w base v ls)
    (A : Option Addr) (c : Nat) (ms : List (List Int)) (news : List Value) (hx : a.eval x = .slice A ms.length c) (hA : A = none → c = 0 ∧ ms = []) (hl : news.length = ms.length) (hc : ∀ ad, A = some ad → ∀ (j : Nat) (u : Value), news[j]? = some u → w.cell? (ad.add j) = some u)
    (hin : ∀ (j : Nat) (u : Value), news[j]? = some u → NumsIn (fun b => R b ∧ v.ownBlock ≠ some b) w u (gl ms j)) (hm : ls.length + ms.length ≤ 1000000000) (hbase : base ≤ w.heap.size)
    (hK : ∀ v' w', OwnNRows R w' base v' (ls ++ ms) → w.grownBy w' v.ownBlock → (v'.ownBlock = v.ownBlock ∨ v'.ownBlock = some w.heap.size) → K (a.put o.dst v') w') : o.wp Try.prog a w K Q := by
  obtain ⟨i, i1, i2, i3, i4⟩ := info_parts info_nums
  cases A with
  | none =>
    obtain ⟨rfl, rfl⟩ := hA rfl
    have hrun := run_append_owned_none (P := Try.prog) (w := w) base t o.type 27 i 1 ht i1 v ls.length _ h.choose_spec.2.1
    have := hK v w (by rw [List.append_nil]; exact h) ⟨rfl, rfl, rfl, Nat.le_refl _, fun _ _ _ => rfl⟩ (.inl rfl)
    unfold Oper.wp
    simp [execOp, ho, resolve, invoke, builtin, hs, hx, hrun, Result.andThen]
    exact this
  | some ad =>
    obtain ⟨us, hul, hown, hr⟩ := h
    refine wp_append_at s x t ho base 27 i (.slice none 0 0) 1 24 ht i1 i2 i3 i4 rfl (by decide) v ls.length us hs hown ad ms.length c news hx (by omega) (hc ad rfl) (fun u hu => ?_) (by unfold maxLen; omega) (by omega) hbase ?_
    · obtain ⟨j, hj, rfl⟩ := List.getElem_of_mem hu
      exact (hin j _ (List.getElem?_eq_getElem hj)).one
    · intro v' w' h1 h2 h4
      refine hK v' w' ⟨us ++ news, by simp [hul, hl], by rw [List.length_append]; exact h1, fun j u hu => ?_⟩ h2 h4
      have key : ∀ (y : Value) (l : List Int), NumsIn (fun b => R b ∧ v.ownBlock ≠ some b) w y l → NumsIn (fun b => R b ∧ v'.ownBlock ≠ some b) w' y l := fun y l hy => by
        have hlt : NumsIn (fun b => (R b ∧ v.ownBlock ≠ some b) ∧ b < w.heap.size) w y l := hy.mono (fun b h1 h2 => ⟨h2, h1⟩)
        refine (hlt.keeps (Keeps.ofGrown h2) (fun b hb e => hb.1.2 e.symm)).mono (fun b _ hb => ⟨hb.1.1, fun e => ?_⟩)
        rcases h4 with h5 | h5
        · exact hb.1.2 (h5.symm.trans e)
        · have := h5.symm.trans e
          injection this with this
          have := hb.2
          omega
      rw [gl_append]
      by_cases hj : j < us.length
      · rw [List.getElem?_append_left hj] at hu
        rw [if_pos (by omega)]
        exact key u _ (hr j u hu)
      · rw [List.getElem?_append_right (by omega)] at hu
        rw [if_neg (by omega), ← hul]
        exact key u _ (hin _ u hu)
theorem wpList_appRowsA {w : World} {ops : Array Oper} {rest : List Oper} {o : Oper} {a : Act} {Q : Exit → Act → World → Prop} (hgd : o.guard = none) (s x : Operand) (t : TypeId) (R : Nat → Prop)
    (ho : o.op = .call { callee := .builtin .append, args := #[s, x], argTypes := #[t, t] }) (base : Nat) (ht : Try.prog.underlying t = some (.slice 27)) (v : Value) (ls : List (List Int)) (hs : a.eval s = v) (h : OwnNRows R w base v ls)
    (A : Option Addr) (c : Nat) (ms : List (List Int)) (news : List Value) (hx : a.eval x = .slice A ms.length c) (hA : A = none → c = 0 ∧ ms = []) (hl : news.length = ms.length) (hc : ∀ ad, A = some ad → ∀ (j : Nat) (u : Value), news[j]? = some u → w.cell? (ad.add j) = some u)
    (hin : ∀ (j : Nat) (u : Value), news[j]? = some u → NumsIn (fun b => R b ∧ v.ownBlock ≠ some b) w u (gl ms j)) (hm : ls.length + ms.length ≤ 1000000000) (hbase : base ≤ w.heap.size)
    (hK : ∀ v' w', OwnNRows R w' base v' (ls ++ ms) → w.grownBy w' v.ownBlock → (v'.ownBlock = v.ownBlock ∨ v'.ownBlock = some w.heap.size) → wpList Try.prog ops Q rest (a.put o.dst v') w') : wpList Try.prog ops Q (o :: rest) a w :=
  wpList_plain hgd fun K hK' => wp_appRows s x t R ho base ht v ls hs h A c ms news hx hA hl hc hin hm hbase (fun v' w' h1 h2 h3 => hK' _ _ (hK v' w' h1 h2 h3))
theorem step_appRows {w : World} {ops : Array Oper} {o : Oper} {a : Act} {K : Act → World → Prop} {Q : Exit → Act → World → Prop} {E : Prop} (hgd : o.guard = none) (s x : Operand) (t : TypeId) (R : Nat → Prop)
    (ho : o.op = .call { callee := .builtin .append, args := #[s, x], argTypes := #[t, t] }) (base : Nat) (ht : Try.prog.underlying t = some (.slice 27)) (v : Value) (ls : List (List Int)) (hs : a.eval s = v) (h : OwnNRows R w base v ls)
    (A : Option Addr) (c : Nat) (ms : List (List Int)) (news : List Value) (hx : a.eval x = .slice A ms.length c) (hA : A = none → c = 0 ∧ ms = []) (hl : news.length = ms.length) (hc : ∀ ad, A = some ad → ∀ (j : Nat) (u : Value), news[j]? = some u → w.cell? (ad.add j) = some u)
    (hin : ∀ (j : Nat) (u : Value), news[j]? = some u → NumsIn (fun b => R b ∧ v.ownBlock ≠ some b) w u (gl ms j)) (hm : ls.length + ms.length ≤ 1000000000) (hbase : base ≤ w.heap.size)
    (hK : ∀ v' w', OwnNRows R w' base v' (ls ++ ms) → w.grownBy w' v.ownBlock → (v'.ownBlock = v.ownBlock ∨ v'.ownBlock = some w.heap.size) → K (a.put o.dst v') w') : if Region.wanted o (yielded ops a.tmps) = true then Oper.wp Try.prog o a w K Q else E := by
  have hw : Region.wanted o (yielded ops a.tmps) = true := by simp [Region.wanted, hgd]
  rw [if_pos hw]
  exact wp_appRows s x t R ho base ht v ls hs h A c ms news hx hA hl hc hin hm hbase hK
theorem wpList_appRows {w : World} {ops : Array Oper} {rest : List Oper} {o : Oper} {a : Act} {Q : Exit → Act → World → Prop} (hgd : o.guard = none) (s x : Operand) (t : TypeId) (R : Nat → Prop)
    (ho : o.op = .call { callee := .builtin .append, args := #[s, x], argTypes := #[t, t] }) (base : Nat) (ht : Try.prog.underlying t = some (.slice 27)) (v : Value) (ls : List (List Int)) (hs : a.eval s = v) (h : OwnNRows R w base v ls)
    (ad : Addr) (c : Nat) (ms : List (List Int)) (news : List Value) (hx : a.eval x = .slice (some ad) ms.length c) (hl : news.length = ms.length) (hc : ∀ (j : Nat) (u : Value), news[j]? = some u → w.cell? (ad.add j) = some u)
    (hin : ∀ (j : Nat) (u : Value), news[j]? = some u → NumsIn (fun b => R b ∧ v.ownBlock ≠ some b) w u (gl ms j)) (hm : ls.length + ms.length ≤ 1000000000) (hbase : base ≤ w.heap.size)
    (hK : ∀ v' w', OwnNRows R w' base v' (ls ++ ms) → w.grownBy w' v.ownBlock → (v'.ownBlock = v.ownBlock ∨ v'.ownBlock = some w.heap.size) → wpList Try.prog ops Q rest (a.put o.dst v') w') : wpList Try.prog ops Q (o :: rest) a w :=
  wpList_appRowsA hgd s x t R ho base ht v ls hs h (some ad) c ms news hx (fun e => by cases e) hl (fun ad' e => by cases e; exact hc) hin hm hbase hK
theorem add_plain (b off j : Nat) : Addr.add ⟨b, off, none⟩ j = ⟨b, off + j, none⟩ := by
  unfold Addr.add
  split
  · rename_i e0; subst e0; rfl
  · rfl
/-- Lists that are read, cell by cell. -/
theorem RowsAt.cells {w : World} {A : Option Addr} {ms : List (List Int)} (h : RowsAt w A ms) : ∃ news : List Value, news.length = ms.length ∧ (∀ ad, A = some ad → ∀ (j : Nat) (u : Value), news[j]? = some u → w.cell? (ad.add j) = some u) ∧ ∀ (j : Nat) (u : Value), news[j]? = some u → NumsIn (fun b => b < w.heap.size) w u (gl ms j) := by
  rcases Nat.eq_zero_or_pos ms.length with h0 | h0
  · exact ⟨[], by simp [h0], fun _ _ j u hu => by simp at hu, fun j u hu => by simp at hu⟩
  · obtain ⟨b, off, rfl, hc⟩ := h.2 h0
    have f := fun j => Classical.choose_spec (show ∃ u : Value, j < ms.length → w.cell? ⟨b, off + j, none⟩ = some u ∧ RowAt w u (gl ms j) from by
      by_cases hj : j < ms.length
      · obtain ⟨u, hu⟩ := hc j hj
        exact ⟨u, fun _ => hu⟩
      · exact ⟨undef, fun h => absurd h hj⟩)
    refine ⟨(List.range ms.length).map (fun j => Classical.choose (show ∃ u : Value, j < ms.length → w.cell? ⟨b, off + j, none⟩ = some u ∧ RowAt w u (gl ms j) from by
      by_cases hj : j < ms.length
      · obtain ⟨u, hu⟩ := hc j hj
        exact ⟨u, fun _ => hu⟩
      · exact ⟨undef, fun h => absurd h hj⟩)), by simp, fun ad e j u hu => ?_, fun j u hu => ?_⟩
    · cases e
      rw [List.getElem?_map] at hu
      obtain ⟨i, hi, rfl⟩ := Option.map_eq_some_iff.1 hu
      obtain ⟨hj, rfl⟩ := List.getElem?_eq_some_iff.1 hi
      rw [List.getElem_range]
      have := (f j (by simpa using hj)).1
      rw [show (Addr.add ⟨b, off, none⟩ j) = ⟨b, off + j, none⟩ from add_plain b off j]
      exact this
    · rw [List.getElem?_map] at hu
      obtain ⟨i, hi, rfl⟩ := Option.map_eq_some_iff.1 hu
      obtain ⟨hj, rfl⟩ := List.getElem?_eq_some_iff.1 hi
      rw [List.getElem_range]
      obtain ⟨A', c', h1, h2, h3, h4⟩ := (f j (by simpa using hj)).2
      exact ⟨A', c', h1, h2, h3, h4, h4.lt⟩
/-- One more, just laid. -/
theorem wpList_app1Row {w : World} {ops : Array Oper} {rest : List Oper} {o : Oper} {a : Act} {Q : Exit → Act → World → Prop} (hgd : o.guard = none) (s x : Operand) (t : TypeId) (R : Nat → Prop)
    (ho : o.op = .call { callee := .builtin .append, args := #[s, x], argTypes := #[t, t] }) (base : Nat) (ht : Try.prog.underlying t = some (.slice 27)) (v : Value) (ls : List (List Int)) (hs : a.eval s = v) (h : OwnNRows R w base v ls)
    (bx c : Nat) (u : Value) (l : List Int) (hx : a.eval x = .slice (some ⟨bx, 0, none⟩) 1 c) (hc : w.cell? ⟨bx, 0, none⟩ = some u) (hin : NumsIn (fun b => R b ∧ v.ownBlock ≠ some b) w u l) (hm : ls.length + 1 ≤ 1000000000) (hbase : base ≤ w.heap.size)
    (hK : ∀ v' w', OwnNRows R w' base v' (ls ++ [l]) → w.grownBy w' v.ownBlock → (v'.ownBlock = v.ownBlock ∨ v'.ownBlock = some w.heap.size) → wpList Try.prog ops Q rest (a.put o.dst v') w') : wpList Try.prog ops Q (o :: rest) a w := by
  refine wpList_appRows hgd s x t R ho base ht v ls hs h ⟨bx, 0, none⟩ c [l] [u] hx rfl (fun j y hy => ?_) (fun j y hy => ?_) hm hbase hK
  · cases j with
    | zero => simp at hy; subst hy; exact hc
    | succ j => simp at hy
  · cases j with
    | zero => simp at hy; subst hy; exact hin
    | succ j => simp at hy
end Go.Proofs.Ytkjaacpcnjakcaa
/- closure.Agrees' memory: the equations in steps, in a map by their heads. No condition. -/
set_option linter.unusedVariables false
namespace Go.Proofs.Ytkjaacpcnjakcaa
open Go.RowKit

def Any : Nat → Prop := fun _ => True
theorem IntsIn.setBox {w : World} {A : Option Addr} {xs : List Int} {b : Nat} {A0 A1 : Option Addr} {n0 c0 n1 c1 : Nat} {T : TypeId} {fr : Nat × Nat} (h : IntsIn Any w A xs) (hb : w.heap[b]? = some (.cells #[.slice A0 n0 c0, .slice A1 n1 c1] T fr)) (x y : Value) : IntsIn Any ((w.setCell ⟨b, 0, none⟩ x).setCell ⟨b, 1, none⟩ y) A xs :=
  ⟨h.1.setBox hb x y, h.2⟩
theorem PairIn.setBox {w : World} {u1 u2 : Value} {e : EqV} {b : Nat} {A0 A1 : Option Addr} {n0 c0 n1 c1 : Nat} {T : TypeId} {fr : Nat × Nat} (h : PairIn Any w u1 u2 e) (hb : w.heap[b]? = some (.cells #[.slice A0 n0 c0, .slice A1 n1 c1] T fr)) (x y : Value) : PairIn Any ((w.setCell ⟨b, 0, none⟩ x).setCell ⟨b, 1, none⟩ y) u1 u2 e := by
  obtain ⟨⟨A, c, h1, h2, h3, h4⟩, ⟨B, d, g1, g2, g3, g4⟩⟩ := h
  exact ⟨⟨A, c, h1, h2, h3, h4.setBox hb x y⟩, ⟨B, d, g1, g2, g3, g4.1.setBox hb x y, g4.2⟩⟩
theorem PairIn.any {R : Nat → Prop} {w : World} {u1 u2 : Value} {e : EqV} (h : PairIn R w u1 u2 e) : PairIn Any w u1 u2 e := h.mono (fun _ _ _ => trivial)
theorem PairIn.form {R : Nat → Prop} {w : World} {u1 u2 : Value} {e : EqV} (h : PairIn R w u1 u2 e) : ∃ A c B d, u1 = .slice A e.of.length c ∧ u2 = .slice B e.val.length d ∧ IntsAt w .i64 A e.of ∧ BytesIn R w B e.val ∧ (B = none → d = 0) := by
  obtain ⟨⟨A, c, h1, h2, h3, h4⟩, ⟨B, d, g1, g2, g3, g4⟩⟩ := h
  exact ⟨A, c, B, d, h1, g1, h4.1, g4, g3⟩
/-- The equations in steps, by their heads. -/
def TabAt (w : World) (b n : Nat) (tab : List EqV) : Prop := ∃ g, MapAt w b n g ∧ (∀ x, (g x).isSome = true ↔ ∃ t ∈ tab, gi t.of 0 = x) ∧ ∀ t ∈ tab, ∃ v1 v2, g (gi t.of 0) = some (.agg #[v1, v2]) ∧ PairIn Any w v1 v2 t
theorem TabAt.kept {w w1 : World} {b n : Nat} {tab : List EqV} (h : TabAt w b n tab) (hk : Keeps NoB w w1) : TabAt w1 b n tab := by
  obtain ⟨g, h1, h2, h3⟩ := h
  refine ⟨g, h1.keeps hk (fun h => h), h2, fun t ht => ?_⟩
  obtain ⟨v1, v2, h4, h5⟩ := h3 t ht
  exact ⟨v1, v2, h4, h5.kept hk⟩
theorem TabAt.setBox {w : World} {b n : Nat} {tab : List EqV} (h : TabAt w b n tab) {p : Nat} {A0 A1 : Option Addr} {n0 c0 n1 c1 : Nat} {T : TypeId} {fr : Nat × Nat} (hb : w.heap[p]? = some (.cells #[.slice A0 n0 c0, .slice A1 n1 c1] T fr)) (x y : Value) : TabAt ((w.setCell ⟨p, 0, none⟩ x).setCell ⟨p, 1, none⟩ y) b n tab := by
  obtain ⟨g, h1, h2, h3⟩ := h
  have hne := h1.ne_cells hb
  have hk : Keeps (· = p) w ((w.setCell ⟨p, 0, none⟩ x).setCell ⟨p, 1, none⟩ y) := ((Keeps.refl (· = p) w).setCell (p := ⟨p, 0, none⟩) (fun _ => rfl) x).setCell (p := ⟨p, 1, none⟩) (fun _ => rfl) y
  refine ⟨g, h1.keeps hk (fun e => hne e.symm), h2, fun t ht => ?_⟩
  obtain ⟨v1, v2, h4, h5⟩ := h3 t ht
  exact ⟨v1, v2, h4, h5.setBox hb x y⟩
theorem TabAt.made (w : World) : TabAt (w.alloc (.map #[] 0)) w.heap.size 0 [] := ⟨_, MapAt.made w, fun x => by simp, fun t ht => by simp at ht⟩
/-- What lies in blocks of cells stays while a map is written. -/
theorem PairIn.map_put {w w1 : World} {b n : Nat} {f : Int → Option Value} {u1 u2 : Value} {e : EqV} (h : PairIn Any w u1 u2 e) (hm : MapAt w b n f) (hg : w.grownBy w1 (some b)) : PairIn Any w1 u1 u2 e := by
  have key : ∀ {k : IntKind} {A : Option Addr} {xs : List Int}, IntsAt w k A xs → IntsAt w1 k A xs := by
    intro k A xs hx
    refine hx.keeps (Keeps.ofGrown hg) (fun c off eA h0 eb => ?_)
    obtain ⟨c', off', e', hc⟩ := hx.2 h0
    obtain ⟨rfl, rfl⟩ : c' = c ∧ off' = off := by rw [e'] at eA; simpa using eA
    injection eb with eb
    subst eb
    obtain ⟨D, ⟨es, clock, hb, _⟩, _⟩ := hm
    have := hc 0 h0
    unfold World.cell? at this
    rw [hb] at this
    cases this
  obtain ⟨⟨A, c, h1, h2, h3, h4⟩, ⟨B, d, g1, g2, g3, g4⟩⟩ := h
  exact ⟨⟨A, c, h1, h2, h3, key h4.1, h4.2⟩, ⟨B, d, g1, g2, g3, key g4.1, g4.2⟩⟩
theorem TabAt.has {w : World} {b n : Nat} {tab : List EqV} (h : TabAt w b n tab) : ∃ g, MapAt w b n g ∧ (∀ x, (g x).isSome = true ↔ ∃ t ∈ tab, gi t.of 0 = x) ∧ ∀ t ∈ tab, ∃ v1 v2, g (gi t.of 0) = some (.agg #[v1, v2]) ∧ PairIn Any w v1 v2 t := h
theorem TabAt.put {w w1 : World} {b n : Nat} {tab : List EqV} {g : Int → Option Value} {e : EqV} {v1 v2 : Value} (h1 : MapAt w b n g) (h2 : ∀ x, (g x).isSome = true ↔ ∃ t ∈ tab, gi t.of 0 = x) (h3 : ∀ t ∈ tab, ∃ v1 v2, g (gi t.of 0) = some (.agg #[v1, v2]) ∧ PairIn Any w v1 v2 t)
    (hp : PairIn Any w v1 v2 e) (hn : ∀ t ∈ tab, gi t.of 0 ≠ gi e.of 0) (hm : MapAt w1 b (n + 1) (fun y => if y = gi e.of 0 then some (.agg #[v1, v2]) else g y)) (hg : w.grownBy w1 (some b)) : TabAt w1 b (n + 1) (tab ++ [e]) := by
  refine ⟨_, hm, fun x => ?_, fun t ht => ?_⟩
  · by_cases ex : x = gi e.of 0
    · rw [if_pos ex]
      constructor
      · intro _; exact ⟨e, by simp, ex.symm⟩
      · intro _; rfl
    · rw [if_neg ex, h2 x]
      constructor
      · rintro ⟨t, ht, e2⟩; exact ⟨t, List.mem_append_left _ ht, e2⟩
      · rintro ⟨t, ht, e2⟩
        rcases List.mem_append.1 ht with ht | ht
        · exact ⟨t, ht, e2⟩
        · rw [List.mem_singleton.1 ht] at e2; exact absurd e2.symm ex
  · rcases List.mem_append.1 ht with ht | ht
    · obtain ⟨u1, u2, h4, h5⟩ := h3 t ht
      exact ⟨u1, u2, by rw [if_neg (hn t ht)]; exact h4, h5.map_put h1 hg⟩
    · rw [List.mem_singleton.1 ht]
      exact ⟨v1, v2, by rw [if_pos rfl], hp.map_put h1 hg⟩
/-- Two equations, laid one behind the other. -/
theorem eqs_pair {w : World} {u1 u2 p1 p2 : Value} {e p : EqV} {T : TypeId} (h : PairIn Any w u1 u2 e) (k : PairIn Any w p1 p2 p) : EqsIn Any (w.alloc (.cells #[u1, u2, p1, p2] T)) (some ⟨w.heap.size, 0, none⟩) [e, p] := by
  have hk := (Keeps.refl NoB w).alloc (.cells #[u1, u2, p1, p2] T)
  refine ⟨by simp, fun _ => ⟨w.heap.size, 0, rfl, trivial, fun j hj => ?_⟩⟩
  have hh := heap_alloc_new w (.cells #[u1, u2, p1, p2] T)
  match j, hj with
  | 0, _ => exact ⟨u1, u2, by unfold World.cell?; rw [hh]; rfl, by unfold World.cell?; rw [hh]; rfl, (h.kept hk).1, (h.kept hk).2⟩
  | 1, _ => exact ⟨p1, p2, by unfold World.cell?; rw [hh]; rfl, by unfold World.cell?; rw [hh]; rfl, (k.kept hk).1, (k.kept hk).2⟩
end Go.Proofs.Ytkjaacpcnjakcaa
/- The list of what is to be done: what stands when blocks become known one by one: the plain law. No condition. -/
set_option linter.unusedVariables false
namespace Go.Proofs.Ytkjaacpcnjakcaa

/-- Of the first equations those that fit and have a block. -/
def posN (all : Int) (eqs : List (List Int)) (k : Nat) (x : Int) : List Nat := (List.range k).filter fun j => fitsN all (gl eqs j) && decide (x ∈ gl eqs j)
theorem posN_succ (all : Int) (eqs : List (List Int)) (k : Nat) (x : Int) : posN all eqs (k + 1) x = posN all eqs k x ++ (if fitsN all (gl eqs k) = true ∧ x ∈ gl eqs k then [k] else []) := by
  unfold posN
  rw [List.range_succ, List.filter_append]
  congr 1
  by_cases h1 : fitsN all (gl eqs k) = true <;> by_cases h2 : x ∈ gl eqs k <;> simp [h1, h2]
theorem mem_posN (all : Int) (eqs : List (List Int)) (k : Nat) (x : Int) (j : Nat) : j ∈ posN all eqs k x ↔ j < k ∧ fitsN all (gl eqs j) = true ∧ x ∈ gl eqs j := by
  simp [posN]
theorem posN_nodup (all : Int) (eqs : List (List Int)) (k : Nat) (x : Int) : (posN all eqs k x).Nodup := List.nodup_range.filter _
theorem posN_length (all : Int) (eqs : List (List Int)) (k : Nat) (x : Int) : (posN all eqs k x).length ≤ k := Nat.le_trans (List.length_filter_le _ _) (by simp)
theorem gl_mem {eqs : List (List Int)} {j : Nat} (h : j < eqs.length) : gl eqs j ∈ eqs := by rw [gl_eq eqs j h]; exact List.getElem_mem h
/-- What one more known block makes of what isn't known. -/
theorem unkN_more (known of : List Int) (n : Int) : unkN (known ++ [n]) of = (unkN known of).filter fun i => !decide (i = n) := by
  unfold unkN
  rw [List.filter_filter]
  apply List.filter_congr
  intro x _
  by_cases h1 : x ∈ known <;> by_cases h2 : x = n <;> simp [h1, h2]
theorem unkN_not (known of : List Int) (n : Int) (h : n ∉ of) : unkN (known ++ [n]) of = unkN known of := by
  rw [unkN_more]
  refine List.filter_eq_self.2 (fun x hx => ?_)
  have := ((mem_unkN known of x).1 hx).1
  have : x ≠ n := fun e => h (e ▸ this)
  simp [this]
theorem filter_ne_length (l : List Int) (n : Int) (hd : l.Nodup) (h : n ∈ l) : (l.filter fun i => !decide (i = n)).length + 1 = l.length := by
  induction l with
  | nil => simp at h
  | cons a l ih =>
    rw [List.nodup_cons] at hd
    by_cases e : a = n
    · subst e
      have : (l.filter fun i => !decide (i = a)) = l := List.filter_eq_self.2 (fun x hx => by
        have : x ≠ a := fun e => hd.1 (e ▸ hx)
        simp [this])
      simp [this]
    · have := ih hd.2 (by rcases List.mem_cons.1 h with h | h; exact absurd h.symm e; exact h)
      simp [e, this]
theorem unkN_one (known of : List Int) (n : Int) (hd : of.Nodup) (h : n ∈ of) (hk : n ∉ known) : (unkN (known ++ [n]) of).length + 1 = (unkN known of).length := by
  rw [unkN_more]
  exact filter_ne_length _ _ (hd.filter _) ((mem_unkN known of n).2 ⟨h, hk⟩)

structure Work (all : Int) (eqs : List (List Int)) (known todo left : List Int) : Prop where
  llen : left.length = eqs.length
  knows : ∀ y ∈ known, Follows all eqs y
  todos : ∀ y ∈ todo, Follows all eqs y
  lefts : ∀ j, j < eqs.length → gi left j = if fitsN all (gl eqs j) = true then ((unkN known (gl eqs j)).length : Int) else 0
  ones : ∀ j, j < eqs.length → fitsN all (gl eqs j) = true → ∀ x, unkN known (gl eqs j) = [x] → x ∈ todo
structure WorkIn (all : Int) (eqs : List (List Int)) (known : List Int) (n : Int) (i : Nat) (todo left : List Int) : Prop where
  llen : left.length = eqs.length
  knows : ∀ y ∈ known ++ [n], Follows all eqs y
  todos : ∀ y ∈ todo, Follows all eqs y
  lefts : ∀ j, j < eqs.length → gi left j = if fitsN all (gl eqs j) = true then ((unkN (if j ∈ (posN all eqs eqs.length n).take i then known ++ [n] else known) (gl eqs j)).length : Int) else 0
  ones : ∀ j, j < eqs.length → fitsN all (gl eqs j) = true → (n ∈ gl eqs j → j ∈ (posN all eqs eqs.length n).take i) → ∀ x, unkN (known ++ [n]) (gl eqs j) = [x] → x ∈ todo
variable {all : Int} {eqs : List (List Int)} {known todo left : List Int} {n : Int} {i : Nat}
theorem Work.skip (h : Work all eqs known (n :: todo) left) (hn : n ∈ known) : Work all eqs known todo left := by
  refine ⟨h.llen, h.knows, fun y hy => h.todos y (List.mem_cons_of_mem _ hy), h.lefts, fun j hj hf x hx => ?_⟩
  rcases List.mem_cons.1 (h.ones j hj hf x hx) with e | hm
  · have := ((mem_unkN known (gl eqs j) x).1 (by rw [hx]; exact List.mem_singleton.2 rfl)).2
    exact absurd (e ▸ hn) this
  · exact hm
theorem Work.start (h : Work all eqs known (n :: todo) left) (hn : n ∉ known) : WorkIn all eqs known n 0 todo left := by
  refine ⟨h.llen, fun y hy => ?_, fun y hy => h.todos y (List.mem_cons_of_mem _ hy), fun j hj => ?_, fun j hj hf hno x hx => ?_⟩
  · rcases List.mem_append.1 hy with hy | hy
    · exact h.knows y hy
    · rw [List.mem_singleton.1 hy]; exact h.todos n (by simp)
  · rw [h.lefts j hj]; simp
  · have hnn : n ∉ gl eqs j := fun hm => by simpa using hno hm
    rw [unkN_not _ _ _ hnn] at hx
    rcases List.mem_cons.1 (h.ones j hj hf x hx) with e | hm
    · have := ((mem_unkN known (gl eqs j) x).1 (by rw [hx]; exact List.mem_singleton.2 rfl)).1
      exact absurd (e ▸ this) hnn
    · exact hm
theorem WorkIn.done (h : WorkIn all eqs known n (posN all eqs eqs.length n).length todo left) : Work all eqs (known ++ [n]) todo left := by
  have ht : (posN all eqs eqs.length n).take (posN all eqs eqs.length n).length = posN all eqs eqs.length n := List.take_length
  refine ⟨h.llen, h.knows, h.todos, fun j hj => ?_, fun j hj hf x hx => h.ones j hj hf (fun hm => by rw [ht, mem_posN]; exact ⟨hj, hf, hm⟩) x hx⟩
  rw [h.lefts j hj, ht]
  by_cases hf : fitsN all (gl eqs j) = true
  · rw [if_pos hf, if_pos hf]
    by_cases hm : n ∈ gl eqs j
    · rw [if_pos ((mem_posN _ _ _ _ _).2 ⟨hj, hf, hm⟩)]
    · rw [if_neg (fun h => hm ((mem_posN _ _ _ _ _).1 h).2.2), unkN_not _ _ _ hm]
  · rw [if_neg hf, if_neg hf]
theorem Work.end_ (h : Work all eqs known [] left) : ∀ of ∈ eqs, fitsN all of = true → (unkN known of).length ≠ 1 := fun of hof hfit hl => by
  obtain ⟨j, hj, rfl⟩ := List.getElem_of_mem hof
  rw [← gl_eq eqs j hj] at hfit hl
  obtain ⟨x, hx⟩ := List.length_eq_one_iff.1 hl
  simpa using h.ones j hj hfit x hx
theorem gi_set (l : List Int) (k j : Nat) (v : Int) (hk : k < l.length) : gi (l.set k v) j = if j = k then v else gi l j := by
  unfold gi
  rw [List.getD_eq_getElem?_getD, List.getD_eq_getElem?_getD, List.getElem?_set]
  by_cases e : k = j
  · subst e; simp [hk]
  · rw [if_neg e, if_neg (fun h => e h.symm)]
/-- What is met at a step: the equation fits, has the block, and isn't among those before. -/
theorem WorkIn.now (h : WorkIn all eqs known n i todo left) (hn : n ∉ known) (hi : i < (posN all eqs eqs.length n).length) : (posN all eqs eqs.length n)[i] < eqs.length ∧ fitsN all (gl eqs (posN all eqs eqs.length n)[i]) = true ∧ gi left (posN all eqs eqs.length n)[i] - 1 = ((unkN (known ++ [n]) (gl eqs (posN all eqs eqs.length n)[i])).length : Int) := by
  obtain ⟨h1, h2, h3⟩ := (mem_posN _ _ _ _ _).1 (List.getElem_mem hi)
  refine ⟨h1, h2, ?_⟩
  have hnot : (posN all eqs eqs.length n)[i] ∉ (posN all eqs eqs.length n).take i := fun hm => by
    obtain ⟨j, hj, e⟩ := List.getElem_of_mem hm
    rw [List.getElem_take] at e
    have hj' : j < i := by rw [List.length_take] at hj; omega
    have := (List.getElem_inj (posN_nodup all eqs eqs.length n)).1 e
    omega
  rw [h.lefts _ h1, if_pos h2, if_neg hnot, ← unkN_one known _ n (nodup_of_rising (fitsN_rising h2)) h3 hn]
  omega
theorem WorkIn.step (h : WorkIn all eqs known n i todo left) (hn : n ∉ known) (hi : i < (posN all eqs eqs.length n).length) {k : Nat} (hk : (posN all eqs eqs.length n)[i] = k) :
    WorkIn all eqs known n (i + 1) (if gi left k - 1 = 1 then todo ++ unkN (known ++ [n]) (gl eqs k) else todo) (left.set k (gi left k - 1)) := by
  obtain ⟨h1, h2, h3⟩ := h.now hn hi
  rw [hk] at h1 h2 h3
  have ht : (posN all eqs eqs.length n).take (i + 1) = (posN all eqs eqs.length n).take i ++ [k] := by rw [List.take_succ_eq_append_getElem hi, hk]
  refine ⟨by rw [List.length_set]; exact h.llen, h.knows, fun y hy => ?_, fun j hj => ?_, fun j hj hf hno x hx => ?_⟩
  · split at hy
    · rename_i e
      rcases List.mem_append.1 hy with hy | hy
      · exact h.todos y hy
      · obtain ⟨z, hz⟩ := List.length_eq_one_iff.1 (show (unkN (known ++ [n]) (gl eqs k)).length = 1 by omega)
        rw [hz] at hy
        rw [List.mem_singleton.1 hy]
        exact follows_one h.knows (gl_mem h1) h2 hz
    · exact h.todos y hy
  · rw [gi_set _ _ _ _ (by rw [h.llen]; exact h1), ht]
    by_cases e : j = k
    · subst e
      rw [if_pos rfl, if_pos h2, if_pos (by simp), h3]
    · rw [if_neg e, h.lefts j hj]
      simp [e]
  · rw [ht] at hno
    by_cases e : j = k
    · subst e
      rw [hx] at h3
      rw [if_pos (by rw [h3]; rfl), hx]; simp
    · have := h.ones j hj hf (fun hm => by simpa [e] using hno hm) x hx
      split
      · exact List.mem_append_left _ this
      · exact this
/-- What is still to be done: it doesn't grow within a step. -/
def workN (todo left : List Int) : Nat := todo.length + left.countP fun v => decide (2 ≤ v)
theorem countP_set (l : List Int) (p : Int → Bool) (k : Nat) (v : Int) (hk : k < l.length) : (l.set k v).countP p + (if p (gi l k) = true then 1 else 0) = l.countP p + (if p v = true then 1 else 0) := by
  induction l generalizing k with
  | nil => simp at hk
  | cons a l ih =>
    cases k with
    | zero =>
      have e : gi (a :: l) 0 = a := rfl
      rw [e, List.set_cons_zero, List.countP_cons, List.countP_cons]
      omega
    | succ k =>
      have e : gi (a :: l) (k + 1) = gi l k := by simp [gi]
      rw [e, List.set_cons_succ, List.countP_cons, List.countP_cons]
      have := ih k (by simpa using hk)
      omega
theorem workN_step (h : WorkIn all eqs known n i todo left) (hn : n ∉ known) (hi : i < (posN all eqs eqs.length n).length) {k : Nat} (hk : (posN all eqs eqs.length n)[i] = k) :
    workN (if gi left k - 1 = 1 then todo ++ unkN (known ++ [n]) (gl eqs k) else todo) (left.set k (gi left k - 1)) ≤ workN todo left := by
  obtain ⟨h1, h2, h3⟩ := h.now hn hi
  rw [hk] at h1 h2 h3
  have hc := countP_set left (fun v => decide (2 ≤ v)) k (gi left k - 1) (by rw [h.llen]; exact h1)
  unfold workN
  simp only [decide_eq_true_eq] at hc
  by_cases e : gi left k - 1 = 1
  · rw [if_pos e, List.length_append, show (unkN (known ++ [n]) (gl eqs k)).length = 1 by omega]
    rw [if_pos (by omega), if_neg (by omega)] at hc
    omega
  · rw [if_neg e]
    by_cases e2 : 2 ≤ gi left k - 1
    · rw [if_pos (by omega), if_pos e2] at hc; omega
    · rw [if_neg e2] at hc; omega
/-- What stands behind the first equations. -/
structure Begun (all : Int) (eqs : List (List Int)) (k : Nat) (todo left : List Int) : Prop where
  llen : left.length = eqs.length
  todos : ∀ y ∈ todo, Follows all eqs y
  small : todo.length ≤ k
  lefts : ∀ j, j < eqs.length → gi left j = if j < k ∧ fitsN all (gl eqs j) = true then ((gl eqs j).length : Int) else 0
  ones : ∀ j, j < k → fitsN all (gl eqs j) = true → ∀ x, gl eqs j = [x] → x ∈ todo
theorem unkN_nil (of : List Int) : unkN [] of = of := List.filter_eq_self.2 (fun x _ => by simp)
theorem Begun.none (all : Int) (eqs : List (List Int)) : Begun all eqs 0 [] (List.replicate eqs.length 0) :=
  ⟨by simp, by simp, by simp, fun j hj => by simp [gi, hj], fun j hj => absurd hj (Nat.not_lt_zero _)⟩
theorem Begun.skip {k : Nat} (h : Begun all eqs k todo left) (hf : fitsN all (gl eqs k) = false) : Begun all eqs (k + 1) todo left := by
  refine ⟨h.llen, h.todos, Nat.le_succ_of_le h.small, fun j hj => ?_, fun j hj hfj => ?_⟩
  · rw [h.lefts j hj]
    by_cases e : j = k
    · subst e; simp [hf]
    · simp only [show (j < k + 1) ↔ (j < k) from ⟨fun _ => by omega, fun _ => by omega⟩]
  · by_cases e : j = k
    · subst e; rw [hf] at hfj; cases hfj
    · exact h.ones j (by omega) hfj
theorem Begun.step {k : Nat} (h : Begun all eqs k todo left) (hk : k < eqs.length) (hf : fitsN all (gl eqs k) = true) : Begun all eqs (k + 1) (if (gl eqs k).length = 1 then todo ++ [gi (gl eqs k) 0] else todo) (left.set k (gl eqs k).length) := by
  refine ⟨by rw [List.length_set]; exact h.llen, fun y hy => ?_, ?_, fun j hj => ?_, fun j hj hfj x hx => ?_⟩
  · split at hy
    · rename_i e
      obtain ⟨z, hz⟩ := List.length_eq_one_iff.1 e
      rcases List.mem_append.1 hy with hy | hy
      · exact h.todos y hy
      · rw [List.mem_singleton.1 hy, hz]
        exact follows_one (known := []) (by simp) (gl_mem hk) hf (by rw [unkN_nil, hz]; rfl)
    · exact h.todos y hy
  · have := h.small
    split
    · rw [List.length_append]; simp; omega
    · omega
  · rw [gi_set _ _ _ _ (by rw [h.llen]; exact hk)]
    by_cases e : j = k
    · subst e; rw [if_pos rfl, if_pos ⟨by omega, hf⟩]
    · rw [if_neg e, h.lefts j hj]; simp only [show (j < k + 1) ↔ (j < k) from ⟨fun _ => by omega, fun _ => by omega⟩]
  · by_cases e : j = k
    · subst e; rw [hx]; simp [gi]
    · have := h.ones j (by omega) hfj x hx
      split
      · exact List.mem_append_left _ this
      · exact this
theorem Begun.work (h : Begun all eqs eqs.length todo left) : Work all eqs [] todo left := by
  refine ⟨h.llen, by simp, h.todos, fun j hj => ?_, fun j hj hf x hx => h.ones j hj hf x (by rw [unkN_nil] at hx; exact hx)⟩
  rw [h.lefts j hj, unkN_nil]
  simp [hj]
theorem Begun.workN_le {k : Nat} (h : Begun all eqs k todo left) : workN todo left ≤ k + eqs.length := by
  unfold workN
  have h1 := h.small
  have h2 : left.countP (fun v => decide (2 ≤ v)) ≤ left.length := List.countP_le_length
  have h3 := h.llen
  omega
theorem nodup_le {xs ys : List Int} (hd : xs.Nodup) (h : ∀ x ∈ xs, x ∈ ys) : xs.length ≤ ys.length := by
  induction xs generalizing ys with
  | nil => simp
  | cons x xs ih =>
    rw [List.nodup_cons] at hd
    have hx : x ∈ ys := h x (by simp)
    have := ih (ys := ys.erase x) hd.2 (fun y hy => (List.mem_erase_of_ne (fun (e : y = x) => hd.1 (by rw [← e]; exact hy))).2 (h y (by simp [hy])))
    rw [List.length_erase_of_mem hx] at this
    have := List.length_pos_of_mem hx
    simp; omega
theorem Work.known_le (h : Work all eqs known todo left) (hd : known.Nodup) : known.length ≤ eqs.flatten.length :=
  nodup_le hd (fun x hx => by
    obtain ⟨of, hof, _, hm⟩ := (h.knows x hx).mem
    exact List.mem_flatten.2 ⟨of, hof, hm⟩)
/-- At the end what was collected of the known ones, sorted, is what follows. -/
theorem Work.reached (h : Work all eqs known [] left) {ss rs : List Int} (hp : rs.Perm ss) (hs : rs.Pairwise (· ≤ ·)) (hd : ss.Nodup) (hm : ∀ x, x ∈ ss ↔ x ∈ known) : rs = reachN all eqs := by
  have hd2 := hp.nodup_iff.2 hd
  refine reachN_eq ?_ (fun x => ?_)
  · have := List.Pairwise.and hs hd2
    exact this.imp (fun ⟨h1, h2⟩ => by omega)
  · rw [hp.mem_iff, hm x]
    exact ⟨h.knows x, closed_all h.end_⟩
end Go.Proofs.Ytkjaacpcnjakcaa
/- A map of slices of numbers that the call makes: what lies at each key, as a function. No condition. -/
set_option linter.unusedVariables false
namespace Go.Proofs.Ytkjaacpcnjakcaa
open Go.RowKit Go.ChangeShapes

theorem lits_inj {a b : List Int} (h : lits (H := Unit) .i64 a = lits .i64 b) : a = b := by
  unfold lits at h
  exact (List.map_inj_right (fun x y e => by injection e with e; injection e)).1 h
/-- What a map holds, key by key. -/
def Holds (D : DataW Unit) (f : Int → List Int) : Prop :=
  Maps.IsMap D ∧ ∀ x, (D.atKey (.int .i64 x) .nil = .nil ∧ f x = []) ∨ D.atKey (.int .i64 x) .nil = .slice (lits .i64 (f x)) []
theorem Holds.none : Holds (.map []) (fun _ => []) := ⟨⟨_, rfl⟩, fun x => .inl ⟨rfl, rfl⟩⟩
theorem Holds.zs {D : DataW Unit} {f : Int → List Int} (h : Holds D f) {w : World} {base : Nat} {e : TypeId} {v : Value} {zs : List Int} {x : Int} (ho : w.ownsInts base e .i64 v zs) (hat : D.atKey (.int .i64 x) .nil = rowDatum .i64 v zs) : zs = f x := by
  rcases ho.datum (H := Unit) with ⟨h1, rfl⟩ | h1
  · rw [h1] at hat
    rcases h.2 x with ⟨_, e⟩ | e
    · exact e.symm
    · rw [hat] at e; cases e
  · rw [h1] at hat
    rcases h.2 x with ⟨e, _⟩ | e
    · rw [hat] at e; cases e
    · rw [hat] at e
      injection e with e
      exact lits_inj e
theorem Holds.put {D : DataW Unit} {f : Int → List Int} (h : Holds D f) (x : Int) (zs : List Int) : Holds (D.put (.int .i64 x) (.slice (lits .i64 zs) [])) (fun y => if y = x then zs else f y) := by
  have key : ∀ y, ((D.put (.int .i64 x) (.slice (lits .i64 zs) [])).atKey (.int .i64 y) .nil = .nil ∧ (if y = x then zs else f y) = []) ∨ (D.put (.int .i64 x) (.slice (lits .i64 zs) [])).atKey (.int .i64 y) .nil = .slice (lits .i64 (if y = x then zs else f y)) [] := by
    intro y
    by_cases e : y = x
    · subst e
      right
      rw [if_pos rfl, Maps.atKey_put_same h.1 (show WideAt.IsKeyLit (.int .i64 y) from trivial)]
    · rw [if_neg e, Maps.atKey_put_other (fun h => e (by injection h))]
      exact h.2 y
  refine ⟨?_, key⟩
  obtain ⟨es, rfl⟩ := h.1
  exact ⟨_, rfl⟩
/-- A map of slices of numbers in block b, of at most n numbers each. -/
def GroupsAt (w : World) (b n : Nat) (f : Int → List Int) : Prop := ∃ D : DataW Unit, w.ownsGroups Try.prog 3 (b + 1) 3 .i64 b n D ∧ Holds D f
theorem GroupsAt.made (w : World) : GroupsAt (w.alloc (.map #[] 0)) w.heap.size 0 (fun _ => []) := ⟨.map [], World.ownsGroups_made _ _ _ _ _, Holds.none⟩
end Go.Proofs.Ytkjaacpcnjakcaa
/- closure.Reach's memory: left, has, todo: what each write leaves of the others. No condition. -/
set_option linter.unusedVariables false
namespace Go.Proofs.Ytkjaacpcnjakcaa
open Go.RowKit Go.ChangeShapes

/-- Left's row lies below the map's block M, todo's row and the map's rows above; the map's rows shun todo's. -/
structure St (w wr : World) (vl : Value) (left : List Int) (M n1 : Nat) (f : Int → List Int) (vt : Value) (todo : List Int) : Prop where
  left : OwnInts wr w.heap.size .i64 3 vl left
  lbelow : ∀ g, vl.ownBlock = some g → g < M
  todo : OwnInts wr (M + 1) .i64 3 vt todo
  has : GroupsAt wr M n1 f
  shuns : wr.Shuns M (fun g => vt.ownBlock = some g)
  base : w.heap.size ≤ M
  top : M < wr.heap.size
  keeps : Keeps NoB w wr
/-- Other writes that touch none of these. -/
theorem St.kept {w wr w' : World} {vl : Value} {left : List Int} {M n1 : Nat} {f : Int → List Int} {vt : Value} {todo : List Int} (h : St w wr vl left M n1 f vt todo) (hk : Keeps NoB wr w') : St w w' vl left M n1 f vt todo := by
  have hg := hk.grownBy none
  obtain ⟨D, hD, hf⟩ := h.has
  refine ⟨h.left.kept hk, h.lbelow, h.todo.kept hk, ⟨D, hD.kept hg (by simp) (fun es clock _ x _ => ?_), hf⟩, h.shuns.kept hg h.top (by simp), h.base, Nat.lt_of_lt_of_le h.top hk.size, h.keeps.fresh hk⟩
  cases x.val.ownBlock with
  | none => exact .inl rfl
  | some g => exact .inr (by simp)
/-- Todo grows. -/
theorem St.todo_grown {w wr w' : World} {vl : Value} {left : List Int} {M n1 : Nat} {f : Int → List Int} {vt vt' : Value} {todo todo' : List Int} (h : St w wr vl left M n1 f vt todo) (hg : wr.grownBy w' vt.ownBlock) (ho : OwnInts w' (M + 1) .i64 3 vt' todo')
    (hat : vt'.ownBlock = vt.ownBlock ∨ vt'.ownBlock = some wr.heap.size) : St w w' vl left M n1 f vt' todo' := by
  obtain ⟨D, hD, hf⟩ := h.has
  have hM : some M ≠ vt.ownBlock := fun e => by have := (h.todo.base_le M e.symm).1; omega
  have hs1 : wr.Shuns M (fun g => vt'.ownBlock = some g) := h.shuns.reno hD (fun g hg' => by
    rcases hat with e | e
    · exact .inl (by rw [← e]; exact hg')
    · right
      have := hg'.symm.trans e
      injection this with this
      omega)
  have hl : vl.ownBlock = none ∨ vl.ownBlock ≠ vt.ownBlock := by
    cases hv : vl.ownBlock with
    | none => exact .inl rfl
    | some g =>
      refine .inr (fun e => ?_)
      have h1 := h.lbelow g hv
      have h2 := (h.todo.base_le g e.symm).1
      omega
  exact ⟨World.ownsRow.kept h.left hg hl, h.lbelow, ho, ⟨D, hD.kept hg hM (h.shuns.rowsOff (fun j hj => hj)), hf⟩, hs1.kept hg h.top hM, h.base, Nat.lt_of_lt_of_le h.top hg.size, h.keeps.grown hg (fun i hi hlt => by have := (h.todo.base_le i hi.symm).1; have := h.base; omega)⟩
/-- A number of left is written: its row lies below all others. -/
theorem St.left_set {w wr w' : World} {vl : Value} {left left' : List Int} {M n1 : Nat} {f : Int → List Int} {vt : Value} {todo : List Int} (h : St w wr vl left M n1 f vt todo) (hg : wr.grownBy w' vl.ownBlock) (ho : OwnInts w' w.heap.size .i64 3 vl left') : St w w' vl left' M n1 f vt todo := by
  obtain ⟨D, hD, hf⟩ := h.has
  have hM : some M ≠ vl.ownBlock := fun e => by have := h.lbelow M e.symm; omega
  have ht : vt.ownBlock = none ∨ vt.ownBlock ≠ vl.ownBlock := by
    cases hv : vt.ownBlock with
    | none => exact .inl rfl
    | some g =>
      refine .inr (fun e => ?_)
      have h1 := h.lbelow g e.symm
      have h2 := (h.todo.base_le g hv).1
      omega
  exact ⟨ho, h.lbelow, World.ownsRow.kept h.todo hg ht, ⟨D, hD.kept hg hM (hD.rowsAbove (fun j hj => by have := h.lbelow j hj; omega)), hf⟩, h.shuns.kept hg h.top hM, h.base, Nat.lt_of_lt_of_le h.top hg.size, h.keeps.grown hg (fun i hi hlt => by have := (h.left.base_le i hi.symm).1; omega)⟩
/-- A number more at a key of the map. -/
theorem St.has_grown {w wr w2 w6 : World} {vl : Value} {left : List Int} {M n1 : Nat} {f : Int → List Int} {vt : Value} {todo : List Int} (h : St w wr vl left M n1 f vt todo) {D : DataW Unit} (hf : Holds D f) {v v' : Value} {zs : List Int} {x k : Int}
    (hoi : wr.ownsInts (M + 1) 3 .i64 v zs) (hat : D.atKey (.int .i64 x) .nil = rowDatum .i64 v zs) (hno : ∀ g, v.ownBlock = some g → ¬ vt.ownBlock = some g) (hall : wr.grownBy w2 v.ownBlock) (hoi' : w2.ownsInts (M + 1) 3 .i64 v' (zs ++ [k]))
    (hown : w6.ownsGroups Try.prog 3 (M + 1) 3 .i64 M (n1 + 1) (D.put (.int .i64 x) (rowDatum .i64 v' (zs ++ [k])))) (hg : w2.grownBy w6 (some M)) (hsh : w6.Shuns M (fun g => vt.ownBlock = some g)) :
    St w w6 vl left M (n1 + 1) (fun y => if y = x then f x ++ [k] else f y) vt todo := by
  have hz := hf.zs hoi hat
  subst hz
  rw [hoi'.datum_pos (by simp)] at hown
  have hvb : ∀ g, v.ownBlock = some g → M + 1 ≤ g := fun g hv => (World.ownsRow.lt hoi.1 g hv).1
  have hl : vl.ownBlock = none ∨ vl.ownBlock ≠ v.ownBlock := by
    cases hv : vl.ownBlock with
    | none => exact .inl rfl
    | some g =>
      refine .inr (fun e => ?_)
      have h1 := h.lbelow g hv
      have h2 := hvb g e.symm
      omega
  have ht : vt.ownBlock = none ∨ vt.ownBlock ≠ v.ownBlock := by
    cases hv : vt.ownBlock with
    | none => exact .inl rfl
    | some g => exact .inr (fun e => hno g e.symm hv)
  have hl2 : vl.ownBlock = none ∨ vl.ownBlock ≠ some M := .inr (fun e => by have := h.lbelow M e; omega)
  have ht2 : vt.ownBlock = none ∨ vt.ownBlock ≠ some M := .inr (fun e => by have := (h.todo.base_le M e).1; omega)
  have hsz := hall.size
  exact ⟨World.ownsRow.kept (World.ownsRow.kept h.left hall hl) hg hl2, h.lbelow, World.ownsRow.kept (World.ownsRow.kept h.todo hall ht) hg ht2, ⟨_, hown, hf.put x _⟩, hsh, h.base, Nat.lt_of_lt_of_le h.top (Nat.le_trans hsz hg.size),
    (h.keeps.grown hall (fun i hi hlt => by have := hvb i hi.symm; have := h.base; omega)).grown hg (fun i hi hlt => by injection hi with hi; have := h.base; omega)⟩
end Go.Proofs.Ytkjaacpcnjakcaa
/- A slice that begins within a row that the call owns (a queue). No condition. -/
set_option linter.unusedVariables false
namespace Go.Proofs.Ytkjaacpcnjakcaa
open Go.RowKit

def OwnTail (w : World) (base : Nat) (v : Value) (xs : List Int) : Prop :=
  (v = .slice none 0 0 ∧ xs = []) ∨ ∃ g p cap cur, v = .slice (some ⟨g, p, none⟩) xs.length cap ∧ base ≤ g ∧ w.heap[g]? = some (.cells cur 3) ∧ xs.length ≤ cap ∧ p + cap ≤ cur.size ∧ cap ≤ maxLen ∧ (cur.toList.drop p).take xs.length = xs.map (Value.int .i64)
theorem OwnTail.of {w : World} {base : Nat} {v : Value} {xs : List Int} (h : OwnInts w base .i64 3 v xs) : OwnTail w base v xs := by
  rcases h.2 with ⟨rfl, h0⟩ | ⟨g, cap, cur, rfl, hb, hg, h1, h2, h3, h4⟩
  · exact .inl ⟨rfl, List.length_eq_zero_iff.1 h0⟩
  · exact .inr ⟨g, 0, cap, cur, rfl, hb, hg, h1, by omega, h2, by simpa using h4⟩
theorem OwnTail.keeps {w w1 : World} {base : Nat} {v : Value} {xs : List Int} (h : OwnTail w base v xs) {S : Nat → Prop} (hk : Keeps S w w1) (hn : ∀ b, v.ownBlock = some b → ¬ S b) : OwnTail w1 base v xs := by
  rcases h with h | ⟨g, p, cap, cur, rfl, hb, hg, h1⟩
  · exact .inl h
  · exact .inr ⟨g, p, cap, cur, rfl, hb, hk.heap hg (hn g rfl), h1⟩
theorem OwnTail.base_le {w : World} {base : Nat} {v : Value} {xs : List Int} (h : OwnTail w base v xs) (b : Nat) (hb : v.ownBlock = some b) : base ≤ b ∧ b < w.heap.size := by
  rcases h with ⟨rfl, _⟩ | ⟨g, p, cap, cur, rfl, hg, hh, h1⟩
  · cases hb
  · have e : g = b := by simpa [Value.ownBlock] using hb
    subst e
    exact ⟨hg, (Array.getElem?_eq_some_iff.1 hh).1⟩
theorem OwnTail.lower {w : World} {base base' : Nat} {v : Value} {xs : List Int} (h : OwnTail w base v xs) (hb : base' ≤ base) : OwnTail w base' v xs := by
  rcases h with h | ⟨g, p, cap, cur, rfl, hg, r⟩
  · exact .inl h
  · exact .inr ⟨g, p, cap, cur, rfl, Nat.le_trans hb hg, r⟩
theorem OwnTail.front {w : World} {base g p n cap : Nat} {xs : List Int} (h : OwnTail w base (.slice (some ⟨g, p, none⟩) n cap) xs) {j : Nat} (hj : j < xs.length) : w.cell? ⟨g, p + j, none⟩ = some (.int .i64 (gi xs j)) := by
  rcases h with ⟨h, _⟩ | ⟨g', p', cap', cur, e, hb, hg, h1, h2, h3, h4⟩
  · cases h
  · injection e with e1 e2 e3
    injection e1 with e1
    injection e1 with e1 e4 _
    subst e1 e4 e2 e3
    have h5 := congrArg (fun l => l[j]?) h4
    simp only [List.getElem?_take, List.getElem?_drop, List.getElem?_map] at h5
    rw [if_pos hj] at h5
    unfold World.cell?
    simp [hg]
    simpa [gi, hj] using h5
/-- How it looks; and what is read of it. -/
theorem OwnTail.reads {w : World} {base : Nat} {v : Value} {xs : List Int} (h : OwnTail w base v xs) : ∃ A c, v = .slice A xs.length c ∧ xs.length ≤ c ∧ IntsAt w .i64 A xs := by
  rcases h with ⟨rfl, rfl⟩ | ⟨g, p, cap, cur, rfl, hb, hg, h1, h2, h3, h4⟩
  · exact ⟨none, 0, rfl, Nat.le_refl _, by simp, by simp⟩
  · exact ⟨_, _, rfl, h1, by unfold maxLen at h3; omega, fun _ => ⟨g, p, rfl, fun j hj => OwnTail.front (base := base) (n := xs.length) (cap := cap) (.inr ⟨g, p, cap, cur, rfl, hb, hg, h1, h2, h3, h4⟩) hj⟩⟩
theorem OwnTail.pop {w : World} {base g p n cap : Nat} {x : Int} {xs : List Int} (h : OwnTail w base (.slice (some ⟨g, p, none⟩) n cap) (x :: xs)) : OwnTail w base (.slice (if cap = 1 then some ⟨g, p, none⟩ else some ⟨g, p + 1, none⟩) (n - 1) (cap - 1)) xs := by
  rcases h with ⟨h, _⟩ | ⟨g', p', cap', cur, e, hb, hg, h1, h2, h3, h4⟩
  · cases h
  · injection e with e1 e2 e3
    injection e1 with e1
    injection e1 with e1 e4 _
    subst e1 e4 e2 e3
    simp only [List.length_cons] at h1 h4
    split
    · rename_i e
      subst e
      obtain rfl : xs = [] := List.length_eq_zero_iff.1 (by omega)
      exact .inr ⟨g, p, 0, cur, by simp, hb, hg, by simp, by omega, by omega, by simp⟩
    · refine .inr ⟨g, p + 1, cap - 1, cur, by simp, hb, hg, by omega, by omega, by omega, ?_⟩
      have h5 : ((cur.toList.drop p).take (xs.length + 1)).drop 1 = ((x :: xs).map (Value.int .i64)).drop 1 := by rw [h4]
      rw [List.drop_take, List.drop_drop] at h5
      simpa using h5
/-- 'q[1:]'. -/
theorem wpList_tail {P : Program} (w : World) {ops : Array Oper} {rest : List Oper} {o : Oper} {a : Act} {Q : Exit → Act → World → Prop} (hgd : o.guard = none) (s : Operand) (t : TypeId)
    (ho : o.op = .slice t s (some (.const (.int .i64 1))) none none) (ht : P.underlying t = some (.slice 3)) (hsz : ∀ w, (sizeOf 3).run P w = .ok 1 w) (base g p n cap : Nat) (x : Int) (xs : List Int)
    (hs : a.eval s = .slice (some ⟨g, p, none⟩) n cap) (h : OwnTail w base (.slice (some ⟨g, p, none⟩) n cap) (x :: xs))
    (hK : ∀ v', OwnTail w base v' xs → v'.ownBlock = some g → wpList P ops Q rest (a.put o.dst v') w) : wpList P ops Q (o :: rest) a w := by
  refine wpList_plain hgd fun K hK' => ?_
  have hl : n = xs.length + 1 ∧ xs.length + 1 ≤ cap := by
    rcases h with ⟨h, _⟩ | ⟨g', p', cap', cur, e, hb, hg, h1, h2, h3, h4⟩
    · cases h
    · injection e with e1 e2 e3
      subst e2 e3
      exact ⟨by simp, by simpa using h1⟩
  obtain ⟨rfl, hc⟩ := hl
  have hp := h.pop
  have hrun : (Instr.slice t (.slice (some ⟨g, p, none⟩) (xs.length + 1) cap) (some (.int .i64 1)) none none).run P w = .ok (.slice (if cap = 1 then some ⟨g, p, none⟩ else some ⟨g, p + 1, none⟩) (xs.length + 1 - 1) (cap - 1)) w := by
    have h1 : (1 : Int) ≤ (xs.length : Int) + 1 := by omega
    by_cases e : cap = 1
    · subst e; simp [go_sem, sliced, h1, hsz, run_slice_any, ht]
    · simp [go_sem, sliced, h1, hsz, run_slice_any, ht, e]
  have h0 : (Instr.sliceAt t (.slice (some ⟨g, p, none⟩) (xs.length + 1) cap) (some (.int .i64 1)) none none).run P w = .ok (.slice (if cap = 1 then some ⟨g, p, none⟩ else some ⟨g, p + 1, none⟩) (xs.length + 1 - 1) (cap - 1)) w := by
    rw [← hrun]; simp [Instr.sliceAt, run_underlying ht]
  unfold Oper.wp
  have hc1 : a.eval (.const (.int .i64 1)) = .int .i64 1 := rfl
  simp only [execOp, ho, hs, Option.map_some, Option.map_none, hc1, Sem.run_bind, h0, Result.andThen_ok, Sem.run_pure]
  exact hK' _ _ (hK _ hp (by split <;> rfl))
/-- 'append(q, y)'. -/
theorem wpList_tail_app {P : Program} (w : World) {ops : Array Oper} {rest : List Oper} {o : Oper} {a : Act} {Q : Exit → Act → World → Prop} (hgd : o.guard = none) (s x : Operand) (t : TypeId)
    (ho : o.op = .call { callee := .builtin .append, args := #[s, x], argTypes := #[t, t] }) (base : Nat) (ht : P.underlying t = some (.slice 3))
    (hi : (P.info? 3).map (fun i => (i.zero, i.size, i.bytes)) = some (some (.int .i64 0), 1, 8)) (v : Value) (xs : List Int) (hs : a.eval s = v) (hown : OwnTail w base v xs) (bx c : Nat) (y : Int)
    (hx : a.eval x = .slice (some ⟨bx, 0, none⟩) 1 c) (hcell : w.cell? ⟨bx, 0, none⟩ = some (.int .i64 y)) (hm : xs.length + 1 ≤ 1000000000) (hbase : base ≤ w.heap.size)
    (h : ∀ v' w', OwnTail w' base v' (xs ++ [y]) → w.grownBy w' v.ownBlock → (v'.ownBlock = v.ownBlock ∨ ∃ g, v'.ownBlock = some g ∧ w.heap.size ≤ g) → wpList P ops Q rest (a.put o.dst v') w') : wpList P ops Q (o :: rest) a w := by
  obtain ⟨i, i1, i2, i3, i4⟩ := info_parts hi
  have hnew : ∀ j u, [Value.int .i64 y][j]? = some u → w.cell? (Addr.add ⟨bx, 0, none⟩ j) = some u := by
    intro j u hu
    cases j with
    | zero => simp at hu; subst hu; exact hcell
    | succ j => simp at hu
  have h1c : ∀ u ∈ [Value.int .i64 y], u.oneCell' = true := by intro u hu; simp at hu; subst hu; rfl
  rcases hown with ⟨rfl, rfl⟩ | ⟨g, p, cap, cur, rfl, hb, hg, h1, h2, h3, h4⟩
  · refine wpList_append_grows w hgd s x t ho 3 i (.int .i64 0) 1 8 ht i1 i2 i3 i4 rfl (by decide) none 0 0 [] hs (fun _ => ⟨rfl, rfl⟩) rfl (by simp) ⟨bx, 0, none⟩ 1 c [.int .i64 y] hx rfl hnew h1c (by omega) (by unfold maxLen; omega) (by omega) ?_
    intro v' w' h1 h2
    have ho : OwnInts w' w.heap.size .i64 3 v' [y] := h1
    refine h v' w' ((OwnTail.of ho).lower hbase) h2 ?_
    rcases h1.2 with ⟨_, h0⟩ | ⟨g, cap, cur, rfl, hgb, _⟩
    · cases h0
    · exact .inr ⟨g, rfl, hgb⟩
  · refine wpList_append_arg w hgd s x t ho 3 i (.int .i64 0) 1 8 ht i1 i2 i3 i4 rfl (by decide) g p xs.length cap (xs.map (Value.int .i64)) hs (by simp) ?_ ⟨bx, 0, none⟩ 1 c [.int .i64 y] hx rfl hnew h1c ?_ (by unfold maxLen; omega) (by omega) ?_ ?_
    · intro j u hu
      have hj : j < xs.length := by
        have := (List.getElem?_eq_some_iff.1 hu).1
        simpa using this
      rw [OwnTail.front (base := base) (n := xs.length) (cap := cap) (.inr ⟨g, p, cap, cur, rfl, hb, hg, h1, h2, h3, h4⟩) hj]
      rw [← hu]; simp [gi, hj]
    · intro hr j hj
      obtain rfl : j = 0 := by simpa using hj
      have : p + xs.length < cur.size := by omega
      simp [World.cell?, World.frozen?, hg, this]
    · intro hr
      have hlt : p + xs.length < cur.size := by omega
      refine h _ _ (.inr ⟨g, p, cap, cur.setIfInBounds (p + xs.length) (.int .i64 y), by simp, hb, ?_, by simpa using hr, by simpa using h2, h3, ?_⟩) ?_ (.inl rfl)
      · show (w.heap.modify g _)[g]? = _
        rw [Array.getElem?_modify, if_pos rfl, hg]; simp
      · rw [Array.toList_setIfInBounds, List.length_append, List.map_append, ← h4]
        apply List.ext_getElem?
        intro j
        have h5 := congrArg (fun l => l[j]?) h4
        simp only [List.getElem?_take, List.getElem?_drop] at h5
        simp only [List.getElem?_take, List.getElem?_drop, List.length_singleton, List.getElem?_set]
        by_cases hj : j < xs.length
        · rw [if_pos (by omega), if_neg (by omega), List.getElem?_append_left (by simp; omega), List.getElem?_take, if_pos hj, List.getElem?_drop]
        · by_cases hj2 : j = xs.length
          · subst hj2
            rw [if_pos (by omega), if_pos rfl, if_pos (by simpa using hlt), List.getElem?_append_right (by simp; omega)]
            have e0 : min xs.length (cur.size - p) = xs.length := by omega
            simp [e0]
          · rw [if_neg (by omega), List.getElem?_eq_none (by simp only [List.length_append, List.length_take, List.length_drop, Array.length_toList, List.length_map, List.length_cons, List.length_nil]; omega)]
      · have := Keeps.one w g (p + xs.length * 1) (.int .i64 y)
        exact ⟨this.os, this.tape, this.output, this.size, fun i hi hne => this.block i hi (fun e => hne (by rw [e]; rfl))⟩
    · intro hr v' w' h1 h2
      have ho : OwnInts w' w.heap.size .i64 3 v' (xs ++ [y]) := by unfold OwnInts; simpa using h1
      refine h v' w' ((OwnTail.of ho).lower hbase) ⟨h2.os, h2.tape, h2.output, h2.size, fun i hi _ => h2.block i hi (by simp)⟩ ?_
      rcases h1.2 with ⟨_, h0⟩ | ⟨g, cap, cur, rfl, hgb, _⟩
      · omega
      · exact .inr ⟨g, rfl, hgb⟩
end Go.Proofs.Ytkjaacpcnjakcaa
/- closure.Reach's memory in its second loop: left, has, todo (a queue), known. No condition. -/
set_option linter.unusedVariables false
namespace Go.Proofs.Ytkjaacpcnjakcaa
open Go.RowKit Go.ChangeShapes Go.WideElems

structure St2 (w wr : World) (vl : Value) (left : List Int) (M n1 : Nat) (f : Int → List Int) (vt : Value) (todo : List Int) (nk : Nat) (known : List Int) : Prop where
  left : OwnInts wr w.heap.size .i64 3 vl left
  lbelow : ∀ g, vl.ownBlock = some g → g < M
  todo : OwnTail wr (M + 1) vt todo
  has : GroupsAt wr M n1 f
  shuns : wr.Shuns M (fun g => vt.ownBlock = some g)
  known : SetAt wr (M + 1) nk known
  base : w.heap.size ≤ M
  top : M + 1 < wr.heap.size
  keeps : Keeps NoB w wr
theorem St2.of {w wr : World} {vl : Value} {left : List Int} {M n1 : Nat} {f : Int → List Int} {vt : Value} {todo : List Int} {nk : Nat} {known : List Int} (h : St w wr vl left M n1 f vt todo) (hk : SetAt wr (M + 1) nk known) : St2 w wr vl left M n1 f vt todo nk known :=
  ⟨h.left, h.lbelow, OwnTail.of h.todo, h.has, h.shuns, hk, h.base, hk.lt, h.keeps⟩
variable {w wr w' : World} {vl : Value} {left : List Int} {M n1 : Nat} {f : Int → List Int} {vt : Value} {todo : List Int} {nk : Nat} {known : List Int}
theorem St2.kept (h : St2 w wr vl left M n1 f vt todo nk known) (hk : Keeps NoB wr w') : St2 w w' vl left M n1 f vt todo nk known := by
  have hg := hk.grownBy none
  obtain ⟨D, hD, hf⟩ := h.has
  refine ⟨h.left.kept hk, h.lbelow, h.todo.keeps hk (fun _ _ h => h), ⟨D, hD.kept hg (by simp) (fun es clock _ x _ => ?_), hf⟩, h.shuns.kept hg (Nat.lt_of_succ_lt h.top) (by simp), h.known.keeps hk (fun h => h), h.base, Nat.lt_of_lt_of_le h.top hk.size, h.keeps.fresh hk⟩
  cases x.val.ownBlock with
  | none => exact .inl rfl
  | some g => exact .inr (by simp)
theorem tail_ne {v : Value} {base : Nat} {xs : List Int} {b n : Nat} {l : List Int} (hm : SetAt wr b n l) (h : OwnTail wr base v xs) : v.ownBlock ≠ some b := by
  obtain ⟨es, clock, hb, _⟩ := hm
  rcases h with ⟨rfl, _⟩ | ⟨g, p, cap, cur, rfl, _, hg, _⟩
  · simp [Value.ownBlock]
  · intro e1
    have : g = b := by simpa [Value.ownBlock] using e1
    subst this
    rw [hb] at hg; cases hg
theorem OwnInts.ints {w : World} {base : Nat} {q : IntKind} {e : TypeId} {A : Option Addr} {n c : Nat} {xs : List Int} (h : OwnInts w base q e (.slice A n c) xs) : IntsAt w q A xs ∧ n = xs.length := by
  obtain ⟨A', c', e, _, h2⟩ := h.reads
  injection e with e1 e2 e3
  subst e1
  exact ⟨h2, e2⟩
/-- The queue, shortened. -/
theorem St2.todo_cut {vt' : Value} {todo' : List Int} (h : St2 w wr vl left M n1 f vt todo nk known) (ho : OwnTail wr (M + 1) vt' todo') (hat : vt'.ownBlock = vt.ownBlock) : St2 w wr vl left M n1 f vt' todo' nk known :=
  ⟨h.left, h.lbelow, ho, h.has, by rw [show (fun g => vt'.ownBlock = some g) = (fun g => vt.ownBlock = some g) by rw [hat]]; exact h.shuns, h.known, h.base, h.top, h.keeps⟩
/-- The queue, with one more. -/
theorem St2.todo_grown {vt' : Value} {todo' : List Int} (h : St2 w wr vl left M n1 f vt todo nk known) (hg : wr.grownBy w' vt.ownBlock) (ho : OwnTail w' (M + 1) vt' todo') (hat : vt'.ownBlock = vt.ownBlock ∨ ∃ g, vt'.ownBlock = some g ∧ wr.heap.size ≤ g) : St2 w w' vl left M n1 f vt' todo' nk known := by
  obtain ⟨D, hD, hf⟩ := h.has
  have hM : some M ≠ vt.ownBlock := fun e => by have := (h.todo.base_le M e.symm).1; omega
  have hM1 : some (M + 1) ≠ vt.ownBlock := fun e => tail_ne h.known h.todo e.symm
  have hs1 : wr.Shuns M (fun g => vt'.ownBlock = some g) := h.shuns.reno hD (fun g hg' => by
    rcases hat with e | ⟨g', e, hge⟩
    · exact .inl (by rw [← e]; exact hg')
    · right
      have := hg'.symm.trans e
      injection this with this
      omega)
  have hl : vl.ownBlock = none ∨ vl.ownBlock ≠ vt.ownBlock := by
    cases hv : vl.ownBlock with
    | none => exact .inl rfl
    | some g =>
      refine .inr (fun e => ?_)
      have h1 := h.lbelow g hv
      have h2 := (h.todo.base_le g e.symm).1
      omega
  exact ⟨World.ownsRow.kept h.left hg hl, h.lbelow, ho, ⟨D, hD.kept hg hM (h.shuns.rowsOff (fun j hj => hj)), hf⟩, hs1.kept hg (Nat.lt_of_succ_lt h.top) hM, h.known.keeps (Keeps.ofGrown hg) (fun e => hM1 e), h.base, Nat.lt_of_lt_of_le h.top hg.size, h.keeps.grown hg (fun i hi hlt => by have := (h.todo.base_le i hi.symm).1; have := h.base; omega)⟩
/-- A number of left is written. -/
theorem St2.left_set {left' : List Int} (h : St2 w wr vl left M n1 f vt todo nk known) (hg : wr.grownBy w' vl.ownBlock) (ho : OwnInts w' w.heap.size .i64 3 vl left') : St2 w w' vl left' M n1 f vt todo nk known := by
  obtain ⟨D, hD, hf⟩ := h.has
  have hM : some M ≠ vl.ownBlock := fun e => by have := h.lbelow M e.symm; omega
  have ht : ∀ b, vt.ownBlock = some b → ¬ some b = vl.ownBlock := fun b hb e => by
    have h1 := h.lbelow b e.symm
    have h2 := (h.todo.base_le b hb).1
    omega
  exact ⟨ho, h.lbelow, h.todo.keeps (Keeps.ofGrown hg) ht, ⟨D, hD.kept hg hM (hD.rowsAbove (fun j hj => by have := h.lbelow j hj; omega)), hf⟩, h.shuns.kept hg (Nat.lt_of_succ_lt h.top) hM, h.known.keeps (Keeps.ofGrown hg) (fun e => by have := h.lbelow (M + 1) e.symm; omega), h.base, Nat.lt_of_lt_of_le h.top hg.size, h.keeps.grown hg (fun i hi hlt => by have := (h.left.base_le i hi.symm).1; omega)⟩
/-- A block more is known. -/
theorem St2.known_put {nk' : Nat} {known' : List Int} (h : St2 w wr vl left M n1 f vt todo nk known) (hg : wr.grownBy w' (some (M + 1))) (hs : SetAt w' (M + 1) nk' known') : St2 w w' vl left M n1 f vt todo nk' known' := by
  obtain ⟨D, hD, hf⟩ := h.has
  have hM : some M ≠ some (M + 1) := by simp
  have hrows : ∀ es clock, wr.heap[M]? = some (.map es clock) → ∀ x ∈ es.toList, x.val.ownBlock = none ∨ x.val.ownBlock ≠ some (M + 1) := fun es clock hb x hx => by
    obtain ⟨es', clock', hb', F, _⟩ := hD
    obtain ⟨rfl, rfl⟩ : es' = es ∧ clock' = clock := by rw [hb'] at hb; simpa using hb
    obtain ⟨y, hy⟩ := F.reads x hx
    obtain ⟨z, hz, _⟩ := rd_val hy
    obtain ⟨zs, hoi, _⟩ := rowElem_inv hz
    exact .inr (fun e => ne_own (q := .i64) (e := 3) (xs := zs) h.known hoi.1 e.symm)
  have hl : vl.ownBlock = none ∨ vl.ownBlock ≠ some (M + 1) := .inr (fun e => by have := h.lbelow _ e; omega)
  exact ⟨World.ownsRow.kept h.left hg hl, h.lbelow, h.todo.keeps (Keeps.ofGrown hg) (fun b hb e => tail_ne h.known h.todo (by rw [hb, e])), ⟨D, hD.kept hg hM hrows, hf⟩, h.shuns.kept hg (Nat.lt_of_succ_lt h.top) hM, hs, h.base, Nat.lt_of_lt_of_le h.top hg.size, h.keeps.grown hg (fun i hi hlt => by injection hi with hi; have := h.base; omega)⟩
end Go.Proofs.Ytkjaacpcnjakcaa
/- The keys of a set that is ranged over, collected. No condition. -/
set_option linter.unusedVariables false
namespace Go.Proofs.Ytkjaacpcnjakcaa
open Go.RowKit Go.Maps

def setD (l : List Int) : DataW Unit := Maps.setOf (.agg []) (l.map (Lit.int .i64))
/-- The range over a set under way. -/
def SetRange (w : World) (b r n : Nat) (l : List Int) (left : Lit → Bool) (cnt : Nat) : Prop := w.ranges (H := Unit) Try.prog 3 unitElem b r n (setD l) left cnt
theorem SetRange.set {w : World} {b r n : Nat} {l : List Int} {left : Lit → Bool} {cnt : Nat} (h : SetRange w b r n l left cnt) : SetAt w b n l := World.ranges.owns h
theorem SetRange.keeps {w w' : World} {b r n : Nat} {l : List Int} {left : Lit → Bool} {cnt : Nat} (h : SetRange w b r n l left cnt) {row : Option Nat} (hg : w.grownBy w' row) (hb : some b ≠ row) (hr : some r ≠ row) : SetRange w' b r n l left cnt := World.ranges.kept h hg hb hr
theorem SetRange.alloc {w : World} {b r n : Nat} {l : List Int} {left : Lit → Bool} {cnt : Nat} (h : SetRange w b r n l left cnt) (o : Obj) : SetRange (w.alloc o) b r n l left cnt := World.ranges.alloc h o
/-- What was collected: of the keys those that are no longer to come, none twice. -/
def Coll (l : List Int) (left : Lit → Bool) (ss : List Int) : Prop := ss.Nodup ∧ ∀ x, x ∈ ss ↔ (x ∈ l ∧ left (.int .i64 x) = false)
theorem Coll.start (l : List Int) : Coll l (Maps.has (setD l)) [] := ⟨List.nodup_nil, fun x => by
  have := set_has l x
  unfold setD
  rw [this]
  simp⟩
theorem Coll.step {l : List Int} {left : Lit → Bool} {ss : List Int} {x : Int} (h : Coll l left ss) (hl : left (.int .i64 x) = true) (hx : x ∈ l) : Coll l (fun z => left z && !z.sameKey (.int .i64 x)) (ss ++ [x]) := by
  have hn : x ∉ ss := fun hm => by have := ((h.2 x).1 hm).2; rw [hl] at this; cases this
  refine ⟨List.nodup_append.2 ⟨h.1, by simp, fun a ha b hb => by rw [List.mem_singleton.1 hb]; exact fun e => hn (e ▸ ha)⟩, fun y => ?_⟩
  rw [List.mem_append, List.mem_singleton, h.2 y]
  show _ ↔ y ∈ l ∧ (left (.int .i64 y) && !(Lit.int .i64 y).sameKey (.int .i64 x)) = false
  rw [same_key_int]
  by_cases e : y = x
  · subst e; simp [hx]
  · simp [e]
theorem Coll.end_ {l : List Int} {left : Lit → Bool} {ss : List Int} (h : Coll l left ss) (hl : ∀ kl, left kl = false) : ss.Nodup ∧ ∀ x, x ∈ ss ↔ x ∈ l := ⟨h.1, fun x => by rw [h.2 x, hl]; simp⟩
/-- 'range m', m a set. -/
theorem wpList_range_set (w : World) {ops : Array Oper} {rest : List Oper} {o : Oper} {a : Act} {Q : Exit → Act → World → Prop} (hg : o.guard = none) (m : Operand) (t : TypeId) (hop : o.op = Op.range t m) (ht : Try.prog.underlying t = some (.map 3 73)) (b n : Nat) (l : List Int)
    (hm : a.eval m = .map (some b)) (hown : SetAt w b n l)
    (hK : ∀ w' cnt, SetRange w' b w.heap.size n l (Maps.has (setD l)) cnt → cnt ≤ n → w.grownBy w' none → w'.heap.size = w.heap.size + 1 → wpList Try.prog ops Q rest (a.put o.dst (.pointer (some ⟨w.heap.size, 0, none⟩))) w') :
    wpList Try.prog ops Q (o :: rest) a w :=
  wpList_range_own w hg m t hop 3 73 key_law ht unitElem b n _ hm hown (fun w' h1 h2 h3 => hK w' _ h1 (World.ownsMap.size_le hown) h2 h3)
/-- The step. -/
theorem wpList_next_set (w : World) {ops : Array Oper} {rest : List Oper} {o : Oper} {a : Act} {Q : Exit → Act → World → Prop} (hg : o.guard = none) (it : Operand) (hop : o.op = Op.next it false) (b r n : Nat) (l : List Int) (left : Lit → Bool) (cnt : Nat)
    (hit : a.eval it = .pointer (some ⟨r, 0, none⟩)) (h : SetRange w b r n l left cnt)
    (hDone : cnt = 0 → (∀ kl, left kl = false) → wpList Try.prog ops Q rest (a.put o.dst (.tuple #[.bool false])) w)
    (hMore : ∀ (x : Int) (w' : World) (cnt' : Nat), (Lit.int .i64 x).wf = true → left (.int .i64 x) = true → x ∈ l → SetRange w' b r n l (fun z => left z && !z.sameKey (.int .i64 x)) cnt' → cnt' < cnt → w.grownBy w' (some r) → w'.heap.size = w.heap.size →
      (Instr.entry (.pointer (some ⟨r, 0, none⟩))).run Try.prog w' = .ok (.tuple #[.int .i64 x, .agg #[]]) w' → wpList Try.prog ops Q rest (a.put o.dst (.tuple #[.bool true, .int .i64 x, .agg #[]])) w') :
    wpList Try.prog ops Q (o :: rest) a w :=
  wpList_next_ranges (α := Int) (β := Unit) w hg it hop 3 key_law unitElem (Value.int .i64) (fun _ => .agg #[]) (fun key kl hkey => by obtain ⟨x, rfl, _⟩ := Maps.keyOf_int_inv Try.underlying3 hkey; exact ⟨x, rfl⟩)
    (fun v y hv => ⟨(), (unitElem_inv hv).1⟩) b r n (setD l) left cnt hit h hDone (fun x c kl y w' cnt' hkey hlk hv hat hrg hlt hgr hsz hen => by
      obtain ⟨x', ex, rfl, hwx⟩ := Maps.keyOf_int_inv Try.underlying3 hkey
      cases ex
      have hx : x ∈ l := by
        have h1 := Maps.has_true_of_atKey hat
        unfold setD at h1
        rw [set_has] at h1
        simpa using h1
      exact hMore x w' cnt' hwx hlk hx hrg hlt hgr hsz hen)
theorem SetRange.left_eq {w : World} {b r n : Nat} {l : List Int} {left : Lit → Bool} {cnt : Nat} (h : SetRange w b r n l left cnt) : w.rangeLeft b r = cnt := World.ranges.left_eq h
theorem SetRange.ne_iter {w : World} {b r n : Nat} {l : List Int} {left : Lit → Bool} {cnt : Nat} (h : SetRange w b r n l left cnt) {base : Nat} {q : IntKind} {e : TypeId} {v : Value} {xs : List Int} (ho : OwnInts w base q e v xs) : some r ≠ v.ownBlock := by
  obtain ⟨es, clock, since, seen, c0, hb, F, hs, hD, hr, _⟩ := h
  rcases ho.2 with ⟨rfl, _⟩ | ⟨g, cap, cur, rfl, _, hg, _⟩
  · simp [Value.ownBlock]
  · intro e1
    have : r = g := by simpa [Value.ownBlock] using e1
    subst this
    rw [hr] at hg; cases hg
/-- How many a set has that was put once each. -/
theorem setD_size (l : List Int) (hd : l.Nodup) : Maps.size (setD l) = l.length := by
  unfold setD
  rw [Maps.size_setOf _ _ (fun y hy => by obtain ⟨a, _, rfl⟩ := List.mem_map.1 hy; trivial)]
  suffices H : ∀ (l acc : List Int), (acc ++ l).Nodup → ((l.map (Lit.int .i64)).foldl Maps.addKey (acc.map (Lit.int .i64))) = (acc ++ l).map (Lit.int .i64) by
    have := H l [] (by simpa using hd)
    simp only [List.map_nil, List.nil_append] at this
    rw [this, List.length_map]
  intro l
  induction l with
  | nil => intro acc _; simp
  | cons x l ih =>
    intro acc hn
    have hx : x ∉ acc := by
      intro hm
      rw [List.nodup_append] at hn
      exact hn.2.2 x hm x (by simp) rfl
    have e1 : Maps.addKey (acc.map (Lit.int .i64)) (.int .i64 x) = (acc ++ [x]).map (Lit.int .i64) := by
      unfold Maps.addKey
      rw [if_neg, List.map_append]; rfl
      rw [List.any_eq_true]
      rintro ⟨y, hy, h⟩
      obtain ⟨a, ha, rfl⟩ := List.mem_map.1 hy
      rw [same_key_int, decide_eq_true_eq] at h
      exact hx (h ▸ ha)
    rw [List.map_cons, List.foldl_cons, e1, ih (acc ++ [x]) (by simpa using hn)]
    simp
end Go.Proofs.Ytkjaacpcnjakcaa
/- Are two lists the same; is a number among some that rise; a sample by its contract. Conditions: lengths that the lists' reads bear. -/
set_option linter.unusedVariables false
namespace Go.Proofs.Ytkjaacpcnjakcaa
open Go.RowKit

def sameN (a b : List Int) : Int := if a = b then 1 else 0
theorem list_ext_gi {xs ys : List Int} (hl : xs.length = ys.length) (h : ∀ j, j < xs.length → gi xs j = gi ys j) : xs = ys := by
  apply List.ext_getElem hl
  intro j h1 h2
  have := h j h1
  rwa [gi_eq _ _ h1, gi_eq _ _ h2] at this
set_option maxHeartbeats 400000 in
theorem same_calls (xs ys : List Int) (A B : Option Addr) (ca cb : Nat) (w : World) (ha : IntsAt w .i64 A xs) (hb : IntsAt w .i64 B ys) :
    Calls Try.prog 22 #[.slice A xs.length ca, .slice B ys.length cb] w fun e w' => e = .returned (.int .i64 (sameN xs ys)) ∧ Keeps NoB w w' := by
  have la := ha.len
  have lb := hb.len
  have HA := hid ha
  have HB := hid hb
  clear ha hb
  by_cases hl : xs.length = ys.length
  · have HL := hid hl
    have hd2 : ((xs.length : Int) != (ys.length : Int)) = false := by simp [hl]
    clear hl
    go_enter Try.func22, Try.ntmps22
    go_wp2
    go_loopw [13] (fun i wr => ∃ k : Nat, k ≤ xs.length ∧ i = .int .i64 k ∧ Hid (∀ j, j < k → gi xs j = gi ys j) ∧ Hid (Keeps NoB w wr)) (fun i _ => xs.length - (intOf i).toNat)
    case atStart => exact ⟨0, Nat.zero_le _, rfl, fun j hj => absurd hj (Nat.not_lt_zero _), Keeps.refl _ _⟩
    case round =>
      obtain ⟨k, hk, rfl, HE, HK⟩ := hrel
      by_cases hlt : k < xs.length
      · have hky : k < ys.length := by have := HL.out; omega
        obtain ⟨b1, o1, rfl, h1⟩ := HA.out.get (by omega)
        obtain ⟨b2, o2, rfl, h2⟩ := HB.out.get (by omega)
        have c1 : wr.cell? ⟨b1, o1 + k, none⟩ = some (.int .i64 (gi xs k)) := HK.out.cell (h1 k hlt) (fun h => h)
        have c2 : wr.cell? ⟨b2, o2 + k, none⟩ = some (.int .i64 (gi ys k)) := HK.out.cell (h2 k hky) (fun h => h)
        clear h1 h2
        by_cases hxy : gi xs k = gi ys k
        · have hq : (gi xs k != gi ys k) = false := by simp [hxy]
          have HX := hid hxy
          clear hxy
          go_wp2
          go_quiet (fail)
          go_wp2
          go_roundw
          case rel => exact ⟨k + 1, by omega, by go_num, fun j hj => by rcases Nat.lt_or_ge j k with h | h; exact HE.out j h; obtain rfl : j = k := by omega
                                                                        exact HX.out, HK.out.drewN _⟩
          case measure => simp [intOf]; omega
        · have hq : (gi xs k != gi ys k) = true := by simp [hxy]
          have HX := hid hxy
          clear hxy
          go_wp2
          go_quiet (fail)
          go_wp2
          go_ret
          exact ⟨congrArg (fun x => Ending.returned (.int .i64 x)) (if_neg (fun e => HX.out (by rw [e]))).symm, HK.out.drewN _⟩
      · obtain rfl : k = xs.length := by omega
        go_wp2
        go_ret
        exact ⟨congrArg (fun x => Ending.returned (.int .i64 x)) (if_pos (list_ext_gi HL.out HE.out)).symm, HK.out⟩
  · have hd2 : ((xs.length : Int) != (ys.length : Int)) = true := by simp; omega
    have HL := hid hl
    clear hl
    go_enter Try.func22, Try.ntmps22
    go_wp2
    go_ret
    exact ⟨congrArg (fun x => Ending.returned (.int .i64 x)) (if_neg (fun e => HL.out (by rw [e]))).symm, Keeps.refl _ _⟩

theorem someS_lt (s : Nat) (below many : Int) (hs : s < 18446744073709551616) : someS s below many < 18446744073709551616 := drawN_lt s _ hs _
end Go.Proofs.Ytkjaacpcnjakcaa
/- Are numbers of blocks such as there are, rising; are all of an equation's blocks among some: the walks. Conditions: numbers are of their kinds. -/
set_option linter.unusedVariables false
namespace Go.Proofs.Ytkjaacpcnjakcaa
open Go.RowKit

set_option maxHeartbeats 1600000 in
set_option maxRecDepth 20000 in
theorem cfits_calls (all : Int) (of : List Int) (A : Option Addr) (c : Nat) (w : World) (h : IntsAt w .i64 A of) :
    Calls Try.prog 32 #[.int .i64 all, .slice A of.length c] w fun e w' => e = .returned (.bool (fitsN all of)) ∧ w' = w := by
  have hl := h.len
  have HC := hid h
  have HNO := hid (fun k (hk : k < of.length) (h : fitAt all of k = false) => fitsN_no hk h)
  have HYES := hid (fun h => fitsN_yes (all := all) (of := of) h)
  clear h
  obtain ⟨n, hn⟩ : ∃ n, of.length = n := ⟨_, rfl⟩
  rw [hn] at hl ⊢
  have hnn := hid hn
  clear hn
  go_enter Try.func32, Try.ntmps32
  go_wp2_with fail
  go_loop [9] (fun v9 => ∃ k : Nat, k ≤ n ∧ v9 = .int .i64 (k : Int) ∧ Hid (∀ j, j < k → fitAt all of j = true)) (fun v9 => n - (intOf v9).toNat)
  case atStart => exact ⟨0, Nat.zero_le _, rfl, fun j hj => absurd hj (Nat.not_lt_zero _)⟩
  case round =>
    obtain ⟨k, hk, rfl, HJ⟩ := hrel
    by_cases hlt : k < n
    · obtain ⟨b, off, rfl, hc⟩ := HC.out.get (by rw [hnn.out]; omega)
      have c1 := hc k (by rw [hnn.out]; exact hlt)
      have p0 : (0 : Int) ≤ (k : Int) := by omega
      have p1 : (k : Int) < (n : Int) := by omega
      have hno := hid (HNO.out k (by rw [hnn.out]; exact hlt))
      have hfa := hid (show fitAt all of k = (decide (0 ≤ gi of k) && decide (gi of k < all) && (decide (k = 0) || decide (gi of (k - 1) < gi of k))) from rfl)
      by_cases h0 : gi of k < 0
      · have d0 : decide (gi of k < 0) = true := decide_eq_true h0
        have hr := hid (hno.out (by rw [hfa.out, decide_eq_false (show ¬ (0 : Int) ≤ gi of k by omega)]; rfl))
        clear hc h0
        generalize gi of k = x at *
        go_wp2_with fail
        go_ret
        rw [hr.out]; exact ⟨rfl, rfl⟩
      · have d0 : decide (gi of k < 0) = false := decide_eq_false h0
        by_cases h1 : gi of k < all
        · have d1 : decide (all ≤ gi of k) = false := decide_eq_false (by omega)
          cases k with
          | zero =>
            have hok := hid (show fitAt all of 0 = true by rw [hfa.out, decide_eq_true (show (0 : Int) ≤ gi of 0 by omega), decide_eq_true h1]; rfl)
            have c1' : w.cell? ⟨b, off, none⟩ = some (.int .i64 (gi of 0)) := c1
            have HJ2 := hid (show ∀ j, j < 0 + 1 → fitAt all of j = true from fun j hj => by obtain rfl : j = 0 := by omega
                                                                                             exact hok.out)
            clear hc h0 h1 c1
            generalize gi of 0 = x at *
            go_wp2_with fail
            go_round
            case rel => exact ⟨1, by omega, by go_num, HJ2⟩
            case measure => simp [intOf]; omega
          | succ k =>
            have c2 := hc k (by rw [hnn.out]; omega)
            rw [show k + 1 - 1 = k from rfl] at hfa
            by_cases h2 : gi of k < gi of (k + 1)
            · have d2 : decide (gi of (k + 1) ≤ gi of k) = false := decide_eq_false (by omega)
              have hok := hid (show fitAt all of (k + 1) = true by rw [hfa.out, decide_eq_true (show (0 : Int) ≤ gi of (k + 1) by omega), decide_eq_true h1, decide_eq_true h2]; simp)
              have HJ2 := hid (show ∀ j, j < k + 1 + 1 → fitAt all of j = true from fun j hj => by
                by_cases e : j = k + 1
                · rw [e]; exact hok.out
                · exact HJ.out j (by omega))
              clear hc h0 h1 h2
              generalize gi of (k + 1) = x at *
              generalize gi of k = y at *
              go_wp2_with fail
              go_round
              case rel => exact ⟨k + 1 + 1, by omega, by go_num, HJ2⟩
              case measure => simp [intOf]; omega
            · have d2 : decide (gi of (k + 1) ≤ gi of k) = true := decide_eq_true (by omega)
              have hr := hid (hno.out (by rw [hfa.out, decide_eq_false h2, decide_eq_false (show ¬ k + 1 = 0 by omega)]; simp))
              clear hc h0 h1 h2
              generalize gi of (k + 1) = x at *
              generalize gi of k = y at *
              go_wp2_with fail
              go_ret
              rw [hr.out]; exact ⟨rfl, rfl⟩
        · have d1 : decide (all ≤ gi of k) = true := decide_eq_true (by omega)
          have hr := hid (hno.out (by rw [hfa.out, decide_eq_false h1]; simp))
          clear hc h0 h1
          generalize gi of k = x at *
          go_wp2_with fail
          go_ret
          rw [hr.out]; exact ⟨rfl, rfl⟩
    · obtain rfl : n = k := by omega
      have hr := hid (HYES.out (by rw [hnn.out]; exact HJ.out))
      go_wp2_with fail
      go_ret
      rw [hr.out]; exact ⟨rfl, rfl⟩
end Go.Proofs.Ytkjaacpcnjakcaa
