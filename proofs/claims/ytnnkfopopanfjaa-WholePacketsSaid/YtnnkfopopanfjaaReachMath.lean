/- Which blocks follow of equations: the plain law. No condition. -/
import Derived.Test.YtnnkfopopanfjaaOddMath
set_option linter.unusedVariables false
namespace Go.Proofs.Ytnnkfopopanfjaa

/-- A number among rising ones, once. -/
def insR (x : Int) (r : List Int) : List Int := if x ∈ r then r else tog x r
theorem mem_insR (x z : Int) (r : List Int) (h : r.Pairwise (· < ·)) : z ∈ insR x r ↔ z = x ∨ z ∈ r := by
  unfold insR
  split
  · rename_i hx
    exact ⟨.inr, fun h => by rcases h with rfl | h; exact hx; exact h⟩
  · rename_i hx
    rw [mem_tog x z r h]
    constructor
    · rintro (⟨h1, _⟩ | ⟨_, h1⟩)
      · exact .inr h1
      · exact .inl h1
    · rintro (h1 | h1)
      · exact .inr ⟨by rw [h1]; exact hx, h1⟩
      · exact .inl ⟨h1, fun e => hx (by rw [← e]; exact h1)⟩
theorem insR_rising (x : Int) (r : List Int) (h : r.Pairwise (· < ·)) : (insR x r).Pairwise (· < ·) := by
  unfold insR; split
  · exact h
  · exact tog_rising x r h
def setR (l : List Int) : List Int := l.foldr insR []
theorem setR_rising (l : List Int) : (setR l).Pairwise (· < ·) := by
  induction l with
  | nil => exact List.Pairwise.nil
  | cons x l ih => exact insR_rising x _ ih
theorem mem_setR (l : List Int) (z : Int) : z ∈ setR l ↔ z ∈ l := by
  induction l with
  | nil => simp [setR]
  | cons x l ih => show z ∈ insR x (setR l) ↔ _; rw [mem_insR x z _ (setR_rising l), ih, List.mem_cons]
theorem insR_length (x : Int) (r : List Int) : (insR x r).length ≤ r.length + 1 := by
  unfold insR; split
  · omega
  · induction r with
    | nil => simp [tog]
    | cons y r ih =>
      rename_i hx
      unfold tog
      split
      · simp
      · split
        · simp; omega
        · simp only [List.length_cons]
          have := ih (fun h => hx (List.mem_cons_of_mem _ h))
          omega
theorem setR_length (l : List Int) : (setR l).length ≤ l.length := by
  induction l with
  | nil => simp [setR]
  | cons x l ih => exact Nat.le_trans (insR_length x (setR l)) (by simp; exact ih)
/-- Are these numbers of blocks such as there are, rising? -/
def fitAt (all : Int) (of : List Int) (k : Nat) : Bool := decide (0 ≤ gi of k) && decide (gi of k < all) && (decide (k = 0) || decide (gi of (k - 1) < gi of k))
def fitsN (all : Int) (of : List Int) : Bool := (List.range of.length).all (fitAt all of)
theorem fitsN_no {all : Int} {of : List Int} {k : Nat} (hk : k < of.length) (h : fitAt all of k = false) : fitsN all of = false :=
  List.all_eq_false.2 ⟨k, List.mem_range.2 hk, by simp [h]⟩
theorem fitsN_yes {all : Int} {of : List Int} (h : ∀ k, k < of.length → fitAt all of k = true) : fitsN all of = true :=
  List.all_eq_true.2 (fun k hk => h k (List.mem_range.1 hk))
theorem fitsN_in {all : Int} {of : List Int} (h : fitsN all of = true) : ∀ n ∈ of, 0 ≤ n ∧ n < all := fun n hn => by
  obtain ⟨k, hk, rfl⟩ := List.getElem_of_mem hn
  have := List.all_eq_true.1 h k (List.mem_range.2 hk)
  simp only [fitAt, Bool.and_eq_true, decide_eq_true_eq] at this
  rw [gi_eq of k hk] at this
  exact this.1
theorem fitsN_rising {all : Int} {of : List Int} (h : fitsN all of = true) : of.Pairwise (· < ·) := by
  have step : ∀ k, k + 1 < of.length → gi of k < gi of (k + 1) := fun k hk => by
    have := List.all_eq_true.1 h (k + 1) (List.mem_range.2 hk)
    simp only [fitAt, Bool.and_eq_true, Bool.or_eq_true, decide_eq_true_eq] at this
    rcases this.2 with h1 | h1
    · omega
    · simpa using h1
  have far : ∀ d i, i + d + 1 < of.length → gi of i < gi of (i + d + 1) := by
    intro d
    induction d with
    | zero => intro i hi; exact step i hi
    | succ d ih =>
      intro i hi
      have h1 := ih i (by omega)
      have h2 := step (i + d + 1) (by omega)
      have : i + (d + 1) + 1 = i + d + 1 + 1 := by omega
      rw [this]; omega
  rw [List.pairwise_iff_getElem]
  intro i j hi hj hij
  have := far (j - i - 1) i (by omega)
  rw [show i + (j - i - 1) + 1 = j by omega, gi_eq of i hi, gi_eq of j hj] at this
  exact this
/-- What follows: an equation all of whose other blocks follow gives its block. -/
inductive Follows (all : Int) (eqs : List (List Int)) : Int → Prop
  | step (of : List Int) (x : Int) (hof : of ∈ eqs) (hfit : fitsN all of = true) (hx : x ∈ of) (hy : ∀ y ∈ of, y ≠ x → Follows all eqs y) : Follows all eqs x
theorem Follows.mem {all : Int} {eqs : List (List Int)} {x : Int} (h : Follows all eqs x) : ∃ of ∈ eqs, fitsN all of = true ∧ x ∈ of := by
  cases h with
  | step of x hof hfit hx hy => exact ⟨of, hof, hfit, hx⟩
theorem Follows.mono {all : Int} {eqs eqs' : List (List Int)} (hs : ∀ of ∈ eqs, of ∈ eqs') {x : Int} (h : Follows all eqs x) : Follows all eqs' x := by
  induction h with
  | step of x hof hfit hx hy ih => exact .step of x (hs of hof) hfit hx ih
open Classical in
/-- The blocks that follow, rising. -/
noncomputable def reachN (all : Int) (eqs : List (List Int)) : List Int := (setR eqs.flatten).filter fun x => decide (Follows all eqs x)
theorem reachN_rising (all : Int) (eqs : List (List Int)) : (reachN all eqs).Pairwise (· < ·) := (setR_rising _).filter _
theorem mem_reachN (all : Int) (eqs : List (List Int)) (x : Int) : x ∈ reachN all eqs ↔ Follows all eqs x := by
  unfold reachN
  rw [List.mem_filter, mem_setR]
  constructor
  · rintro ⟨_, h⟩; simpa using h
  · intro h
    obtain ⟨of, hof, _, hx⟩ := h.mem
    exact ⟨List.mem_flatten.2 ⟨of, hof, hx⟩, by simpa using h⟩
theorem reachN_eq {all : Int} {eqs : List (List Int)} {r : List Int} (hr : r.Pairwise (· < ·)) (h : ∀ x, x ∈ r ↔ Follows all eqs x) : r = reachN all eqs :=
  rise_ext hr (reachN_rising all eqs) (fun x => by rw [h, mem_reachN])
theorem reachN_length (all : Int) (eqs : List (List Int)) : (reachN all eqs).length ≤ eqs.flatten.length := by
  unfold reachN
  exact Nat.le_trans (List.length_filter_le _ _) (setR_length _)
theorem reachN_same {all : Int} {eqs eqs' : List (List Int)} (h : ∀ of, of ∈ eqs ↔ of ∈ eqs') : reachN all eqs = reachN all eqs' :=
  reachN_eq (reachN_rising all eqs) (fun x => by
    rw [mem_reachN]
    exact ⟨Follows.mono (fun of hof => (h of).1 hof), Follows.mono (fun of hof => (h of).2 hof)⟩)
/-- Those of an equation's blocks that aren't known. -/
def unkN (known of : List Int) : List Int := of.filter fun i => !decide (i ∈ known)
theorem mem_unkN (known of : List Int) (x : Int) : x ∈ unkN known of ↔ x ∈ of ∧ x ∉ known := by simp [unkN]
theorem unkN_take (known of : List Int) (k : Nat) (h : k < of.length) : unkN known (of.take (k + 1)) = unkN known (of.take k) ++ (if gi of k ∈ known then [] else [gi of k]) := by
  unfold unkN
  rw [List.take_succ_eq_append_getElem h, gi_eq of k h, List.filter_append]
  congr 1
  by_cases hx : of[k] ∈ known <;> simp [hx]
theorem unkN_le (known of : List Int) : (unkN known of).length ≤ of.length := List.length_filter_le _ _
/-- Where all that is known follows, what alone isn't follows, too. -/
theorem follows_one {all : Int} {eqs : List (List Int)} {known of : List Int} {x : Int} (hk : ∀ y ∈ known, Follows all eqs y) (hof : of ∈ eqs) (hfit : fitsN all of = true) (h : unkN known of = [x]) : Follows all eqs x := by
  have hx := (mem_unkN known of x).1 (by rw [h]; exact List.mem_singleton.2 rfl)
  refine .step of x hof hfit hx.1 (fun y hy hne => hk y ?_)
  by_cases hm : y ∈ known
  · exact hm
  · have := (mem_unkN known of y).2 ⟨hy, hm⟩
    rw [h] at this
    exact absurd (List.mem_singleton.1 this) hne
/-- Where no fitting equation has but one that isn't known, all that follows is known. -/
theorem closed_all {all : Int} {eqs : List (List Int)} {known : List Int} (h : ∀ of ∈ eqs, fitsN all of = true → (unkN known of).length ≠ 1) {x : Int} (hf : Follows all eqs x) : x ∈ known := by
  induction hf with
  | step of x hof hfit hx hy ih =>
    by_cases hm : x ∈ known
    · exact hm
    · exfalso
      apply h of hof hfit
      have hn : (unkN known of).Nodup := (nodup_of_rising (fitsN_rising hfit)).filter _
      have hall : ∀ y ∈ unkN known of, y = x := fun y hy2 => by
        obtain ⟨h1, h2⟩ := (mem_unkN known of y).1 hy2
        by_cases e : y = x
        · exact e
        · exact absurd (ih y h1 e) h2
      have hxm : x ∈ unkN known of := (mem_unkN known of x).2 ⟨hx, hm⟩
      match hu : unkN known of with
      | [] => rw [hu] at hxm; simp at hxm
      | [a] => rfl
      | a :: b :: r =>
        rw [hu] at hn hall
        have h1 := hall a (by simp)
        have h2 := hall b (by simp)
        rw [h1, h2] at hn
        simp at hn
theorem reach_done {all : Int} {eqs : List (List Int)} {known : List Int} (hr : known.Pairwise (· < ·)) (hk : ∀ y ∈ known, Follows all eqs y) (h : ∀ of ∈ eqs, fitsN all of = true → (unkN known of).length ≠ 1) : known = reachN all eqs :=
  reachN_eq hr (fun x => ⟨hk x, closed_all h⟩)
end Go.Proofs.Ytnnkfopopanfjaa
