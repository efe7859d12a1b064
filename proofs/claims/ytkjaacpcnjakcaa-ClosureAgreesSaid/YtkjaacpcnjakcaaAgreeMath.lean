/- Equations of blocks: whether they can all hold: the plain law. No condition. -/
import Derived.Test.YtkjaacpcnjakcaaXorMath
import Derived.Test.YtkjaacpcnjakcaaReachMath
set_option linter.unusedVariables false
namespace Go.Proofs.Ytkjaacpcnjakcaa

theorem flat_ofs (es : List EqV) : (es.map EqV.of).flatten = ofsE es := by simp [ofsE, List.flatMap]
/-- Blocks of so many bytes. -/
def ValsF (n : Nat) (f : Int → List UInt8) : Prop := ∀ x, (f x).length = n
def sumF (n : Nat) (f : Int → List UInt8) (is : List Int) : List UInt8 := sumB n (is.map f)
def SatE (n : Nat) (f : Int → List UInt8) (e : EqV) : Prop := e.val = sumF n f e.of
theorem valsF_fit {n : Nat} {f : Int → List UInt8} (h : ValsF n f) (is : List Int) : fitB n (is.map f) = true := by
  unfold fitB; rw [List.all_map, List.all_eq_true]
  intro i _
  simpa using h i
theorem sumF_length {n : Nat} {f : Int → List UInt8} (h : ValsF n f) (is : List Int) : (sumF n f is).length = n := sumB_length (valsF_fit h is)
theorem sumF_cons {n : Nat} {f : Int → List UInt8} (h : ValsF n f) (x : Int) (is : List Int) : sumF n f (x :: is) = xorL (f x) (sumF n f is) := sumB_cons (h x)
theorem sumF_append {n : Nat} {f : Int → List UInt8} (h : ValsF n f) (a b : List Int) : sumF n f (a ++ b) = xorL (sumF n f a) (sumF n f b) := by
  unfold sumF; rw [List.map_append]; exact sumB_append (valsF_fit h a)
theorem sumF_odd {n : Nat} {f : Int → List UInt8} (h : ValsF n f) (l : List Int) : sumF n f (oddN l) = sumF n f l := sum_odd f l (fun i _ => h i)
theorem sumF_congr {n : Nat} {f g : Int → List UInt8} {is : List Int} (h : ∀ i ∈ is, f i = g i) : sumF n f is = sumF n g is := by
  unfold sumF; rw [List.map_congr_left h]
theorem sumF_nil (n : Nat) (f : Int → List UInt8) : sumF n f [] = List.replicate n 0 := rfl
theorem xor_right_inj {a b c : List UInt8} (ha : a.length = b.length) (hc : c.length = b.length) (h : xorL b a = xorL b c) : a = c := by
  have := congrArg (xorL b) h
  rwa [xor_cancel ha, xor_cancel hc] at this
/-- Two equations, put upon each other. -/
def addE (n : Nat) (e p : EqV) : EqV := ⟨oddN (ofsE [e, p]), sumB n (valsE [e, p])⟩
theorem addE_val {n : Nat} {e p : EqV} (he : e.val.length = n) (hp : p.val.length = n) : (addE n e p).val = xorL e.val p.val := by
  show sumB n [e.val, p.val] = _
  rw [sumB_cons he, sumB_cons hp, show sumB n [] = List.replicate n 0 from rfl, xor_zero hp]
theorem addE_length {n : Nat} {e p : EqV} (he : e.val.length = n) (hp : p.val.length = n) : (addE n e p).val.length = n := by
  rw [addE_val he hp, xorL_length (by rw [he, hp]), he]
theorem addE_of (n : Nat) (e p : EqV) : (addE n e p).of = oddN (e.of ++ p.of) := by simp [addE, ofsE]
theorem addE_sat {n : Nat} {f : Int → List UInt8} (hf : ValsF n f) {e p : EqV} (he : e.val.length = n) (hp : p.val.length = n) (hs : SatE n f p) : SatE n f (addE n e p) ↔ SatE n f e := by
  unfold SatE at *
  rw [addE_val he hp, addE_of, sumF_odd hf, sumF_append hf, ← hs]
  constructor
  · intro h
    rw [xor_comm e.val, xor_comm (sumF n f e.of)] at h
    exact xor_right_inj (by rw [he, hp]) (by rw [sumF_length hf, hp]) h
  · intro h; rw [h]
/-- Where both rise and begin alike the head goes, and the rest is greater. -/
theorem odd_heads {x : Int} {a b : List Int} (ha : (x :: a).Pairwise (· < ·)) (hb : (x :: b).Pairwise (· < ·)) : ∀ y ∈ oddN ((x :: a) ++ (x :: b)), x < y := by
  intro y hy
  rw [mem_oddN] at hy
  have ha' := List.pairwise_cons.1 ha
  have hb' := List.pairwise_cons.1 hb
  have hm := oddN_sub ((mem_oddN _ _).2 hy)
  by_cases e : y = x
  · subst e
    have h1 : a.count y = 0 := List.count_eq_zero.2 (fun h => by have := ha'.1 y h; omega)
    have h2 : b.count y = 0 := List.count_eq_zero.2 (fun h => by have := hb'.1 y h; omega)
    rw [List.count_append, List.count_cons_self, List.count_cons_self, h1, h2] at hy
    omega
  · rcases List.mem_append.1 hm with h | h
    · rcases List.mem_cons.1 h with h | h
      · exact absurd h e
      · exact ha'.1 y h
    · rcases List.mem_cons.1 h with h | h
      · exact absurd h e
      · exact hb'.1 y h
/-- Equations in steps: each has a head, and none the same. -/
structure Steps (n : Nat) (tab : List EqV) : Prop where
  rise : ∀ t ∈ tab, t.of.Pairwise (· < ·)
  some : ∀ t ∈ tab, t.of ≠ []
  len : ∀ t ∈ tab, t.val.length = n
  heads : (tab.map fun t => gi t.of 0).Nodup
theorem gi_head (x : Int) (l : List Int) : gi (x :: l) 0 = x := rfl
/-- Such equations can all hold. -/
theorem steps_solve {n : Nat} {tab : List EqV} (h : Steps n tab) : ∃ f, ValsF n f ∧ ∀ t ∈ tab, SatE n f t := by
  -- sorted by their heads
  suffices H : ∀ l : List EqV, (∀ t ∈ l, t.of.Pairwise (· < ·) ∧ t.of ≠ [] ∧ t.val.length = n) → l.Pairwise (fun s t => gi s.of 0 < gi t.of 0) → ∃ f, ValsF n f ∧ ∀ t ∈ l, SatE n f t by
    have hp := List.mergeSort_perm tab (fun s t => decide (gi s.of 0 ≤ gi t.of 0))
    have hs := List.pairwise_mergeSort (le := fun s t : EqV => decide (gi s.of 0 ≤ gi t.of 0)) (fun a b c h1 h2 => by simp at *; omega) (fun a b => by simp; omega) tab
    have hnd : ((tab.mergeSort (fun s t => decide (gi s.of 0 ≤ gi t.of 0))).map fun t => gi t.of 0).Nodup := (hp.map _).nodup_iff.2 h.heads
    obtain ⟨f, h1, h2⟩ := H (tab.mergeSort (fun s t => decide (gi s.of 0 ≤ gi t.of 0))) (fun t ht => by
      have := hp.mem_iff.1 ht
      exact ⟨h.rise t this, h.some t this, h.len t this⟩) (by
      unfold List.Nodup at hnd
      rw [List.pairwise_map] at hnd
      exact (List.Pairwise.and hs hnd).imp (fun ⟨h1, h2⟩ => by simp at h1; omega))
    exact ⟨f, h1, fun t ht => h2 t (hp.mem_iff.2 ht)⟩
  intro l
  induction l with
  | nil => intro _ _; exact ⟨fun _ => List.replicate n 0, fun x => by simp, fun t ht => by simp at ht⟩
  | cons t l ih =>
    intro hl hp
    have hp' := List.pairwise_cons.1 hp
    obtain ⟨f, h1, h2⟩ := ih (fun s hs => hl s (List.mem_cons_of_mem _ hs)) hp'.2
    obtain ⟨hr, hne, hlen⟩ := hl t (List.mem_cons_self ..)
    obtain ⟨of, v⟩ := t
    cases of with
    | nil => exact absurd rfl hne
    | cons x a =>
      have hr' := List.pairwise_cons.1 hr
      dsimp only at hlen
      let g : Int → List UInt8 := fun y => if y = x then xorL v (sumF n f a) else f y
      have hga : sumF n g a = sumF n f a := sumF_congr (fun i hi => by
        have := hr'.1 i hi
        show (if i = x then _ else _) = _
        rw [if_neg (by omega)])
      have hg : ValsF n g := fun y => by
        show (if y = x then xorL v (sumF n f a) else f y).length = n
        split
        · rw [xorL_length (by rw [sumF_length h1, hlen]), hlen]
        · exact h1 y
      refine ⟨g, hg, fun s hs => ?_⟩
      rcases List.mem_cons.1 hs with rfl | hs
      · show v = sumF n g (x :: a)
        rw [sumF_cons hg, hga]
        show v = xorL (if x = x then xorL v (sumF n f a) else f x) (sumF n f a)
        rw [if_pos rfl, xor_assoc, xor_self, sumF_length h1, xor_zero hlen]
      · have h3 := h2 s hs
        have h4 := hp'.1 s hs
        obtain ⟨hrs, hnes, _⟩ := hl s (List.mem_cons_of_mem _ hs)
        unfold SatE at *
        rw [h3]
        refine sumF_congr (fun i hi => ?_)
        show _ = (if i = x then _ else _)
        rw [if_neg]
        intro e
        cases hso : s.of with
        | nil => exact hnes hso
        | cons y b =>
          rw [hso] at hrs hi h4
          have hb := List.pairwise_cons.1 hrs
          rw [gi_head] at h4
          have h4 : x < y := h4
          rcases List.mem_cons.1 hi with h5 | h5
          · omega
          · have := hb.1 i h5; omega
/-- Of equations those that are closed: they fit, their value is of so many bytes, and all of their blocks follow. -/
def closedE (all : Int) (n : Nat) (known : List Int) (e : EqV) : Bool := fitsN all e.of && decide (e.val.length = n) && e.of.all fun i => decide (i ∈ known)
def Agree (all : Int) (n : Nat) (es : List EqV) : Prop := ∃ f, ValsF n f ∧ ∀ e ∈ es, closedE all n (reachN all (es.map EqV.of)) e = true → SatE n f e
open Classical in
noncomputable def agreesN (all : Int) (n : Nat) (es : List EqV) : Bool := decide (Agree all n es)
open Classical in
theorem agreesN_yes {all : Int} {n : Nat} {es : List EqV} (h : Agree all n es) : agreesN all n es = true := by unfold agreesN; exact decide_eq_true h
open Classical in
theorem agreesN_no {all : Int} {n : Nat} {es : List EqV} (h : ¬ Agree all n es) : agreesN all n es = false := by unfold agreesN; exact decide_eq_false h
/-- What stands behind the first equations: equations in steps that hold just where these do. -/
structure Elim (all : Int) (n : Nat) (known : List Int) (es : List EqV) (tab : List EqV) : Prop where
  steps : Steps n tab
  same : ∀ f, ValsF n f → ((∀ t ∈ tab, SatE n f t) ↔ ∀ e ∈ es, closedE all n known e = true → SatE n f e)
/-- An equation that is gone through: so far it has become e. -/
structure Under (n : Nat) (tab : List EqV) (e0 e : EqV) : Prop where
  rise : e.of.Pairwise (· < ·)
  len : e.val.length = n
  same : ∀ f, ValsF n f → (∀ t ∈ tab, SatE n f t) → (SatE n f e0 ↔ SatE n f e)
variable {all : Int} {n : Nat} {known : List Int} {es tab : List EqV} {e0 e : EqV}
theorem Elim.none (all : Int) (n : Nat) (known : List Int) : Elim all n known [] [] := ⟨⟨by simp, by simp, by simp, by simp⟩, fun f _ => by simp⟩
theorem Elim.skip (h : Elim all n known es tab) (he : closedE all n known e0 = false) : Elim all n known (es ++ [e0]) tab := ⟨h.steps, fun f hf => by
  rw [h.same f hf]
  constructor
  · intro h1 e hm hc
    rcases List.mem_append.1 hm with hm | hm
    · exact h1 e hm hc
    · rw [List.mem_singleton.1 hm, he] at hc; cases hc
  · intro h1 e hm hc
    exact h1 e (List.mem_append_left _ hm) hc⟩
theorem Under.start (hc : closedE all n known e0 = true) : Under n tab e0 e0 := by
  simp only [closedE, Bool.and_eq_true, decide_eq_true_eq] at hc
  exact ⟨fitsN_rising hc.1.1, hc.1.2, fun _ _ _ => Iff.rfl⟩
theorem Under.step (ht : Steps n tab) (h : Under n tab e0 e) {p : EqV} (hp : p ∈ tab) : Under n tab e0 (addE n e p) :=
  ⟨by rw [addE_of]; exact oddN_rising _, addE_length h.len (ht.len p hp), fun f hf hs => (h.same f hf hs).trans (addE_sat hf h.len (ht.len p hp) (hs p hp)).symm⟩
theorem Under.store (hE : Elim all n known es tab) (h : Under n tab e0 e) (hc : closedE all n known e0 = true) (hne : e.of ≠ []) (hn : ∀ t ∈ tab, gi t.of 0 ≠ gi e.of 0) : Elim all n known (es ++ [e0]) (tab ++ [e]) := by
  refine ⟨⟨fun t ht => ?_, fun t ht => ?_, fun t ht => ?_, ?_⟩, fun f hf => ?_⟩
  · rcases List.mem_append.1 ht with ht | ht
    · exact hE.steps.rise t ht
    · rw [List.mem_singleton.1 ht]; exact h.rise
  · rcases List.mem_append.1 ht with ht | ht
    · exact hE.steps.some t ht
    · rw [List.mem_singleton.1 ht]; exact hne
  · rcases List.mem_append.1 ht with ht | ht
    · exact hE.steps.len t ht
    · rw [List.mem_singleton.1 ht]; exact h.len
  · rw [List.map_append, List.nodup_append]
    refine ⟨hE.steps.heads, by simp, fun a ha b hb => ?_⟩
    obtain ⟨t, ht, rfl⟩ := List.mem_map.1 ha
    simp only [List.map_cons, List.map_nil, List.mem_singleton] at hb
    rw [hb]; exact hn t ht
  · constructor
    · intro h1
      have h2 : ∀ t ∈ tab, SatE n f t := fun t ht => h1 t (List.mem_append_left _ ht)
      intro x hm hcx
      rcases List.mem_append.1 hm with hm | hm
      · exact (hE.same f hf).1 h2 x hm hcx
      · rw [List.mem_singleton.1 hm]
        exact (h.same f hf h2).2 (h1 e (by simp))
    · intro h1
      have h2 := (hE.same f hf).2 (fun x hm hcx => h1 x (List.mem_append_left _ hm) hcx)
      intro t ht
      rcases List.mem_append.1 ht with ht | ht
      · exact h2 t ht
      · rw [List.mem_singleton.1 ht]
        exact (h.same f hf h2).1 (h1 e0 (by simp) hc)
theorem sat_empty {f : Int → List UInt8} {v : List UInt8} (hv : v.length = n) : SatE n f ⟨[], v⟩ ↔ zeroB v = true := by
  unfold SatE
  show v = List.replicate n 0 ↔ _
  constructor
  · intro h; rw [h]; exact zeroB_zero n
  · intro h; have := zeroB_eq h; rw [hv] at this; exact this
theorem Under.zero (hE : Elim all n known es tab) (h : Under n tab e0 e) (hne : e.of = []) (hz : zeroB e.val = true) : Elim all n known (es ++ [e0]) tab := by
  refine ⟨hE.steps, fun f hf => ?_⟩
  constructor
  · intro h1 x hm hcx
    rcases List.mem_append.1 hm with hm | hm
    · exact (hE.same f hf).1 h1 x hm hcx
    · rw [List.mem_singleton.1 hm]
      refine (h.same f hf h1).2 ?_
      have := (sat_empty (n := n) (f := f) h.len).2 hz
      rw [show e = ⟨[], e.val⟩ by rw [← hne]]
      exact this
  · intro h1
    exact (hE.same f hf).2 (fun x hm hcx => h1 x (List.mem_append_left _ hm) hcx)
theorem Under.bad (hE : Elim all n known es tab) (h : Under n tab e0 e) (hc : closedE all n known e0 = true) (hne : e.of = []) (hz : zeroB e.val = false) {f : Int → List UInt8} (hf : ValsF n f) (h1 : ∀ x ∈ es, closedE all n known x = true → SatE n f x) : ¬ SatE n f e0 := by
  intro hs
  have h2 := (h.same f hf ((hE.same f hf).2 h1)).1 hs
  rw [show e = ⟨[], e.val⟩ by rw [← hne]] at h2
  have := (sat_empty (n := n) (f := f) h.len).1 h2
  rw [hz] at this; cases this
theorem Elim.agree (h : Elim all n (reachN all (es.map EqV.of)) es tab) : Agree all n es := by
  obtain ⟨f, h1, h2⟩ := steps_solve h.steps
  exact ⟨f, h1, (h.same f h1).1 h2⟩
theorem not_agree {es0 : List EqV} (hE : Elim all n (reachN all (es0.map EqV.of)) es tab) (h : Under n tab e0 e) (hc : closedE all n (reachN all (es0.map EqV.of)) e0 = true) (hne : e.of = []) (hz : zeroB e.val = false) (hs : ∀ x ∈ es, x ∈ es0) (h0 : e0 ∈ es0) : ¬ Agree all n es0 := by
  rintro ⟨f, hf, h1⟩
  exact Under.bad hE h hc hne hz hf (fun x hx hcx => h1 x (hs x hx) hcx) (h1 e0 h0 hc)
/-- How many steps may still come. -/
def stepsLeft (all : Int) (e : EqV) : Nat := if e.of = [] then 0 else (all - gi e.of 0).toNat + 1
theorem gi_zero_mem {l : List Int} (h : l ≠ []) : gi l 0 ∈ l := by
  cases l with
  | nil => exact absurd rfl h
  | cons x l => exact List.mem_cons_self ..
theorem stepsLeft_add {all : Int} {n : Nat} {e p : EqV} (he : e.of.Pairwise (· < ·)) (hp : p.of.Pairwise (· < ·)) (hne : e.of ≠ []) (hpe : p.of ≠ []) (hh : gi p.of 0 = gi e.of 0) (hin : ∀ y ∈ e.of, y < all) (hip : ∀ y ∈ p.of, y < all) : stepsLeft all (addE n e p) < stepsLeft all e := by
  obtain ⟨eo, ev⟩ := e
  obtain ⟨po, pv⟩ := p
  dsimp only at *
  cases eo with
  | nil => exact absurd rfl hne
  | cons x a =>
    cases po with
    | nil => exact absurd rfl hpe
    | cons y b =>
      obtain rfl : y = x := hh
      have hg := odd_heads he hp
      have hx := hin y (List.mem_cons_self ..)
      unfold stepsLeft
      rw [if_neg (show ¬ (⟨y :: a, ev⟩ : EqV).of = [] by simp)]
      split
      · omega
      · rename_i h
        have hm := gi_zero_mem h
        rw [addE_of] at hm
        have h1 := hg _ hm
        have h2 : gi (oddN (y :: a ++ y :: b)) 0 < all := by
          rcases List.mem_append.1 (oddN_sub hm) with h3 | h3
          · exact hin _ h3
          · exact hip _ h3
        rw [addE_of]
        show (all - gi (oddN (y :: a ++ y :: b)) 0).toNat + 1 < (all - gi (y :: a) 0).toNat + 1
        rw [gi_head]
        dsimp only at h1 h2
        omega
end Go.Proofs.Ytkjaacpcnjakcaa
