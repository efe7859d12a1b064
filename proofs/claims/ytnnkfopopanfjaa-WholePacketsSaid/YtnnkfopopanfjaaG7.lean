/- Several texts, one behind the other: what each proves, and its conditions, stands ahead of it. -/
import Derived.Test.YtnnkfopopanfjaaXorMath
import Derived.Test.YtnnkfopopanfjaaReachMath
import Derived.Test.YtnnkfopopanfjaaG2
import Derived.Maps.RangeWalk
import Derived.Test.YtnnkfopopanfjaaG6
set_option linter.unusedVariables false
set_option linter.unusedSimpArgs false
/- Equations of blocks: whether they can all hold: the plain law. No condition. -/
set_option linter.unusedVariables false
namespace Go.Proofs.Ytnnkfopopanfjaa

theorem flat_ofs (es : List EqV) : (es.map EqV.of).flatten = ofsE es := by simp [ofsE, List.flatMap]
/-- Blocks of so many bytes. -/
def ValsF (n : Nat) (f : Int → List UInt8) : Prop := ∀ x, (f x).length = n
def sumF (n : Nat) (f : Int → List UInt8) (is : List Int) : List UInt8 := sumB n (is.map f)
def SatE (n : Nat) (f : Int → List UInt8) (e : EqV) : Prop := e.val = sumF n f e.of
theorem valsF_fit {n : Nat} {f : Int → List UInt8} (h : ValsF n f) (is : List Int) : fitB n (is.map f) = true := by
  unfold fitB; rw [List.all_map, List.all_eq_true]
  intro i _
  simpa using h i
theorem sumF_length {n : Nat} {f : Int → List UInt8} (h : ValsF n f) (is : List Int) : (sumF n f is).length = n := sumB_length (valsF_fit h is)
theorem sumF_cons {n : Nat} {f : Int → List UInt8} (h : ValsF n f) (x : Int) (is : List Int) : sumF n f (x :: is) = xorL (f x) (sumF n f is) := sumB_cons (h x)
theorem sumF_append {n : Nat} {f : Int → List UInt8} (h : ValsF n f) (a b : List Int) : sumF n f (a ++ b) = xorL (sumF n f a) (sumF n f b) := by
  unfold sumF; rw [List.map_append]; exact sumB_append (valsF_fit h a)
theorem sumF_odd {n : Nat} {f : Int → List UInt8} (h : ValsF n f) (l : List Int) : sumF n f (oddN l) = sumF n f l := sum_odd f l (fun i _ => h i)
theorem sumF_congr {n : Nat} {f g : Int → List UInt8} {is : List Int} (h : ∀ i ∈ is, f i = g i) : sumF n f is = sumF n g is := by
  unfold sumF; rw [List.map_congr_left h]
theorem sumF_nil (n : Nat) (f : Int → List UInt8) : sumF n f [] = List.replicate n 0 := rfl
theorem xor_right_inj {a b c : List UInt8} (ha : a.length = b.length) (hc : c.length = b.length) (h : xorL b a = xorL b c) : a = c := by
  have := congrArg (xorL b) h
  rwa [xor_cancel ha, xor_cancel hc] at this
/-- Two equations, put upon each other. -/
def addE (n : Nat) (e p : EqV) : EqV := ⟨oddN (ofsE [e, p]), sumB n (valsE [e, p])⟩
theorem addE_val {n : Nat} {e p : EqV} (he : e.val.length = n) (hp : p.val.length = n) : (addE n e p).val = xorL e.val p.val := by
  show sumB n [e.val, p.val] = _
  rw [sumB_cons he, sumB_cons hp, show sumB n [] = List.replicate n 0 from rfl, xor_zero hp]
theorem addE_length {n : Nat} {e p : EqV} (he : e.val.length = n) (hp : p.val.length = n) : (addE n e p).val.length = n := by
  rw [addE_val he hp, xorL_length (by rw [he, hp]), he]
theorem addE_of (n : Nat) (e p : EqV) : (addE n e p).of = oddN (e.of ++ p.of) := by simp [addE, ofsE]
theorem addE_sat {n : Nat} {f : Int → List UInt8} (hf : ValsF n f) {e p : EqV} (he : e.val.length = n) (hp : p.val.length = n) (hs : SatE n f p) : SatE n f (addE n e p) ↔ SatE n f e := by
  unfold SatE at *
  rw [addE_val he hp, addE_of, sumF_odd hf, sumF_append hf, ← hs]
  constructor
  · intro h
    rw [xor_comm e.val, xor_comm (sumF n f e.of)] at h
    exact xor_right_inj (by rw [he, hp]) (by rw [sumF_length hf, hp]) h
  · intro h; rw [h]
/-- Where both rise and begin alike the head goes, and the rest is greater. -/
theorem odd_heads {x : Int} {a b : List Int} (ha : (x :: a).Pairwise (· < ·)) (hb : (x :: b).Pairwise (· < ·)) : ∀ y ∈ oddN ((x :: a) ++ (x :: b)), x < y := by
  intro y hy
  rw [mem_oddN] at hy
  have ha' := List.pairwise_cons.1 ha
  have hb' := List.pairwise_cons.1 hb
  have hm := oddN_sub ((mem_oddN _ _).2 hy)
  by_cases e : y = x
  · subst e
    have h1 : a.count y = 0 := List.count_eq_zero.2 (fun h => by have := ha'.1 y h; omega)
    have h2 : b.count y = 0 := List.count_eq_zero.2 (fun h => by have := hb'.1 y h; omega)
    rw [List.count_append, List.count_cons_self, List.count_cons_self, h1, h2] at hy
    omega
  · rcases List.mem_append.1 hm with h | h
    · rcases List.mem_cons.1 h with h | h
      · exact absurd h e
      · exact ha'.1 y h
    · rcases List.mem_cons.1 h with h | h
      · exact absurd h e
      · exact hb'.1 y h
/-- Equations in steps: each has a head, and none the same. -/
structure Steps (n : Nat) (tab : List EqV) : Prop where
  rise : ∀ t ∈ tab, t.of.Pairwise (· < ·)
  some : ∀ t ∈ tab, t.of ≠ []
  len : ∀ t ∈ tab, t.val.length = n
  heads : (tab.map fun t => gi t.of 0).Nodup
theorem gi_head (x : Int) (l : List Int) : gi (x :: l) 0 = x := rfl
/-- Such equations can all hold. -/
theorem steps_solve {n : Nat} {tab : List EqV} (h : Steps n tab) : ∃ f, ValsF n f ∧ ∀ t ∈ tab, SatE n f t := by
  -- sorted by their heads
  suffices H : ∀ l : List EqV, (∀ t ∈ l, t.of.Pairwise (· < ·) ∧ t.of ≠ [] ∧ t.val.length = n) → l.Pairwise (fun s t => gi s.of 0 < gi t.of 0) → ∃ f, ValsF n f ∧ ∀ t ∈ l, SatE n f t by
    have hp := List.mergeSort_perm tab (fun s t => decide (gi s.of 0 ≤ gi t.of 0))
    have hs := List.pairwise_mergeSort (le := fun s t : EqV => decide (gi s.of 0 ≤ gi t.of 0)) (fun a b c h1 h2 => by simp at *; omega) (fun a b => by simp; omega) tab
    have hnd : ((tab.mergeSort (fun s t => decide (gi s.of 0 ≤ gi t.of 0))).map fun t => gi t.of 0).Nodup := (hp.map _).nodup_iff.2 h.heads
    obtain ⟨f, h1, h2⟩ := H (tab.mergeSort (fun s t => decide (gi s.of 0 ≤ gi t.of 0))) (fun t ht => by
      have := hp.mem_iff.1 ht
      exact ⟨h.rise t this, h.some t this, h.len t this⟩) (by
      unfold List.Nodup at hnd
      rw [List.pairwise_map] at hnd
      exact (List.Pairwise.and hs hnd).imp (fun ⟨h1, h2⟩ => by simp at h1; omega))
    exact ⟨f, h1, fun t ht => h2 t (hp.mem_iff.2 ht)⟩
  intro l
  induction l with
  | nil => intro _ _; exact ⟨fun _ => List.replicate n 0, fun x => by simp, fun t ht => by simp at ht⟩
  | cons t l ih =>
    intro hl hp
    have hp' := List.pairwise_cons.1 hp
    obtain ⟨f, h1, h2⟩ := ih (fun s hs => hl s (List.mem_cons_of_mem _ hs)) hp'.2
    obtain ⟨hr, hne, hlen⟩ := hl t (List.mem_cons_self ..)
    obtain ⟨of, v⟩ := t
    cases of with
    | nil => exact absurd rfl hne
    | cons x a =>
      have hr' := List.pairwise_cons.1 hr
      dsimp only at hlen
      let g : Int → List UInt8 := fun y => if y = x then xorL v (sumF n f a) else f y
      have hga : sumF n g a = sumF n f a := sumF_congr (fun i hi => by
        have := hr'.1 i hi
        show (if i = x then _ else _) = _
        rw [if_neg (by omega)])
      have hg : ValsF n g := fun y => by
        show (if y = x then xorL v (sumF n f a) else f y).length = n
        split
        · rw [xorL_length (by rw [sumF_length h1, hlen]), hlen]
        · exact h1 y
      refine ⟨g, hg, fun s hs => ?_⟩
      rcases List.mem_cons.1 hs with rfl | hs
      · show v = sumF n g (x :: a)
        rw [sumF_cons hg, hga]
        show v = xorL (if x = x then xorL v (sumF n f a) else f x) (sumF n f a)
        rw [if_pos rfl, xor_assoc, xor_self, sumF_length h1, xor_zero hlen]
      · have h3 := h2 s hs
        have h4 := hp'.1 s hs
        obtain ⟨hrs, hnes, _⟩ := hl s (List.mem_cons_of_mem _ hs)
        unfold SatE at *
        rw [h3]
        refine sumF_congr (fun i hi => ?_)
        show _ = (if i = x then _ else _)
        rw [if_neg]
        intro e
        cases hso : s.of with
        | nil => exact hnes hso
        | cons y b =>
          rw [hso] at hrs hi h4
          have hb := List.pairwise_cons.1 hrs
          rw [gi_head] at h4
          have h4 : x < y := h4
          rcases List.mem_cons.1 hi with h5 | h5
          · omega
          · have := hb.1 i h5; omega
/-- Of equations those that are closed: they fit, their value is of so many bytes, and all of their blocks follow. -/
def closedE (all : Int) (n : Nat) (known : List Int) (e : EqV) : Bool := fitsN all e.of && decide (e.val.length = n) && e.of.all fun i => decide (i ∈ known)
def Agree (all : Int) (n : Nat) (es : List EqV) : Prop := ∃ f, ValsF n f ∧ ∀ e ∈ es, closedE all n (reachN all (es.map EqV.of)) e = true → SatE n f e
open Classical in
noncomputable def agreesN (all : Int) (n : Nat) (es : List EqV) : Bool := decide (Agree all n es)
open Classical in
theorem agreesN_yes {all : Int} {n : Nat} {es : List EqV} (h : Agree all n es) : agreesN all n es = true := by unfold agreesN; exact decide_eq_true h
open Classical in
theorem agreesN_no {all : Int} {n : Nat} {es : List EqV} (h : ¬ Agree all n es) : agreesN all n es = false := by unfold agreesN; exact decide_eq_false h
/-- What stands behind the first equations: equations in steps that hold just where these do. -/
structure Elim (all : Int) (n : Nat) (known : List Int) (es : List EqV) (tab : List EqV) : Prop where
  steps : Steps n tab
  same : ∀ f, ValsF n f → ((∀ t ∈ tab, SatE n f t) ↔ ∀ e ∈ es, closedE all n known e = true → SatE n f e)
/-- An equation that is gone through: so far it has become e. -/
structure Under (n : Nat) (tab : List EqV) (e0 e : EqV) : Prop where
  rise : e.of.Pairwise (· < ·)
  len : e.val.length = n
  same : ∀ f, ValsF n f → (∀ t ∈ tab, SatE n f t) → (SatE n f e0 ↔ SatE n f e)
variable {all : Int} {n : Nat} {known : List Int} {es tab : List EqV} {e0 e : EqV}
theorem Elim.none (all : Int) (n : Nat) (known : List Int) : Elim all n known [] [] := ⟨⟨by simp, by simp, by simp, by simp⟩, fun f _ => by simp⟩
theorem Elim.skip (h : Elim all n known es tab) (he : closedE all n known e0 = false) : Elim all n known (es ++ [e0]) tab := ⟨h.steps, fun f hf => by
  rw [h.same f hf]
  constructor
  · intro h1 e hm hc
    rcases List.mem_append.1 hm with hm | hm
    · exact h1 e hm hc
    · rw [List.mem_singleton.1 hm, he] at hc; cases hc
  · intro h1 e hm hc
    exact h1 e (List.mem_append_left _ hm) hc⟩
theorem Under.start (hc : closedE all n known e0 = true) : Under n tab e0 e0 := by
  simp only [closedE, Bool.and_eq_true, decide_eq_true_eq] at hc
  exact ⟨fitsN_rising hc.1.1, hc.1.2, fun _ _ _ => Iff.rfl⟩
theorem Under.step (ht : Steps n tab) (h : Under n tab e0 e) {p : EqV} (hp : p ∈ tab) : Under n tab e0 (addE n e p) :=
  ⟨by rw [addE_of]; exact oddN_rising _, addE_length h.len (ht.len p hp), fun f hf hs => (h.same f hf hs).trans (addE_sat hf h.len (ht.len p hp) (hs p hp)).symm⟩
theorem Under.store (hE : Elim all n known es tab) (h : Under n tab e0 e) (hc : closedE all n known e0 = true) (hne : e.of ≠ []) (hn : ∀ t ∈ tab, gi t.of 0 ≠ gi e.of 0) : Elim all n known (es ++ [e0]) (tab ++ [e]) := by
  refine ⟨⟨fun t ht => ?_, fun t ht => ?_, fun t ht => ?_, ?_⟩, fun f hf => ?_⟩
  · rcases List.mem_append.1 ht with ht | ht
    · exact hE.steps.rise t ht
    · rw [List.mem_singleton.1 ht]; exact h.rise
  · rcases List.mem_append.1 ht with ht | ht
    · exact hE.steps.some t ht
    · rw [List.mem_singleton.1 ht]; exact hne
  · rcases List.mem_append.1 ht with ht | ht
    · exact hE.steps.len t ht
    · rw [List.mem_singleton.1 ht]; exact h.len
  · rw [List.map_append, List.nodup_append]
    refine ⟨hE.steps.heads, by simp, fun a ha b hb => ?_⟩
    obtain ⟨t, ht, rfl⟩ := List.mem_map.1 ha
    simp only [List.map_cons, List.map_nil, List.mem_singleton] at hb
    rw [hb]; exact hn t ht
  · constructor
    · intro h1
      have h2 : ∀ t ∈ tab, SatE n f t := fun t ht => h1 t (List.mem_append_left _ ht)
      intro x hm hcx
      rcases List.mem_append.1 hm with hm | hm
      · exact (hE.same f hf).1 h2 x hm hcx
      · rw [List.mem_singleton.1 hm]
        exact (h.same f hf h2).2 (h1 e (by simp))
    · intro h1
      have h2 := (hE.same f hf).2 (fun x hm hcx => h1 x (List.mem_append_left _ hm) hcx)
      intro t ht
      rcases List.mem_append.1 ht with ht | ht
      · exact h2 t ht
      · rw [List.mem_singleton.1 ht]
        exact (h.same f hf h2).1 (h1 e0 (by simp) hc)
theorem sat_empty {f : Int → List UInt8} {v : List UInt8} (hv : v.length = n) : SatE n f ⟨[], v⟩ ↔ zeroB v = true := by
  unfold SatE
  show v = List.replicate n 0 ↔ _
  constructor
  · intro h; rw [h]; exact zeroB_zero n
  · intro h; have := zeroB_eq h; rw [hv] at this; exact this
theorem Under.zero (hE : Elim all n known es tab) (h : Under n tab e0 e) (hne : e.of = []) (hz : zeroB e.val = true) : Elim all n known (es ++ [e0]) tab := by
  refine ⟨hE.steps, fun f hf => ?_⟩
  constructor
  · intro h1 x hm hcx
    rcases List.mem_append.1 hm with hm | hm
    · exact (hE.same f hf).1 h1 x hm hcx
    · rw [List.mem_singleton.1 hm]
      refine (h.same f hf h1).2 ?_
      have := (sat_empty (n := n) (f := f) h.len).2 hz
      rw [show e = ⟨[], e.val⟩ by rw [← hne]]
      exact this
  · intro h1
    exact (hE.same f hf).2 (fun x hm hcx => h1 x (List.mem_append_left _ hm) hcx)
theorem Under.bad (hE : Elim all n known es tab) (h : Under n tab e0 e) (hc : closedE all n known e0 = true) (hne : e.of = []) (hz : zeroB e.val = false) {f : Int → List UInt8} (hf : ValsF n f) (h1 : ∀ x ∈ es, closedE all n known x = true → SatE n f x) : ¬ SatE n f e0 := by
  intro hs
  have h2 := (h.same f hf ((hE.same f hf).2 h1)).1 hs
  rw [show e = ⟨[], e.val⟩ by rw [← hne]] at h2
  have := (sat_empty (n := n) (f := f) h.len).1 h2
  rw [hz] at this; cases this
theorem Elim.agree (h : Elim all n (reachN all (es.map EqV.of)) es tab) : Agree all n es := by
  obtain ⟨f, h1, h2⟩ := steps_solve h.steps
  exact ⟨f, h1, (h.same f h1).1 h2⟩
theorem not_agree {es0 : List EqV} (hE : Elim all n (reachN all (es0.map EqV.of)) es tab) (h : Under n tab e0 e) (hc : closedE all n (reachN all (es0.map EqV.of)) e0 = true) (hne : e.of = []) (hz : zeroB e.val = false) (hs : ∀ x ∈ es, x ∈ es0) (h0 : e0 ∈ es0) : ¬ Agree all n es0 := by
  rintro ⟨f, hf, h1⟩
  exact Under.bad hE h hc hne hz hf (fun x hx hcx => h1 x (hs x hx) hcx) (h1 e0 h0 hc)
/-- How many steps may still come. -/
def stepsLeft (all : Int) (e : EqV) : Nat := if e.of = [] then 0 else (all - gi e.of 0).toNat + 1
theorem gi_zero_mem {l : List Int} (h : l ≠ []) : gi l 0 ∈ l := by
  cases l with
  | nil => exact absurd rfl h
  | cons x l => exact List.mem_cons_self ..
theorem stepsLeft_add {all : Int} {n : Nat} {e p : EqV} (he : e.of.Pairwise (· < ·)) (hp : p.of.Pairwise (· < ·)) (hne : e.of ≠ []) (hpe : p.of ≠ []) (hh : gi p.of 0 = gi e.of 0) (hin : ∀ y ∈ e.of, y < all) (hip : ∀ y ∈ p.of, y < all) : stepsLeft all (addE n e p) < stepsLeft all e := by
  obtain ⟨eo, ev⟩ := e
  obtain ⟨po, pv⟩ := p
  dsimp only at *
  cases eo with
  | nil => exact absurd rfl hne
  | cons x a =>
    cases po with
    | nil => exact absurd rfl hpe
    | cons y b =>
      obtain rfl : y = x := hh
      have hg := odd_heads he hp
      have hx := hin y (List.mem_cons_self ..)
      unfold stepsLeft
      rw [if_neg (show ¬ (⟨y :: a, ev⟩ : EqV).of = [] by simp)]
      split
      · omega
      · rename_i h
        have hm := gi_zero_mem h
        rw [addE_of] at hm
        have h1 := hg _ hm
        have h2 : gi (oddN (y :: a ++ y :: b)) 0 < all := by
          rcases List.mem_append.1 (oddN_sub hm) with h3 | h3
          · exact hin _ h3
          · exact hip _ h3
        rw [addE_of]
        show (all - gi (oddN (y :: a ++ y :: b)) 0).toNat + 1 < (all - gi (y :: a) 0).toNat + 1
        rw [gi_head]
        dsimp only at h1 h2
        omega
end Go.Proofs.Ytnnkfopopanfjaa

/- Equations that hold of blocks, put upon each other, hold of them: the plain law. No condition. -/
set_option linter.unusedVariables false
namespace Go.Proofs.Ytnnkfopopanfjaa

/-- A block of so many bytes: what there is of one, and zeros. -/
def padB (n : Nat) (b : List UInt8) : List UInt8 := b.take (min b.length n) ++ (List.replicate n 0).drop (min b.length n)
theorem padB_length (n : Nat) (b : List UInt8) : (padB n b).length = n := by unfold padB; rw [List.length_append, List.length_take, List.length_drop, List.length_replicate]; omega
def padsB (n : Nat) (bs : List (List UInt8)) : List (List UInt8) := bs.map (padB n)
theorem padsB_length (n : Nat) (bs : List (List UInt8)) : (padsB n bs).length = bs.length := by simp [padsB]
theorem padsB_snoc (n : Nat) (bs : List (List UInt8)) (b : List UInt8) : padsB n (bs ++ [b]) = padsB n bs ++ [padB n b] := by simp [padsB]
theorem padsB_gr (n : Nat) (bs : List (List UInt8)) (j : Nat) (h : j < bs.length) : (gr (padsB n bs) j).length = n := by
  rw [gr_eq _ _ (by rw [padsB_length]; exact h)]; simp [padsB, padB_length]
/-- Those of some numbers that are numbers of blocks. -/
def ownF (q : Nat) (is : List Int) : List Int := is.filter fun i => decide (0 ≤ i) && decide (i < (q : Int))
theorem ownF_take (q : Nat) (is : List Int) (k : Nat) (h : k < is.length) : ownF q (is.take (k + 1)) = ownF q (is.take k) ++ (if 0 ≤ gi is k ∧ gi is k < (q : Int) then [gi is k] else []) := by
  unfold ownF
  rw [take_gi2 is k h, List.filter_append]
  congr 1
  by_cases h0 : 0 ≤ gi is k <;> by_cases h1 : gi is k < (q : Int) <;> simp [h0, h1]
theorem ownF_le (q : Nat) (is : List Int) : (ownF q is).length ≤ is.length := List.length_filter_le _ _
theorem ownF_in (q : Nat) (is : List Int) : ∀ i ∈ ownF q is, 0 ≤ i ∧ i < (q : Int) := fun i hi => by
  have := (List.mem_filter.1 hi).2
  simpa using this
theorem ok_all {n : Nat} {bs : List (List UInt8)} {is : List Int} (h : ∀ i ∈ is, 0 ≤ i ∧ i < (bs.length : Int)) : is.all (okB n (padsB n bs)) = true := by
  rw [List.all_eq_true]
  intro i hi
  obtain ⟨h0, h1⟩ := h i hi
  unfold okB
  rw [decide_eq_true h0, padsB_length, decide_eq_true h1, decide_eq_true (padsB_gr n bs i.toNat (by omega))]; rfl
def eqS (n : Nat) (bs : List (List UInt8)) (is : List Int) : EqV := ⟨ownF bs.length is, sumB n (selB (padsB n bs) (ownF bs.length is))⟩
def eqsS (n : Nat) (bs : List (List UInt8)) (ofs : List (List Int)) : List EqV := ofs.map (eqS n bs)
theorem eqS_fit (n : Nat) (bs : List (List UInt8)) (is : List Int) : fitB n (selB (padsB n bs) (ownF bs.length is)) = true := allOk_fit (ok_all (ownF_in bs.length is))
theorem eqS_length (n : Nat) (bs : List (List UInt8)) (is : List Int) : (eqS n bs is).val.length = n := sumB_length (eqS_fit n bs is)
theorem eqS_holds (n : Nat) (bs : List (List UInt8)) (is : List Int) : holdsE (eqS n bs is).of (eqS n bs is).val (padsB n bs) = true :=
  (holds_iff (eqS_length n bs is) (ok_all (ownF_in bs.length is))).2 rfl
theorem eqsS_fit (n : Nat) (bs : List (List UInt8)) (ofs : List (List Int)) : fitB n (valsE (eqsS n bs ofs)) = true := by
  unfold fitB valsE eqsS
  rw [List.map_map, List.all_map, List.all_eq_true]
  intro is _
  simp [eqS_length]
theorem eqsS_in (n : Nat) (bs : List (List UInt8)) (ofs : List (List Int)) : ∀ i ∈ ofsE (eqsS n bs ofs), 0 ≤ i ∧ i < (bs.length : Int) := fun i hi => by
  obtain ⟨e, he, hi⟩ := List.mem_flatMap.1 hi
  obtain ⟨is, _, rfl⟩ := List.mem_map.1 he
  exact ownF_in bs.length is i hi
theorem selB_append (bs : List (List UInt8)) (a b : List Int) : selB bs (a ++ b) = selB bs a ++ selB bs b := by simp [selB]
theorem sum_sums (n : Nat) (bs : List (List UInt8)) (ofs : List (List Int)) : sumB n (valsE (eqsS n bs ofs)) = sumB n (selB (padsB n bs) (ofsE (eqsS n bs ofs))) := by
  induction ofs with
  | nil => rfl
  | cons is r ih =>
    show sumB n ((eqS n bs is).val :: valsE (eqsS n bs r)) = sumB n (selB (padsB n bs) ((eqS n bs is).of ++ ofsE (eqsS n bs r)))
    have h9 : fitB n (selB (padsB n bs) (eqS n bs is).of) = true := eqS_fit n bs is
    rw [sumB_cons (eqS_length n bs is), ih, selB_append, sumB_append h9]; rfl
theorem sums_hold (n : Nat) (bs : List (List UInt8)) (ofs : List (List Int)) : holdsE (oddN (ofsE (eqsS n bs ofs))) (sumB n (valsE (eqsS n bs ofs))) (padsB n bs) = true := by
  refine (holds_iff (sumB_length (eqsS_fit n bs ofs)) (ok_all (fun i hi => eqsS_in n bs ofs i (oddN_sub hi)))).2 ?_
  rw [sum_sums]
  refine (sum_odd (fun i => gr (padsB n bs) i.toNat) _ (fun i hi => ?_)).symm
  obtain ⟨h0, h1⟩ := eqsS_in n bs ofs i hi
  exact padsB_gr n bs i.toNat (by omega)
theorem twice_of (l : List Int) : oddN (l ++ l) = [] := oddN_eq List.Pairwise.nil (fun x => by
  rw [List.count_append]
  constructor
  · intro h; simp at h
  · intro h; omega)
theorem twice_val {n : Nat} {v : List UInt8} (h : v.length = n) : zeroB (sumB n [v, v]) = true := by
  rw [sumB_cons h, sumB_cons h, show sumB n [] = List.replicate n 0 from rfl, xor_zero h, xor_self]
  exact zeroB_zero _
theorem eqsS_len (n : Nat) (bs : List (List UInt8)) (ofs : List (List Int)) (h : ∀ l ∈ ofs, l.length ≤ 20) : (ofsE (eqsS n bs ofs)).length ≤ ofs.length * 20 := by
  induction ofs with
  | nil => simp [ofsE, eqsS]
  | cons is r ih =>
    have h1 := ih (fun l hl => h l (List.mem_cons_of_mem _ hl))
    have h2 := Nat.le_trans (ownF_le bs.length is) (h is (List.mem_cons_self ..))
    show ((eqS n bs is).of ++ ofsE (eqsS n bs r)).length ≤ (r.length + 1) * 20
    rw [List.length_append]
    show (ownF bs.length is).length + _ ≤ _
    omega
end Go.Proofs.Ytnnkfopopanfjaa

/- Equations that all hold of some blocks agree: the plain law. No condition. -/
set_option linter.unusedVariables false
namespace Go.Proofs.Ytnnkfopopanfjaa

/-- The blocks of so many bytes. -/
def allT (N : Nat) (bs : List (List UInt8)) (k : Nat) : List (List UInt8) := (List.range k).map fun i => padB N (gr bs i)
theorem allT_succ (N : Nat) (bs : List (List UInt8)) (k : Nat) : allT N bs (k + 1) = allT N bs k ++ [padB N (gr bs k)] := by
  unfold allT; rw [List.range_succ, List.map_append]; rfl
theorem allT_length (N : Nat) (bs : List (List UInt8)) (k : Nat) : (allT N bs k).length = k := by simp [allT]
theorem allT_gr (N : Nat) (bs : List (List UInt8)) (k i : Nat) (h : i < k) : gr (allT N bs k) i = padB N (gr bs i) := by
  rw [gr_eq _ _ (by rw [allT_length]; exact h)]; simp [allT]
theorem padB_nil (N : Nat) : padB N [] = List.replicate N 0 := by simp [padB]
theorem gr_out (bs : List (List UInt8)) (i : Nat) (h : bs.length ≤ i) : gr bs i = [] := by simp [gr, h]
def fT (N : Nat) (bs : List (List UInt8)) (x : Int) : List UInt8 := padB N (gr bs x.toNat)
theorem fT_vals (N : Nat) (bs : List (List UInt8)) : ValsF N (fT N bs) := fun x => padB_length N _
/-- What an equation's value is made of. -/
def inT (n : Nat) (of : List Int) : List Int := of.filter fun i => decide (0 ≤ i) && decide (i < (n : Int))
def eqT (n N : Nat) (bs : List (List UInt8)) (of : List Int) : EqV := ⟨of, sumF N (fT N bs) (inT n of)⟩
def eqsT (n N : Nat) (bs : List (List UInt8)) (ofs : List (List Int)) : List EqV := ofs.map (eqT n N bs)
theorem eqT_length (n N : Nat) (bs : List (List UInt8)) (of : List Int) : (eqT n N bs of).val.length = N := sumF_length (fT_vals N bs) _
theorem eqsT_of (n N : Nat) (bs : List (List UInt8)) (ofs : List (List Int)) : (eqsT n N bs ofs).map EqV.of = ofs := by
  unfold eqsT; rw [List.map_map]
  exact List.map_id ofs
theorem eqsT_agree (n N : Nat) (bs : List (List UInt8)) (ofs : List (List Int)) : agreesN (n : Int) N (eqsT n N bs ofs) = true := by
  refine agreesN_yes ⟨fT N bs, fT_vals N bs, fun e he hc => ?_⟩
  obtain ⟨of, _, rfl⟩ := List.mem_map.1 he
  unfold closedE at hc
  simp only [Bool.and_eq_true] at hc
  have hin : inT n of = of := List.filter_eq_self.2 (fun x hx => by
    have := fitsN_in hc.1.1 x hx
    simp [this.1, this.2])
  show sumF N (fT N bs) (inT n of) = sumF N (fT N bs) of
  rw [hin]
theorem sumF_snoc {n : Nat} {f : Int → List UInt8} (h : ValsF n f) (is : List Int) (x : Int) : sumF n f (is ++ [x]) = xorL (sumF n f is) (f x) := by
  rw [sumF_append h, sumF_cons h, sumF_nil, xor_zero (h x)]
theorem inT_take (n : Nat) (of : List Int) (k : Nat) (h : k < of.length) : inT n (of.take (k + 1)) = inT n (of.take k) ++ (if 0 ≤ gi of k ∧ gi of k < (n : Int) then [gi of k] else []) := by
  unfold inT
  rw [take_gi2 of k h, List.filter_append]
  congr 1
  by_cases h0 : 0 ≤ gi of k <;> by_cases h1 : gi of k < (n : Int) <;> simp [h0, h1]
end Go.Proofs.Ytnnkfopopanfjaa

/- A map with keys of type int and whatever elements, as a function from keys to values. No condition. -/
set_option linter.unusedVariables false
namespace Go.Proofs.Ytnnkfopopanfjaa
open Go.RowKit Go.Maps

/-- An element reads as itself. -/
def selfElem (v : Value) : Option (DataW Value × List MemPlace) := some (.held v, [])
/-- What a datum holds, key by key. -/
def HoldsV (D : DataW Value) (f : Int → Option Value) : Prop := ∀ x, (∀ zd, D.atKey (.int .i64 x) zd = match f x with | some v => .held v | none => zd) ∧ Maps.has D (.int .i64 x) = (f x).isSome
/-- Block b is a map of at most n entries that holds f. -/
def MapAt (w : World) (b n : Nat) (f : Int → Option Value) : Prop := ∃ D : DataW Value, w.ownsMap Try.prog 3 selfElem b n D ∧ HoldsV D f
theorem MapAt.lt {w : World} {b n : Nat} {f : Int → Option Value} (h : MapAt w b n f) : b < w.heap.size := by obtain ⟨D, h, _⟩ := h; exact h.lt
theorem MapAt.keeps {w w1 : World} {b n : Nat} {f : Int → Option Value} (h : MapAt w b n f) {S : Nat → Prop} (hk : Keeps S w w1) (hn : ¬ S b) : MapAt w1 b n f := by
  obtain ⟨D, ⟨es, clock, hb, r⟩, hf⟩ := h
  exact ⟨D, ⟨es, clock, hk.heap hb hn, r⟩, hf⟩
theorem MapAt.mono {w : World} {b n n' : Nat} {f : Int → Option Value} (h : MapAt w b n f) (hn : n ≤ n') : MapAt w b n' f := by
  obtain ⟨D, h, hf⟩ := h
  exact ⟨D, h.mono hn, hf⟩
theorem MapAt.made (w : World) : MapAt (w.alloc (.map #[] 0)) w.heap.size 0 (fun _ => none) := ⟨.map [], World.ownsMap_made w _ _ _, fun x => ⟨fun zd => rfl, rfl⟩⟩
theorem MapAt.ne_own {w : World} {b n : Nat} {f : Int → Option Value} (hm : MapAt w b n f) {base sz m : Nat} {e : TypeId} {v : Value} {xs : List Value} (h : w.ownsRow base e sz v m xs) : v.ownBlock ≠ some b := by
  obtain ⟨D, ⟨es, clock, hb, _⟩, _⟩ := hm
  rcases h.2 with ⟨rfl, _⟩ | ⟨g, cap, cur, rfl, _, hg, _⟩
  · simp [Value.ownBlock]
  · intro e1
    have : g = b := by simpa [Value.ownBlock] using e1
    subst this
    rw [hb] at hg; cases hg
theorem MapAt.ne_cells {w : World} {b n : Nat} {f : Int → Option Value} (hm : MapAt w b n f) {g : Nat} {cs : Array Value} {T : TypeId} {fr : Nat × Nat} (h : w.heap[g]? = some (.cells cs T fr)) : g ≠ b := by
  obtain ⟨D, ⟨es, clock, hb, _⟩, _⟩ := hm
  rintro rfl
  rw [hb] at h; cases h
theorem HoldsV.put {D : DataW Value} {f : Int → Option Value} (h : HoldsV D f) (hm : Maps.IsMap D) (x : Int) (v : Value) : HoldsV (D.put (.int .i64 x) (.held v)) (fun y => if y = x then some v else f y) := fun y => by
  by_cases e : y = x
  · subst e
    refine ⟨fun zd => ?_, ?_⟩
    · rw [Maps.atKey_put_same hm (show WideAt.IsKeyLit (.int .i64 y) from trivial)]; simp
    · rw [Maps.has_put_same hm (show WideAt.IsKeyLit (.int .i64 y) from trivial)]; simp
  · have hne : (Lit.int .i64 y) ≠ .int .i64 x := fun h => e (by injection h)
    refine ⟨fun zd => ?_, ?_⟩
    · rw [Maps.atKey_put_other hne]; simp only [if_neg e]; exact (h y).1 zd
    · rw [Maps.has_put_other hne]; simp only [if_neg e]; exact (h y).2
theorem HoldsV.del {D : DataW Value} {f : Int → Option Value} (h : HoldsV D f) (hm : Maps.Tidy D) (x : Int) : HoldsV (D.del (.int .i64 x)) (fun y => if y = x then none else f y) := fun y => by
  by_cases e : y = x
  · subst e
    refine ⟨fun zd => ?_, ?_⟩
    · rw [Maps.atKey_del_same]; simp
    · rw [Maps.has_del_same]; simp
  · have hne : (Lit.int .i64 y) ≠ .int .i64 x := fun h => e (by injection h)
    refine ⟨fun zd => ?_, ?_⟩
    · rw [Maps.atKey_del_other hne]; simp only [if_neg e]; exact (h y).1 zd
    · rw [Maps.has_del_other hne]; simp only [if_neg e]; exact (h y).2
section
variable (w : World) {ops : Array Oper} {rest : List Oper} {o : Oper} {a : Act} {Q : Exit → Act → World → Prop}
/-- 'm[x]', 'v, ok := m[x]'. -/
theorem MapAt.look {w : World} {b n : Nat} {f : Int → Option Value} (h : MapAt w b n f) {t e : TypeId} (ht : Try.prog.underlying t = some (.map 3 e)) {z : Value} (hz : (zeroValue e).run Try.prog w = .ok z w) {x : Int} (hx : (Lit.int .i64 x).wf = true) :
    (Instr.lookup t (.map (some b)) (.int .i64 x) false).run Try.prog w = .ok ((f x).getD z) w ∧ (Instr.lookup t (.map (some b)) (.int .i64 x) true).run Try.prog w = .ok (.tuple #[(f x).getD z, .bool (f x).isSome]) w := by
  obtain ⟨D, hD, hf⟩ := h
  have hk : keyOf Try.prog 3 (.int .i64 x) = some (.int .i64 x) := Maps.keyOf_int_mk Try.underlying3 hx
  have fact : ∀ (v : Value) (ps : List MemPlace), selfElem v = some (D.atKey (.int .i64 x) (.held z), ps) → v = (f x).getD z := by
    intro v ps hv
    unfold selfElem at hv
    rw [(hf x).1] at hv
    cases hfx : f x with
    | none =>
      rw [hfx] at hv
      simp only [Option.some.injEq, Prod.mk.injEq, DataW.held.injEq] at hv
      exact hv.1
    | some u =>
      rw [hfx] at hv
      simp only [Option.some.injEq, Prod.mk.injEq, DataW.held.injEq] at hv
      exact hv.1
  obtain ⟨v, ps, hrun, hv⟩ := hD.lookup key_law ht hz (show selfElem z = some (.held z, []) from rfl) hk
  obtain ⟨v2, ps2, hrun2, hv2⟩ := hD.look_ok key_law ht hz (show selfElem z = some (.held z, []) from rfl) hk
  rw [fact v ps hv] at hrun
  rw [fact v2 ps2 hv2, (hf x).2] at hrun2
  exact ⟨hrun, hrun2⟩
theorem wpList_look_at (hg : o.guard = none) (m k : Operand) (t : TypeId) (hop : o.op = Op.lookup t m k false) (e : TypeId) (ht : Try.prog.underlying t = some (.map 3 e)) (z : Value) (hz : (zeroValue e).run Try.prog w = .ok z w) (b n : Nat) (f : Int → Option Value)
    (hm : a.eval m = .map (some b)) (h : MapAt w b n f) (x : Int) (hx : a.eval k = .int .i64 x) (hwf : (Lit.int .i64 x).wf = true) (u : Value) (hu : (f x).getD z = u)
    (hK : wpList Try.prog ops Q rest (a.put o.dst u) w) : wpList Try.prog ops Q (o :: rest) a w := by
  refine wpList_plain hg fun K' hK' => ?_
  have hrun := (h.look ht hz hwf).1
  rw [hu] at hrun
  unfold Oper.wp
  simp [execOp, hop, hm, hx, hrun, Result.andThen]
  exact hK' _ _ hK
theorem wpList_look_ok_at (hg : o.guard = none) (m k : Operand) (t : TypeId) (hop : o.op = Op.lookup t m k true) (e : TypeId) (ht : Try.prog.underlying t = some (.map 3 e)) (z : Value) (hz : (zeroValue e).run Try.prog w = .ok z w) (b n : Nat) (f : Int → Option Value)
    (hm : a.eval m = .map (some b)) (h : MapAt w b n f) (x : Int) (hx : a.eval k = .int .i64 x) (hwf : (Lit.int .i64 x).wf = true) (u : Value) (hu : (f x).getD z = u) (r : Bool) (hr : (f x).isSome = r)
    (hK : wpList Try.prog ops Q rest (a.put o.dst (.tuple #[u, .bool r])) w) : wpList Try.prog ops Q (o :: rest) a w := by
  refine wpList_plain hg fun K' hK' => ?_
  have hrun := (h.look ht hz hwf).2
  rw [hu, hr] at hrun
  unfold Oper.wp
  simp [execOp, hop, hm, hx, hrun, Result.andThen]
  exact hK' _ _ hK
/-- 'm[x] = v'. -/
theorem MapAt.store {w : World} {b n : Nat} {f : Int → Option Value} (h : MapAt w b n f) {t e : TypeId} (ht : Try.prog.underlying t = some (.map 3 e)) (hn : n < maxLen) {x : Int} (hx : (Lit.int .i64 x).wf = true) (v : Value) :
    ∃ w', (Instr.mapUpdate t (.map (some b)) (.int .i64 x) v).run Try.prog w = .ok () w' ∧ MapAt w' b (n + 1) (fun y => if y = x then some v else f y) ∧ w.grownBy w' (some b) ∧ w'.heap.size = w.heap.size := by
  obtain ⟨D, hD, hf⟩ := h
  obtain ⟨w', h1, h2, h3⟩ := hD.store key_law ht hn (Maps.keyOf_int_mk Try.underlying3 hx) (show selfElem v = some (.held v, []) from rfl)
  refine ⟨w', h1, ⟨_, h2, hf.put hD.isMap x v⟩, h3.grown, ?_⟩
  obtain ⟨es, clock, es', clock', hb, rfl⟩ := h3
  simp [ChangeMaps.setBlock]
theorem wpList_put_at (hg : o.guard = none) (m k v : Operand) (t : TypeId) (hop : o.op = Op.mapUpdate t m k v) (e : TypeId) (ht : Try.prog.underlying t = some (.map 3 e)) (b n : Nat) (f : Int → Option Value)
    (hm : a.eval m = .map (some b)) (h : MapAt w b n f) (hn : n < maxLen) (x : Int) (hx : a.eval k = .int .i64 x) (hwf : (Lit.int .i64 x).wf = true)
    (hK : ∀ w', MapAt w' b (n + 1) (fun y => if y = x then some (a.eval v) else f y) → w.grownBy w' (some b) → w'.heap.size = w.heap.size → wpList Try.prog ops Q rest (a.put o.dst undef) w') : wpList Try.prog ops Q (o :: rest) a w := by
  refine wpList_plain hg fun K' hK' => ?_
  obtain ⟨w', hrun, r1, r2, r3⟩ := h.store ht hn hwf (a.eval v)
  unfold Oper.wp
  simp [execOp, hop, hm, hx, hrun, Result.andThen]
  exact hK' _ _ (hK w' r1 r2 r3)
/-- The same in a region that draws its order. -/
theorem step_put_at {w : World} {K : Act → World → Prop} {E : Prop} (hg : o.guard = none) (m k v : Operand) (t : TypeId) (hop : o.op = Op.mapUpdate t m k v) (e : TypeId) (ht : Try.prog.underlying t = some (.map 3 e)) (b n : Nat) (f : Int → Option Value)
    (hm : a.eval m = .map (some b)) (h : MapAt w b n f) (hn : n < maxLen) (x : Int) (hx : a.eval k = .int .i64 x) (hwf : (Lit.int .i64 x).wf = true) (val : Value) (hv : a.eval v = val)
    (hK : ∀ w', MapAt w' b (n + 1) (fun y => if y = x then some val else f y) → w.grownBy w' (some b) → w'.heap.size = w.heap.size → K (a.put o.dst undef) w') :
    if Region.wanted o (yielded ops a.tmps) = true then Oper.wp Try.prog o a w K Q else E := by
  have hw : Region.wanted o (yielded ops a.tmps) = true := by simp [Region.wanted, hg]
  rw [if_pos hw]
  obtain ⟨w', hrun, r1, r2, r3⟩ := h.store ht hn hwf val
  unfold Oper.wp
  simp [execOp, hop, hm, hx, hv, hrun, Result.andThen]
  exact hK w' r1 r2 r3
/-- 'delete(m, x)'. -/
theorem MapAt.drop {w : World} {b n : Nat} {f : Int → Option Value} (h : MapAt w b n f) {t e : TypeId} (ht : Try.prog.underlying t = some (.map 3 e)) {x : Int} (hx : (Lit.int .i64 x).wf = true) (ty : TypeId) :
    ∃ w', (Builtin.delete_ #[t, 3] ty #[.map (some b), .int .i64 x]).run Try.prog w = .ok (.tuple #[]) w' ∧ MapAt w' b n (fun y => if y = x then none else f y) ∧ w.grownBy w' (some b) ∧ w'.heap.size = w.heap.size := by
  obtain ⟨D, hD, hf⟩ := h
  obtain ⟨w', h1, h2, h3⟩ := hD.drop key_law ht (Maps.keyOf_int_mk Try.underlying3 hx) ty
  refine ⟨w', h1, ⟨_, h2, hf.del (hD.tidy key_law) x⟩, h3.grown, ?_⟩
  obtain ⟨es, clock, es', clock', hb, rfl⟩ := h3
  simp [ChangeMaps.setBlock]
theorem wpList_delete_at (hg : o.guard = none) (m k : Operand) (t : TypeId) (hop : o.op = Op.call { callee := Callee.builtin Builtin.delete, args := #[m, k], argTypes := #[t, 3] }) (e : TypeId) (ht : Try.prog.underlying t = some (.map 3 e)) (b n : Nat) (f : Int → Option Value)
    (hm : a.eval m = .map (some b)) (h : MapAt w b n f) (x : Int) (hx : a.eval k = .int .i64 x) (hwf : (Lit.int .i64 x).wf = true)
    (hK : ∀ w', MapAt w' b n (fun y => if y = x then none else f y) → w.grownBy w' (some b) → w'.heap.size = w.heap.size → wpList Try.prog ops Q rest (a.put o.dst (.tuple #[])) w') : wpList Try.prog ops Q (o :: rest) a w := by
  refine wpList_plain hg fun K' hK' => ?_
  obtain ⟨w', hrun, r1, r2, r3⟩ := h.drop ht hwf o.type
  unfold Oper.wp
  simp [execOp, hop, resolve, invoke, builtin, hm, hx, hrun, Result.andThen]
  exact hK' _ _ (hK w' r1 r2 r3)
/-- 'len(m)': how many keys there are. -/
theorem keys_count {D : DataW Value} {f : Int → Option Value} {b n : Nat} {w : World} (hD : w.ownsMap Try.prog 3 selfElem b n D) (hf : HoldsV D f) {l : List Int} (hl : l.Nodup) (hm : ∀ x, x ∈ l ↔ (f x).isSome = true) : Maps.size D = l.length := by
  obtain ⟨es, rfl, hp, hk⟩ := hD.entries key_law
  have hint : ∀ p ∈ es, ∃ x : Int, p.1 = .int .i64 x := by
    intro p hpm
    obtain ⟨es0, clock, hb, F, hs, hD0⟩ := hD
    injection hD0 with hD0
    rw [hD0] at hpm
    obtain ⟨x, hx, rfl⟩ := List.mem_map.1 (mem_sorted.1 hpm)
    obtain ⟨y, hy⟩ := F.reads x hx
    obtain ⟨z, _, e, _⟩ := Maps.keyOf_int_inv Try.underlying3 (WideElems.rd_key hy)
    exact ⟨z, by rw [WideElems.rg_of hy]; exact e⟩
  have hmem : ∀ x : Int, x ∈ l ↔ (.int .i64 x) ∈ es.map Prod.fst := by
    intro x
    rw [hm x, ← (hf x).2]
    show es.any (fun p => p.1.sameKey (.int .i64 x)) = true ↔ _
    rw [List.any_eq_true, List.mem_map]
    constructor
    · rintro ⟨p, h1, h2⟩
      obtain ⟨y, hy⟩ := hint p h1
      rw [hy, same_key_int, decide_eq_true_eq] at h2
      exact ⟨p, h1, by rw [hy, h2]⟩
    · rintro ⟨p, h1, h2⟩
      exact ⟨p, h1, by rw [h2, same_key_int]; simp⟩
  have hnd : (es.map Prod.fst).Nodup := by
    unfold List.Nodup
    rw [List.pairwise_map]
    exact hp
  have hperm : (l.map (Lit.int .i64)).Perm (es.map Prod.fst) := by
    refine (List.perm_ext_iff_of_nodup ?_ hnd).2 ?_
    · unfold List.Nodup
      rw [List.pairwise_map]
      exact hl.imp (fun h e => h (by injection e))
    · intro k
      rw [List.mem_map]
      constructor
      · rintro ⟨x, hx, rfl⟩; exact (hmem x).1 hx
      · intro hk
        obtain ⟨p, hp1, rfl⟩ := List.mem_map.1 hk
        obtain ⟨y, hy⟩ := hint p hp1
        exact ⟨y, (hmem y).2 (by rw [← hy]; exact List.mem_map.2 ⟨p, hp1, rfl⟩), hy.symm⟩
  have := hperm.length_eq
  rw [List.length_map, List.length_map] at this
  show es.length = l.length
  omega
theorem wpList_len_at (hg : o.guard = none) (m : Operand) (t : TypeId) (hop : o.op = Op.call { callee := Callee.builtin Builtin.len, args := #[m], argTypes := #[t] }) (e : TypeId) (ht : Try.prog.underlying t = some (.map 3 e)) (b n : Nat) (f : Int → Option Value)
    (hm : a.eval m = .map (some b)) (h : MapAt w b n f) (l : List Int) (hl : l.Nodup) (hlm : ∀ x, x ∈ l ↔ (f x).isSome = true)
    (hK : wpList Try.prog ops Q rest (a.put o.dst (.int .i64 (l.length : Int))) w) : wpList Try.prog ops Q (o :: rest) a w := by
  obtain ⟨D, hD, hf⟩ := h
  refine wpList_len_own w hg m t hop 3 e ht selfElem b n D hm hD ?_
  rw [keys_count hD hf hl hlm]
  exact hK
end
end Go.Proofs.Ytnnkfopopanfjaa

/- closure.Agrees' memory: the equations in steps, in a map by their heads. No condition. -/
set_option linter.unusedVariables false
namespace Go.Proofs.Ytnnkfopopanfjaa
open Go.RowKit

def Any : Nat → Prop := fun _ => True
theorem IntsIn.setBox {w : World} {A : Option Addr} {xs : List Int} {b : Nat} {A0 A1 : Option Addr} {n0 c0 n1 c1 : Nat} {T : TypeId} {fr : Nat × Nat} (h : IntsIn Any w A xs) (hb : w.heap[b]? = some (.cells #[.slice A0 n0 c0, .slice A1 n1 c1] T fr)) (x y : Value) : IntsIn Any ((w.setCell ⟨b, 0, none⟩ x).setCell ⟨b, 1, none⟩ y) A xs :=
  ⟨h.1.setBox hb x y, h.2⟩
theorem PairIn.setBox {w : World} {u1 u2 : Value} {e : EqV} {b : Nat} {A0 A1 : Option Addr} {n0 c0 n1 c1 : Nat} {T : TypeId} {fr : Nat × Nat} (h : PairIn Any w u1 u2 e) (hb : w.heap[b]? = some (.cells #[.slice A0 n0 c0, .slice A1 n1 c1] T fr)) (x y : Value) : PairIn Any ((w.setCell ⟨b, 0, none⟩ x).setCell ⟨b, 1, none⟩ y) u1 u2 e := by
  obtain ⟨⟨A, c, h1, h2, h3, h4⟩, ⟨B, d, g1, g2, g3, g4⟩⟩ := h
  exact ⟨⟨A, c, h1, h2, h3, h4.setBox hb x y⟩, ⟨B, d, g1, g2, g3, g4.1.setBox hb x y, g4.2⟩⟩
theorem PairIn.any {R : Nat → Prop} {w : World} {u1 u2 : Value} {e : EqV} (h : PairIn R w u1 u2 e) : PairIn Any w u1 u2 e := h.mono (fun _ _ _ => trivial)
theorem PairIn.form {R : Nat → Prop} {w : World} {u1 u2 : Value} {e : EqV} (h : PairIn R w u1 u2 e) : ∃ A c B d, u1 = .slice A e.of.length c ∧ u2 = .slice B e.val.length d ∧ IntsAt w .i64 A e.of ∧ BytesIn R w B e.val ∧ (B = none → d = 0) := by
  obtain ⟨⟨A, c, h1, h2, h3, h4⟩, ⟨B, d, g1, g2, g3, g4⟩⟩ := h
  exact ⟨A, c, B, d, h1, g1, h4.1, g4, g3⟩
/-- The equations in steps, by their heads. -/
def ATab (w : World) (b n : Nat) (tab : List EqV) : Prop := ∃ g, MapAt w b n g ∧ (∀ x, (g x).isSome = true ↔ ∃ t ∈ tab, gi t.of 0 = x) ∧ ∀ t ∈ tab, ∃ v1 v2, g (gi t.of 0) = some (.agg #[v1, v2]) ∧ PairIn Any w v1 v2 t
theorem ATab.kept {w w1 : World} {b n : Nat} {tab : List EqV} (h : ATab w b n tab) (hk : Keeps NoB w w1) : ATab w1 b n tab := by
  obtain ⟨g, h1, h2, h3⟩ := h
  refine ⟨g, h1.keeps hk (fun h => h), h2, fun t ht => ?_⟩
  obtain ⟨v1, v2, h4, h5⟩ := h3 t ht
  exact ⟨v1, v2, h4, h5.kept hk⟩
theorem ATab.setBox {w : World} {b n : Nat} {tab : List EqV} (h : ATab w b n tab) {p : Nat} {A0 A1 : Option Addr} {n0 c0 n1 c1 : Nat} {T : TypeId} {fr : Nat × Nat} (hb : w.heap[p]? = some (.cells #[.slice A0 n0 c0, .slice A1 n1 c1] T fr)) (x y : Value) : ATab ((w.setCell ⟨p, 0, none⟩ x).setCell ⟨p, 1, none⟩ y) b n tab := by
  obtain ⟨g, h1, h2, h3⟩ := h
  have hne := h1.ne_cells hb
  have hk : Keeps (· = p) w ((w.setCell ⟨p, 0, none⟩ x).setCell ⟨p, 1, none⟩ y) := ((Keeps.refl (· = p) w).setCell (p := ⟨p, 0, none⟩) (fun _ => rfl) x).setCell (p := ⟨p, 1, none⟩) (fun _ => rfl) y
  refine ⟨g, h1.keeps hk (fun e => hne e.symm), h2, fun t ht => ?_⟩
  obtain ⟨v1, v2, h4, h5⟩ := h3 t ht
  exact ⟨v1, v2, h4, h5.setBox hb x y⟩
theorem ATab.made (w : World) : ATab (w.alloc (.map #[] 0)) w.heap.size 0 [] := ⟨_, MapAt.made w, fun x => by simp, fun t ht => by simp at ht⟩
/-- What lies in blocks of cells stays while a map is written. -/
theorem PairIn.map_put {w w1 : World} {b n : Nat} {f : Int → Option Value} {u1 u2 : Value} {e : EqV} (h : PairIn Any w u1 u2 e) (hm : MapAt w b n f) (hg : w.grownBy w1 (some b)) : PairIn Any w1 u1 u2 e := by
  have key : ∀ {k : IntKind} {A : Option Addr} {xs : List Int}, IntsAt w k A xs → IntsAt w1 k A xs := by
    intro k A xs hx
    refine hx.keeps (Keeps.ofGrown hg) (fun c off eA h0 eb => ?_)
    obtain ⟨c', off', e', hc⟩ := hx.2 h0
    obtain ⟨rfl, rfl⟩ : c' = c ∧ off' = off := by rw [e'] at eA; simpa using eA
    injection eb with eb
    subst eb
    obtain ⟨D, ⟨es, clock, hb, _⟩, _⟩ := hm
    have := hc 0 h0
    unfold World.cell? at this
    rw [hb] at this
    cases this
  obtain ⟨⟨A, c, h1, h2, h3, h4⟩, ⟨B, d, g1, g2, g3, g4⟩⟩ := h
  exact ⟨⟨A, c, h1, h2, h3, key h4.1, h4.2⟩, ⟨B, d, g1, g2, g3, key g4.1, g4.2⟩⟩
theorem ATab.has {w : World} {b n : Nat} {tab : List EqV} (h : ATab w b n tab) : ∃ g, MapAt w b n g ∧ (∀ x, (g x).isSome = true ↔ ∃ t ∈ tab, gi t.of 0 = x) ∧ ∀ t ∈ tab, ∃ v1 v2, g (gi t.of 0) = some (.agg #[v1, v2]) ∧ PairIn Any w v1 v2 t := h
theorem ATab.put {w w1 : World} {b n : Nat} {tab : List EqV} {g : Int → Option Value} {e : EqV} {v1 v2 : Value} (h1 : MapAt w b n g) (h2 : ∀ x, (g x).isSome = true ↔ ∃ t ∈ tab, gi t.of 0 = x) (h3 : ∀ t ∈ tab, ∃ v1 v2, g (gi t.of 0) = some (.agg #[v1, v2]) ∧ PairIn Any w v1 v2 t)
    (hp : PairIn Any w v1 v2 e) (hn : ∀ t ∈ tab, gi t.of 0 ≠ gi e.of 0) (hm : MapAt w1 b (n + 1) (fun y => if y = gi e.of 0 then some (.agg #[v1, v2]) else g y)) (hg : w.grownBy w1 (some b)) : ATab w1 b (n + 1) (tab ++ [e]) := by
  refine ⟨_, hm, fun x => ?_, fun t ht => ?_⟩
  · by_cases ex : x = gi e.of 0
    · rw [if_pos ex]
      constructor
      · intro _; exact ⟨e, by simp, ex.symm⟩
      · intro _; rfl
    · rw [if_neg ex, h2 x]
      constructor
      · rintro ⟨t, ht, e2⟩; exact ⟨t, List.mem_append_left _ ht, e2⟩
      · rintro ⟨t, ht, e2⟩
        rcases List.mem_append.1 ht with ht | ht
        · exact ⟨t, ht, e2⟩
        · rw [List.mem_singleton.1 ht] at e2; exact absurd e2.symm ex
  · rcases List.mem_append.1 ht with ht | ht
    · obtain ⟨u1, u2, h4, h5⟩ := h3 t ht
      exact ⟨u1, u2, by rw [if_neg (hn t ht)]; exact h4, h5.map_put h1 hg⟩
    · rw [List.mem_singleton.1 ht]
      exact ⟨v1, v2, by rw [if_pos rfl], hp.map_put h1 hg⟩
/-- Two equations, laid one behind the other. -/
theorem eqs_pair {w : World} {u1 u2 p1 p2 : Value} {e p : EqV} {T : TypeId} (h : PairIn Any w u1 u2 e) (k : PairIn Any w p1 p2 p) : EqsIn Any (w.alloc (.cells #[u1, u2, p1, p2] T)) (some ⟨w.heap.size, 0, none⟩) [e, p] := by
  have hk := (Keeps.refl NoB w).alloc (.cells #[u1, u2, p1, p2] T)
  refine ⟨by simp, fun _ => ⟨w.heap.size, 0, rfl, trivial, fun j hj => ?_⟩⟩
  have hh := heap_alloc_new w (.cells #[u1, u2, p1, p2] T)
  match j, hj with
  | 0, _ => exact ⟨u1, u2, by unfold World.cell?; rw [hh]; rfl, by unfold World.cell?; rw [hh]; rfl, (h.kept hk).1, (h.kept hk).2⟩
  | 1, _ => exact ⟨p1, p2, by unfold World.cell?; rw [hh]; rfl, by unfold World.cell?; rw [hh]; rfl, (k.kept hk).1, (k.kept hk).2⟩
end Go.Proofs.Ytnnkfopopanfjaa
