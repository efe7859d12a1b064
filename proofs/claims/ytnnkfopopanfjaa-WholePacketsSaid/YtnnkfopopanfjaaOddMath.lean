/- The numbers that are there an odd number of times, rising: plain laws. No condition. -/
import Derived.Test.YtnnkfopopanfjaaG2
set_option linter.unusedVariables false
namespace Go.Proofs.Ytnnkfopopanfjaa

/-- A number is put into rising ones, or taken out. -/
def tog (x : Int) : List Int → List Int
  | [] => [x]
  | y :: r => if x < y then x :: y :: r else if x = y then r else y :: tog x r
def oddN (l : List Int) : List Int := l.foldr tog []
theorem oddN_cons (x : Int) (l : List Int) : oddN (x :: l) = tog x (oddN l) := rfl
theorem mem_tog (x z : Int) (r : List Int) (h : r.Pairwise (· < ·)) : z ∈ tog x r ↔ ((z ∈ r ∧ z ≠ x) ∨ (z ∉ r ∧ z = x)) := by
  induction r with
  | nil => simp [tog]
  | cons y r ih =>
    have h' := List.pairwise_cons.1 h
    have ih := ih h'.2
    unfold tog
    split
    · rename_i hxy
      have hn : x ∉ y :: r := by
        intro hm
        rcases List.mem_cons.1 hm with e | hm
        · omega
        · have := h'.1 x hm; omega
      rw [List.mem_cons]
      constructor
      · rintro (e | hm)
        · exact .inr ⟨by rw [e]; exact hn, e⟩
        · exact .inl ⟨hm, fun e => hn (by rw [← e]; exact hm)⟩
      · rintro (⟨hm, _⟩ | ⟨_, e⟩)
        · exact .inr hm
        · exact .inl e
    · split
      · rename_i h1 h2
        subst h2
        have hn : x ∉ r := fun hm => by have := h'.1 x hm; omega
        rw [List.mem_cons]
        constructor
        · intro hm; exact .inl ⟨.inr hm, fun e => hn (by rw [← e]; exact hm)⟩
        · rintro (⟨e | hm, hne⟩ | ⟨hn2, e⟩)
          · exact absurd e hne
          · exact hm
          · exact absurd (.inl e) hn2
      · rename_i h1 h2
        rw [List.mem_cons, ih, List.mem_cons]
        constructor
        · rintro (e | ⟨hm, hne⟩ | ⟨hm, e⟩)
          · exact .inl ⟨.inl e, by omega⟩
          · exact .inl ⟨.inr hm, hne⟩
          · exact .inr ⟨by rintro (e2 | hm2); omega; exact hm hm2, e⟩
        · rintro (⟨e | hm, hne⟩ | ⟨hn2, e⟩)
          · exact .inl e
          · exact .inr (.inl ⟨hm, hne⟩)
          · exact .inr (.inr ⟨fun hm => hn2 (.inr hm), e⟩)
theorem tog_rising (x : Int) (r : List Int) (h : r.Pairwise (· < ·)) : (tog x r).Pairwise (· < ·) := by
  induction r with
  | nil => simp [tog]
  | cons y r ih =>
    have h' := List.pairwise_cons.1 h
    unfold tog
    split
    · rename_i hxy
      refine List.pairwise_cons.2 ⟨fun z hz => ?_, h⟩
      rcases List.mem_cons.1 hz with e | hm
      · omega
      · have := h'.1 z hm; omega
    · split
      · exact h'.2
      · rename_i h1 h2
        refine List.pairwise_cons.2 ⟨fun z hz => ?_, ih h'.2⟩
        rcases (mem_tog x z r h'.2).1 hz with ⟨hm, _⟩ | ⟨_, e⟩
        · exact h'.1 z hm
        · omega
theorem oddN_rising (l : List Int) : (oddN l).Pairwise (· < ·) := by
  induction l with
  | nil => exact List.Pairwise.nil
  | cons x l ih => exact tog_rising x _ ih
theorem mem_oddN (l : List Int) (z : Int) : z ∈ oddN l ↔ l.count z % 2 = 1 := by
  induction l with
  | nil => simp [oddN]
  | cons x l ih =>
    rw [oddN_cons, mem_tog x z _ (oddN_rising l), ih, List.count_cons]
    by_cases e : z = x
    · subst e; simp; omega
    · simp [e, show ¬ x = z from fun h => e h.symm]
theorem nodup_of_rising {l : List Int} (h : l.Pairwise (· < ·)) : l.Nodup := h.imp (fun h => by omega)
theorem rise_ext {l m : List Int} (hl : l.Pairwise (· < ·)) (hm : m.Pairwise (· < ·)) (h : ∀ x, x ∈ l ↔ x ∈ m) : l = m :=
  sorted_unique l m ((List.perm_ext_iff_of_nodup (nodup_of_rising hl) (nodup_of_rising hm)).2 h) (hl.imp (fun h => by omega)) (hm.imp (fun h => by omega))
theorem oddN_eq {l m : List Int} (hm : m.Pairwise (· < ·)) (h : ∀ x, x ∈ m ↔ l.count x % 2 = 1) : oddN l = m := rise_ext (oddN_rising l) hm (fun x => by rw [mem_oddN, h])
theorem oddN_count {l m : List Int} (h : ∀ x, l.count x % 2 = m.count x % 2) : oddN l = oddN m := oddN_eq (oddN_rising m) (fun x => by rw [mem_oddN, h])
theorem oddN_perm {l m : List Int} (h : l.Perm m) : oddN l = oddN m := oddN_count (fun x => by rw [h.count_eq])
theorem oddN_of_rising {l : List Int} (h : l.Pairwise (· < ·)) : oddN l = l := oddN_eq h (fun x => by
  have h1 : l.count x ≤ 1 := List.nodup_iff_count.1 (nodup_of_rising h) x
  constructor
  · intro hm; have := List.count_pos_iff.2 hm; omega
  · intro hm; exact List.count_pos_iff.1 (by omega))
theorem oddN_sub {l : List Int} {x : Int} (h : x ∈ oddN l) : x ∈ l := by
  have := (mem_oddN l x).1 h
  exact List.count_pos_iff.1 (by omega)
theorem oddN_length (l : List Int) : (oddN l).length ≤ l.length := by
  induction l with
  | nil => simp [oddN]
  | cons x l ih =>
    have : ∀ r : List Int, (tog x r).length ≤ r.length + 1 := fun r => by
      induction r with
      | nil => simp [tog]
      | cons y r ih => 
        unfold tog
        split
        · simp
        · split
          · simp; omega
          · simp; exact ih
    rw [oddN_cons, List.length_cons]
    exact Nat.le_trans (this _) (by omega)
/-- A run of one number behind lesser ones. -/
theorem oddN_run (l : List Int) (x : Int) (m : Nat) (h : ∀ a ∈ l, a < x) : oddN (l ++ List.replicate m x) = oddN l ++ (if m % 2 = 1 then [x] else []) := by
  have hx : ∀ a ∈ oddN l, a < x := fun a ha => h a (oddN_sub ha)
  refine oddN_eq ?_ (fun z => ?_)
  · refine List.pairwise_append.2 ⟨oddN_rising l, ?_, fun a ha b hb => ?_⟩
    · split <;> simp
    · split at hb
      · obtain rfl := List.mem_singleton.1 hb; exact hx a ha
      · simp at hb
  · rw [List.mem_append, mem_oddN, List.count_append, List.count_replicate]
    by_cases e : z = x
    · subst e
      have h0 : l.count z = 0 := List.count_eq_zero.2 (fun hm => by have := h z hm; omega)
      have h1 : z ∉ oddN l := fun hm => by have := hx z hm; omega
      rw [h0]
      by_cases hm2 : m % 2 = 1 <;> simp [hm2]
    · have : z ∉ (if m % 2 = 1 then [x] else []) := by split <;> simp [e]
      simp [this, show ¬ x = z from fun h => e h.symm]
theorem take_run (l : List Int) (i k : Nat) (hik : i ≤ k) (hk : k ≤ l.length) (x : Int) (h : ∀ j, i ≤ j → j < k → gi l j = x) : l.take k = l.take i ++ List.replicate (k - i) x := by
  have e1 : l.take k = l.take i ++ (l.take k).drop i := by
    have := (List.take_append_drop i (l.take k)).symm
    rwa [List.take_take, Nat.min_eq_left hik] at this
  rw [e1]
  congr 1
  apply List.ext_getElem
  · simp; omega
  · intro j h1 h2
    have hj : i + j < k := by simp at h1; omega
    have := h (i + j) (by omega) hj
    rw [gi_eq l (i + j) (by omega)] at this
    simp [this]
theorem sorted_gi {l : List Int} (h : l.Pairwise (· ≤ ·)) {a b : Nat} (hab : a < b) (hb : b < l.length) : gi l a ≤ gi l b := by
  rw [gi_eq l a (by omega), gi_eq l b hb]
  exact List.pairwise_iff_getElem.1 h a b (by omega) hb hab
theorem rising_gi {l : List Int} (h : l.Pairwise (· < ·)) {a b : Nat} (hab : a < b) (hb : b < l.length) : gi l a < gi l b := by
  rw [gi_eq l a (by omega), gi_eq l b hb]
  exact List.pairwise_iff_getElem.1 h a b (by omega) hb hab
/-- Up to a place all lie below what stands there. -/
def Bnd (l : List Int) (i : Nat) : Prop := i < l.length → ∀ a ∈ l.take i, a < gi l i
theorem bnd_zero (l : List Int) : Bnd l 0 := fun _ a ha => by simp at ha
/-- A run is over: what is odd till there. -/
theorem odd_step {l : List Int} (hs : l.Pairwise (· ≤ ·)) {i k : Nat} (hb : Bnd l i) (hik : i < k) (hk : k ≤ l.length) (h : ∀ j, i ≤ j → j < k → gi l j = gi l i) (hend : k < l.length → gi l k ≠ gi l i) :
    Bnd l k ∧ oddN (l.take k) = oddN (l.take i) ++ (if (k - i) % 2 = 1 then [gi l i] else []) := by
  have e1 := take_run l i k (by omega) hk (gi l i) h
  have hb1 := hb (by omega)
  refine ⟨fun hkl a ha => ?_, by rw [e1]; exact oddN_run _ _ _ hb1⟩
  have h2 : gi l i ≤ gi l k := sorted_gi hs hik hkl
  have h3 := hend hkl
  rw [e1] at ha
  rcases List.mem_append.1 ha with ha | ha
  · have := hb1 a ha; omega
  · obtain ⟨_, rfl⟩ := List.mem_replicate.1 ha; omega
theorem oddN_srtM (l : List Int) : oddN (srtM l) = oddN l := oddN_perm (srtM_perm l)

/-- A number that comes next: there an odd number of times, above the last one. -/
def Cand (l : List Int) (m : Nat) (x : Int) : Prop := l.count x % 2 = 1 ∧ (m = 0 ∨ gi (oddN l) (m - 1) < x)
theorem cand_next {l : List Int} {m : Nat} (h : m < (oddN l).length) : Cand l m (gi (oddN l) m) ∧ gi (oddN l) m ∈ l := by
  have hm := gi_mem (oddN l) m h
  refine ⟨⟨(mem_oddN l _).1 hm, ?_⟩, oddN_sub hm⟩
  rcases Nat.eq_zero_or_pos m with h0 | h0
  · exact .inl h0
  · exact .inr (rising_gi (oddN_rising l) (by omega) h)
theorem cand_none {l : List Int} {m : Nat} (hm : m ≤ (oddN l).length) (h : ∀ j, j < l.length → ¬ Cand l m (gi l j)) : m = (oddN l).length := by
  rcases Nat.lt_or_ge m (oddN l).length with hlt | hge
  · obtain ⟨h1, h2⟩ := cand_next hlt
    obtain ⟨j, hj, e⟩ := List.getElem_of_mem h2
    exact absurd (by rw [gi_eq l j hj, e]; exact h1) (h j hj)
  · omega
theorem cand_least {l : List Int} {m : Nat} {x : Int} (hc : Cand l m x) (h : ∀ j, j < l.length → Cand l m (gi l j) → x ≤ gi l j) (hm : m ≤ (oddN l).length) : m < (oddN l).length ∧ x = gi (oddN l) m := by
  have hx : x ∈ oddN l := (mem_oddN l x).2 hc.1
  obtain ⟨q, hq, e⟩ := List.getElem_of_mem hx
  have hge : m ≤ q := by
    rcases Nat.lt_or_ge q m with h1 | h1
    · exfalso
      rcases hc.2 with h0 | h2
      · omega
      · rcases Nat.lt_or_ge q (m - 1) with h3 | h3
        · have := rising_gi (oddN_rising l) h3 (by omega)
          rw [gi_eq _ q hq, e] at this; omega
        · have h4 : m - 1 = q := by omega
          rw [h4, gi_eq _ q hq, e] at h2; omega
    · exact h1
  have hlt : m < (oddN l).length := by omega
  refine ⟨hlt, ?_⟩
  obtain ⟨h1, h2⟩ := cand_next hlt
  obtain ⟨j, hj, ej⟩ := List.getElem_of_mem h2
  have hle := h j hj (by rw [gi_eq l j hj, ej]; exact h1)
  rw [gi_eq l j hj, ej] at hle
  rcases Nat.lt_or_ge m q with h3 | h3
  · have := rising_gi (oddN_rising l) h3 hq
    rw [gi_eq _ q hq, e] at this; omega
  · have h4 : m = q := by omega
    subst h4; rw [gi_eq _ m hq, e]
end Go.Proofs.Ytnnkfopopanfjaa
