/- What is drawn: no two alike, each below; sorted it rises. Plain lists; no condition. -/
import Derived.Test.YtpkkaicpbihjfaaRefSome
import Derived.Test.YtpkkaicpbihjfaaSort
set_option linter.unusedVariables false
namespace Go.Proofs.Ytpkkaicpbihjfaa
open Go.RowKit

theorem drawN_apart (s lo i : Nat) : (drawN s lo i).2.Nodup ∧ ∀ y ∈ (drawN s lo i).2, 0 ≤ y ∧ y < (lo : Int) + i := by
  induction i with
  | zero => exact ⟨List.nodup_nil, fun y hy => by cases hy⟩
  | succ i ih =>
    obtain ⟨h1, h2⟩ := ih
    have hx := belowN_below (drawN s lo i).1 (lo + i + 1) (by omega)
    have e : (drawN s lo (i + 1)).2 = (drawN s lo i).2 ++ [pickN (drawN s lo i).2 (lo + i) (belowN (drawN s lo i).1 (lo + i + 1)).2] := rfl
    rw [e]
    generalize (drawN s lo i).2 = l at *
    generalize (belowN (drawN s lo i).1 (lo + i + 1)).2 = x at *
    have hp : ¬ pickN l (lo + i) x ∈ l ∧ 0 ≤ pickN l (lo + i) x ∧ pickN l (lo + i) x < (lo : Int) + i + 1 := by
      unfold pickN
      split
      · refine ⟨fun h => ?_, by omega, by omega⟩
        have := (h2 _ h).2; omega
      · rename_i hn; exact ⟨hn, by omega, by omega⟩
    refine ⟨?_, ?_⟩
    · rw [List.nodup_append]
      refine ⟨h1, by simp, fun a ha b hb e => ?_⟩
      rw [List.mem_singleton] at hb
      subst hb; subst e
      exact hp.1 ha
    · intro y hy
      rw [List.mem_append, List.mem_singleton] at hy
      rcases hy with hy | rfl
      · have := h2 y hy; omega
      · omega
theorem ins_perm (n : Int) (l : List Int) : (ins n l).Perm (n :: l) := by
  induction l with
  | nil => exact List.Perm.refl _
  | cons x r ih =>
    unfold ins
    split
    · exact List.Perm.refl _
    · exact (ih.cons x).trans (List.Perm.swap n x r)
theorem ins_sorted (n : Int) (l : List Int) (h : l.Pairwise (· ≤ ·)) : (ins n l).Pairwise (· ≤ ·) := by
  induction l with
  | nil => simp [ins]
  | cons x r ih =>
    obtain ⟨h1, h2⟩ := List.pairwise_cons.1 h
    unfold ins
    split
    · rename_i hlt
      refine List.pairwise_cons.2 ⟨fun y hy => ?_, h⟩
      rcases List.mem_cons.1 hy with rfl | hy
      · omega
      · have := h1 y hy; omega
    · rename_i hlt
      refine List.pairwise_cons.2 ⟨fun y hy => ?_, ih h2⟩
      rcases (mem_ins n y r).1 hy with rfl | hy
      · omega
      · exact h1 y hy
theorem srt_perm (l : List Int) : (srt l).Perm l := by
  suffices h : ∀ (l a : List Int), (l.foldl (fun a y => ins y a) a).Perm (a ++ l) by simpa [srt] using h l []
  intro l
  induction l with
  | nil => intro a; simp
  | cons y r ih =>
    intro a
    rw [List.foldl_cons]
    refine (ih _).trans ?_
    refine ((ins_perm y a).append_right r).trans ?_
    exact (List.perm_middle (a := y) (l₁ := a) (l₂ := r)).symm
theorem srt_sorted (l : List Int) : (srt l).Pairwise (· ≤ ·) := by
  suffices h : ∀ (l a : List Int), a.Pairwise (· ≤ ·) → (l.foldl (fun a y => ins y a) a).Pairwise (· ≤ ·) from h l [] List.Pairwise.nil
  intro l
  induction l with
  | nil => intro a h; exact h
  | cons y r ih => intro a h; exact ih _ (ins_sorted y a h)
/-- Two lists that rise, of the same numbers, are one. -/
theorem sorted_unique : ∀ (l m : List Int), l.Perm m → l.Pairwise (· ≤ ·) → m.Pairwise (· ≤ ·) → l = m
  | [], m, hp, _, _ => by rw [List.nil_perm.1 hp]
  | x :: l, m, hp, hl, hm => by
    cases m with
    | nil => exact absurd hp.length_eq (by simp)
    | cons y m =>
      obtain ⟨h1, h2⟩ := List.pairwise_cons.1 hl
      obtain ⟨k1, k2⟩ := List.pairwise_cons.1 hm
      have e : x = y := by
        have hx : x ∈ y :: m := hp.mem_iff.1 List.mem_cons_self
        have hy : y ∈ x :: l := hp.mem_iff.2 List.mem_cons_self
        rcases List.mem_cons.1 hx with e | hx
        · exact e
        · rcases List.mem_cons.1 hy with e | hy
          · exact e.symm
          · have := h1 y hy; have := k1 x hx; omega
      subst e
      rw [sorted_unique l m (hp.cons_inv) h2 k2]
theorem srtM_perm (l : List Int) : (srtM l).Perm l := List.mergeSort_perm l _
theorem srtM_sorted (l : List Int) : (srtM l).Pairwise (· ≤ ·) := by
  have := List.pairwise_mergeSort (le := fun x y : Int => decide (x ≤ y)) (fun a b c h1 h2 => by simp at *; omega) (fun a b => by simp; omega) l
  exact this.imp (fun h => by simpa using h)
theorem srtM_eq (l : List Int) : srtM l = srt l := sorted_unique _ _ ((srtM_perm l).trans (srt_perm l).symm) (srtM_sorted l) (srt_sorted l)
/-- No two alike: then it rises. -/
theorem rising_of {l : List Int} (h : l.Pairwise (· ≤ ·)) (hn : l.Nodup) : l.Pairwise (· < ·) := by
  have := h.and hn
  exact this.imp (fun ⟨h1, h2⟩ => by omega)
theorem someN_length (s : Nat) (below many : Int) : (someN s below many).length = cntN below many := by unfold someN; rw [srt_length, drawN_length]
theorem someN_sorted (s : Nat) (below many : Int) : (someN s below many).Pairwise (· ≤ ·) := srt_sorted _
theorem someN_rising (s : Nat) (below many : Int) : (someN s below many).Pairwise (· < ·) :=
  rising_of (srt_sorted _) ((srt_perm _).nodup_iff.2 (drawN_apart s _ _).1)
theorem someN_below (s : Nat) (below many : Int) : ∀ y ∈ someN s below many, 0 ≤ y ∧ y < below := by
  intro y hy
  have h := (drawN_apart s (loN below many) (cntN below many)).2 y ((mem_srt _ _).1 hy)
  have h2 : (loN below many : Int) + cntN below many ≤ below ∨ cntN below many = 0 := by
    unfold loN cntN at *
    split <;> omega
  rcases h2 with h2 | h2
  · omega
  · have : (drawN s (loN below many) (cntN below many)).2 = [] := List.length_eq_zero_iff.1 (by rw [drawN_length, h2])
    rw [someN, this] at hy
    cases hy
/-- As many numbers as there can be below n, rising, are all of them. -/
theorem all_of (n : Nat) : ∀ (k : Nat) (l : List Int), l.length = n → l.Pairwise (· < ·) → (∀ y ∈ l, (k : Int) ≤ y ∧ y < (k : Int) + n) → l = (List.range n).map (fun i => ((k + i : Nat) : Int)) := by
  induction n with
  | zero => intro k l hl _ _; rw [List.length_eq_zero_iff.1 hl]; rfl
  | succ n ih =>
    intro k l hl hr hb
    cases l with
    | nil => simp at hl
    | cons x r =>
      obtain ⟨h1, h2⟩ := List.pairwise_cons.1 hr
      have hr0 := ih (k + 1) r (by simpa using hl) h2 (fun y hy => ⟨by have := h1 y hy; have := (hb x List.mem_cons_self).1; omega, by have := (hb y (List.mem_cons_of_mem _ hy)).2; omega⟩)
      have hx : x = (k : Int) := by
        rcases Nat.eq_zero_or_pos n with rfl | hn
        · have := hb x List.mem_cons_self; omega
        · have hm : ((k + 1 + 0 : Nat) : Int) ∈ r := by rw [hr0]; exact List.mem_map.2 ⟨0, List.mem_range.2 hn, rfl⟩
          have := h1 _ hm; have := (hb x List.mem_cons_self).1; omega
      rw [List.range_succ_eq_map, List.map_cons, List.map_map, hr0, hx]
      congr 1
      apply List.map_congr_left
      intro i _
      simp only [Function.comp_apply]
      omega
theorem someN_all (s n : Nat) : someN s n n = (List.range n).map (fun i : Nat => (i : Int)) := by
  have hl : (someN s (n : Int) (n : Int)).length = n := by rw [someN_length]; unfold cntN; simp
  have := all_of n 0 _ hl (someN_rising s n n) (fun y hy => by have := someN_below s n n y hy; omega)
  simpa using this
end Go.Proofs.Ytpkkaicpbihjfaa
