/- The equations of a law's argument, by their places, as a graph. No condition. -/
import Derived.Test.YtnoooeeciebhfaaGraphOk
import Derived.Test.YtnoooeeciebhfaaRows2
set_option linter.unusedVariables false
namespace Go.Proofs.Ytnoooeeciebhfaa
open Go.RowKit

theorem GOk.mono {w : World} {base gb n n' : Nat} {F : GF} {c p : Int} (h : GOk w base gb n F c p) (hn : n ≤ n') (hs : n' ≤ 900000000) : GOk w base gb n' F c p := ⟨h.st.mono hn, h.cnt, h.le, by have := h.top; omega, hs⟩
theorem gl_in {ls : List (List Int)} {k : Nat} (h : k < ls.length) : gl ls k ∈ ls := by rw [gl_eq ls k h]; exact List.getElem_mem h
/-- Equation i has the blocks of list i, if any. -/
def repE (ls : List (List Int)) : GF := fun x => if 0 ≤ x ∧ x.toNat < ls.length ∧ gl ls x.toNat ≠ [] then some (fun y => decide (y ∈ gl ls x.toNat)) else none
theorem repE_nil : repE [] = fun _ => none := by
  funext x
  unfold repE
  rw [if_neg]
  rintro ⟨_, h, _⟩
  simp at h
theorem gl_snoc_lt (ls : List (List Int)) (l : List Int) {i : Nat} (h : i < ls.length) : gl (ls ++ [l]) i = gl ls i := by
  unfold gl
  rw [List.getD_eq_getElem?_getD, List.getD_eq_getElem?_getD, List.getElem?_append_left h]
theorem gl_snoc_eq (ls : List (List Int)) (l : List Int) : gl (ls ++ [l]) ls.length = l := by
  unfold gl
  rw [List.getD_eq_getElem?_getD, List.getElem?_append_right (Nat.le_refl _)]
  simp
theorem repE_out (ls : List (List Int)) : repE ls (ls.length : Int) = none := by
  unfold repE
  rw [if_neg]
  rintro ⟨_, h, _⟩
  simp at h
theorem repE_ok (ls : List (List Int)) (l : List Int) : okA (repE ls) (ls.length : Int) l = !l.isEmpty := by
  unfold okA
  rw [repE_out]
  simp
theorem repE_add (ls : List (List Int)) (l : List Int) : addG (repE ls) (ls.length : Int) l = repE (ls ++ [l]) := by
  unfold addG
  rw [repE_ok]
  funext x
  unfold repE
  by_cases hx : x = (ls.length : Int)
  · subst hx
    cases l with
    | nil => simp [gl_snoc_eq]
    | cons y l =>
      rw [if_pos (by rfl)]
      show updF _ _ _ _ = _
      rw [updF_same]
      simp [gl_snoc_eq]
  · have h1 : (0 ≤ x ∧ x.toNat < ls.length ∧ gl ls x.toNat ≠ []) ↔ (0 ≤ x ∧ x.toNat < (ls ++ [l]).length ∧ gl (ls ++ [l]) x.toNat ≠ []) := by
      constructor
      · rintro ⟨h1, h2, h3⟩
        exact ⟨h1, by simp; omega, by rw [gl_snoc_lt ls l h2]; exact h3⟩
      · rintro ⟨h1, h2, h3⟩
        have h2' : x.toNat < ls.length := by simp at h2; omega
        exact ⟨h1, h2', by rw [gl_snoc_lt ls l h2'] at h3; exact h3⟩
    have h2 : (if (!l.isEmpty) = true then addK (repE ls) (ls.length : Int) l else repE ls) x = repE ls x := by
      by_cases hl : (!l.isEmpty) = true
      · rw [if_pos hl]
        exact updF_ne _ _ hx
      · rw [if_neg hl]
    have h3 : ∀ G : GF, G x = repE ls x → G x = if 0 ≤ x ∧ x.toNat < (ls ++ [l]).length ∧ gl (ls ++ [l]) x.toNat ≠ [] then some (fun y => decide (y ∈ gl (ls ++ [l]) x.toNat)) else none := by
      intro G hG
      rw [hG]
      unfold repE
      by_cases hc : 0 ≤ x ∧ x.toNat < ls.length ∧ gl ls x.toNat ≠ []
      · rw [if_pos hc, if_pos (h1.1 hc), gl_snoc_lt ls l hc.2.1]
      · rw [if_neg hc, if_neg (fun h => hc (h1.2 h))]
    exact h3 _ h2
/-- How many lists have something. -/
def neN (ls : List (List Int)) : Nat := (ls.filter fun l => !l.isEmpty).length
theorem neN_snoc (ls : List (List Int)) (l : List Int) : neN (ls ++ [l]) = if (!l.isEmpty) = true then neN ls + 1 else neN ls := by
  unfold neN
  rw [List.filter_append, List.length_append]
  by_cases h : (!l.isEmpty) = true
  · rw [if_pos h, List.filter_cons, if_pos h]; rfl
  · rw [if_neg h, List.filter_cons, if_neg h]; rfl
theorem neN_le (ls : List (List Int)) : neN ls ≤ ls.length := List.length_filter_le _ _
theorem repE_keys (ls : List (List Int)) : ∃ K : List Int, K.Nodup ∧ (∀ x, x ∈ K ↔ (repE ls x).isSome = true) ∧ K.length = neN ls := by
  suffices H : ∀ n (ls : List (List Int)), ls.length = n → ∃ K : List Int, K.Nodup ∧ (∀ x, x ∈ K ↔ (repE ls x).isSome = true) ∧ K.length = neN ls from H _ ls rfl
  intro n
  induction n with
  | zero =>
    intro ls hl
    have := List.length_eq_zero_iff.1 hl
    subst this
    exact ⟨[], List.nodup_nil, fun x => by rw [repE_nil]; simp, rfl⟩
  | succ n ih =>
    intro ls hl
    rcases List.eq_nil_or_concat ls with h | ⟨ls', l, h⟩
    · subst h; cases hl
    · subst h
      rw [List.concat_eq_append] at hl ⊢
      rw [List.length_append] at hl
      obtain ⟨K, h1, h2, h3⟩ := ih ls' (by simpa using hl)
      rw [← repE_add, neN_snoc]
      unfold addG
      rw [repE_ok]
      by_cases hh : (!l.isEmpty) = true
      · rw [if_pos hh, if_pos hh]
        refine ⟨K ++ [(ls'.length : Int)], nodup_app h1 (by simp) (fun a ha hm => ?_), fun x => ?_, by rw [List.length_append, h3]; rfl⟩
        · rw [List.mem_singleton.1 hm, h2, repE_out] at ha; cases ha
        · rw [List.mem_append, List.mem_singleton, h2]
          unfold addK
          by_cases e : x = (ls'.length : Int)
          · rw [e, updF_same]; simp
          · rw [updF_ne _ _ e]; simp [e]
      · rw [if_neg hh, if_neg hh]
        exact ⟨K, h1, h2, h3⟩
/-- The graph without the blocks of a list. -/
def takenF (F : GF) (S : List Int) : GF := fun x => (F x).map fun s y => s y && !decide (y ∈ S)
theorem takenF_nil (F : GF) : takenF F [] = F := by
  funext x
  unfold takenF
  cases F x with
  | none => rfl
  | some s => simp
theorem takenF_isSome (F : GF) (S : List Int) (x : Int) : (takenF F S x).isSome = (F x).isSome := by
  unfold takenF
  cases F x <;> rfl
theorem takenF_take (F : GF) (S : List Int) (b : Int) : takeF (takenF F S) b = takenF F (S ++ [b]) := by
  funext x
  unfold takeF takenF
  cases F x with
  | none => rfl
  | some s =>
    simp only [Option.map_some, Option.some.injEq]
    funext y
    by_cases h1 : y = b <;> by_cases h2 : y ∈ S <;> simp [h1, h2]
theorem hasF_taken (F : GF) (S : List Int) (x y : Int) : hasF (takenF F S) x y = (hasF F x y && !decide (y ∈ S)) := by
  unfold hasF takenF
  cases F x <;> rfl
theorem hasF_repE {ls : List (List Int)} {x y : Int} (h : hasF (repE ls) x y = true) : x.toNat < ls.length ∧ y ∈ gl ls x.toNat := by
  unfold hasF repE at h
  by_cases hc : 0 ≤ x ∧ x.toNat < ls.length ∧ gl ls x.toNat ≠ []
  · rw [if_pos hc] at h
    exact ⟨hc.2.1, of_decide_eq_true h⟩
  · rw [if_neg hc] at h; cases h
theorem taken_row {ls : List (List Int)} {i : Nat} (y : Int) : hasF (takenF (repE ls) (ls.take (i + 1)).flatten) (i : Int) y = false := by
  cases h : hasF (takenF (repE ls) (ls.take (i + 1)).flatten) (i : Int) y with
  | false => rfl
  | true =>
    rw [hasF_taken, Bool.and_eq_true] at h
    obtain ⟨h1, h2⟩ := hasF_repE h.1
    have h1' : i < ls.length := by simpa using h1
    have h2' : y ∈ gl ls i := by simpa using h2
    have : y ∈ (ls.take (i + 1)).flatten := by
      rw [List.take_succ_eq_append_getElem h1', List.flatten_append]
      refine List.mem_append_right _ ?_
      rw [← gl_eq ls i h1']
      simpa using h2'
    simp [this] at h
theorem taken_all (ls : List (List Int)) (x y : Int) : hasF (takenF (repE ls) ls.flatten) x y = false := by
  cases h : hasF (takenF (repE ls) ls.flatten) x y with
  | false => rfl
  | true =>
    rw [hasF_taken, Bool.and_eq_true] at h
    obtain ⟨h1, h2⟩ := hasF_repE h.1
    have : y ∈ ls.flatten := by
      rw [gl_eq ls _ h1] at h2
      exact List.mem_flatten.2 ⟨_, List.getElem_mem h1, h2⟩
    simp [this] at h
/-- Without the first so many equations. -/
def dropE (ls : List (List Int)) (i : Nat) : GF := fun x => if x < (i : Int) then none else repE ls x
theorem dropE_zero (ls : List (List Int)) : dropE ls 0 = repE ls := by
  funext x
  unfold dropE
  by_cases h : x < (0 : Nat)
  · rw [if_pos h]
    unfold repE
    rw [if_neg]
    rintro ⟨h1, _⟩
    omega
  · rw [if_neg h]
theorem dropE_at {ls : List (List Int)} {i : Nat} (h : i < ls.length) : (dropE ls i (i : Int)).isSome = !(gl ls i).isEmpty := by
  unfold dropE
  rw [if_neg (by omega)]
  unfold repE
  simp only [Int.toNat_natCast]
  by_cases hg : gl ls i = []
  · rw [if_neg (fun hc => hc.2.2 hg), hg]; rfl
  · rw [if_pos ⟨by omega, h, hg⟩]
    have : (gl ls i).isEmpty = false := by simpa using hg
    rw [this]; rfl
theorem dropE_succ (ls : List (List Int)) (i : Nat) : updF (dropE ls i) (i : Int) none = dropE ls (i + 1) := by
  funext x
  unfold updF dropE
  by_cases h : x = (i : Int)
  · rw [if_pos h, if_pos (by omega)]
  · rw [if_neg h]
    by_cases h2 : x < (i : Int)
    · rw [if_pos h2, if_pos (by omega)]
    · rw [if_neg h2, if_neg (by omega)]
theorem dropE_all (ls : List (List Int)) : dropE ls ls.length = fun _ => none := by
  funext x
  unfold dropE
  by_cases h : x < (ls.length : Int)
  · rw [if_pos h]
  · rw [if_neg h]
    unfold repE
    rw [if_neg]
    rintro ⟨h1, h2, _⟩
    omega
end Go.Proofs.Ytnoooeeciebhfaa
