/- The list of what is to be done: what stands when blocks become known one by one: the plain law. No condition. -/
import Derived.Test.YtkjaacpcnjakcaaReachMath
import Derived.Test.YtkjaacpcnjakcaaRows2
set_option linter.unusedVariables false
namespace Go.Proofs.Ytkjaacpcnjakcaa

/-- Of the first equations those that fit and have a block. -/
def posN (all : Int) (eqs : List (List Int)) (k : Nat) (x : Int) : List Nat := (List.range k).filter fun j => fitsN all (gl eqs j) && decide (x ∈ gl eqs j)
theorem posN_succ (all : Int) (eqs : List (List Int)) (k : Nat) (x : Int) : posN all eqs (k + 1) x = posN all eqs k x ++ (if fitsN all (gl eqs k) = true ∧ x ∈ gl eqs k then [k] else []) := by
  unfold posN
  rw [List.range_succ, List.filter_append]
  congr 1
  by_cases h1 : fitsN all (gl eqs k) = true <;> by_cases h2 : x ∈ gl eqs k <;> simp [h1, h2]
theorem mem_posN (all : Int) (eqs : List (List Int)) (k : Nat) (x : Int) (j : Nat) : j ∈ posN all eqs k x ↔ j < k ∧ fitsN all (gl eqs j) = true ∧ x ∈ gl eqs j := by
  simp [posN]
theorem posN_nodup (all : Int) (eqs : List (List Int)) (k : Nat) (x : Int) : (posN all eqs k x).Nodup := List.nodup_range.filter _
theorem posN_length (all : Int) (eqs : List (List Int)) (k : Nat) (x : Int) : (posN all eqs k x).length ≤ k := Nat.le_trans (List.length_filter_le _ _) (by simp)
theorem gl_mem {eqs : List (List Int)} {j : Nat} (h : j < eqs.length) : gl eqs j ∈ eqs := by rw [gl_eq eqs j h]; exact List.getElem_mem h
/-- What one more known block makes of what isn't known. -/
theorem unkN_more (known of : List Int) (n : Int) : unkN (known ++ [n]) of = (unkN known of).filter fun i => !decide (i = n) := by
  unfold unkN
  rw [List.filter_filter]
  apply List.filter_congr
  intro x _
  by_cases h1 : x ∈ known <;> by_cases h2 : x = n <;> simp [h1, h2]
theorem unkN_not (known of : List Int) (n : Int) (h : n ∉ of) : unkN (known ++ [n]) of = unkN known of := by
  rw [unkN_more]
  refine List.filter_eq_self.2 (fun x hx => ?_)
  have := ((mem_unkN known of x).1 hx).1
  have : x ≠ n := fun e => h (e ▸ this)
  simp [this]
theorem filter_ne_length (l : List Int) (n : Int) (hd : l.Nodup) (h : n ∈ l) : (l.filter fun i => !decide (i = n)).length + 1 = l.length := by
  induction l with
  | nil => simp at h
  | cons a l ih =>
    rw [List.nodup_cons] at hd
    by_cases e : a = n
    · subst e
      have : (l.filter fun i => !decide (i = a)) = l := List.filter_eq_self.2 (fun x hx => by
        have : x ≠ a := fun e => hd.1 (e ▸ hx)
        simp [this])
      simp [this]
    · have := ih hd.2 (by rcases List.mem_cons.1 h with h | h; exact absurd h.symm e; exact h)
      simp [e, this]
theorem unkN_one (known of : List Int) (n : Int) (hd : of.Nodup) (h : n ∈ of) (hk : n ∉ known) : (unkN (known ++ [n]) of).length + 1 = (unkN known of).length := by
  rw [unkN_more]
  exact filter_ne_length _ _ (hd.filter _) ((mem_unkN known of n).2 ⟨h, hk⟩)

structure Work (all : Int) (eqs : List (List Int)) (known todo left : List Int) : Prop where
  llen : left.length = eqs.length
  knows : ∀ y ∈ known, Follows all eqs y
  todos : ∀ y ∈ todo, Follows all eqs y
  lefts : ∀ j, j < eqs.length → gi left j = if fitsN all (gl eqs j) = true then ((unkN known (gl eqs j)).length : Int) else 0
  ones : ∀ j, j < eqs.length → fitsN all (gl eqs j) = true → ∀ x, unkN known (gl eqs j) = [x] → x ∈ todo
structure WorkIn (all : Int) (eqs : List (List Int)) (known : List Int) (n : Int) (i : Nat) (todo left : List Int) : Prop where
  llen : left.length = eqs.length
  knows : ∀ y ∈ known ++ [n], Follows all eqs y
  todos : ∀ y ∈ todo, Follows all eqs y
  lefts : ∀ j, j < eqs.length → gi left j = if fitsN all (gl eqs j) = true then ((unkN (if j ∈ (posN all eqs eqs.length n).take i then known ++ [n] else known) (gl eqs j)).length : Int) else 0
  ones : ∀ j, j < eqs.length → fitsN all (gl eqs j) = true → (n ∈ gl eqs j → j ∈ (posN all eqs eqs.length n).take i) → ∀ x, unkN (known ++ [n]) (gl eqs j) = [x] → x ∈ todo
variable {all : Int} {eqs : List (List Int)} {known todo left : List Int} {n : Int} {i : Nat}
theorem Work.skip (h : Work all eqs known (n :: todo) left) (hn : n ∈ known) : Work all eqs known todo left := by
  refine ⟨h.llen, h.knows, fun y hy => h.todos y (List.mem_cons_of_mem _ hy), h.lefts, fun j hj hf x hx => ?_⟩
  rcases List.mem_cons.1 (h.ones j hj hf x hx) with e | hm
  · have := ((mem_unkN known (gl eqs j) x).1 (by rw [hx]; exact List.mem_singleton.2 rfl)).2
    exact absurd (e ▸ hn) this
  · exact hm
theorem Work.start (h : Work all eqs known (n :: todo) left) (hn : n ∉ known) : WorkIn all eqs known n 0 todo left := by
  refine ⟨h.llen, fun y hy => ?_, fun y hy => h.todos y (List.mem_cons_of_mem _ hy), fun j hj => ?_, fun j hj hf hno x hx => ?_⟩
  · rcases List.mem_append.1 hy with hy | hy
    · exact h.knows y hy
    · rw [List.mem_singleton.1 hy]; exact h.todos n (by simp)
  · rw [h.lefts j hj]; simp
  · have hnn : n ∉ gl eqs j := fun hm => by simpa using hno hm
    rw [unkN_not _ _ _ hnn] at hx
    rcases List.mem_cons.1 (h.ones j hj hf x hx) with e | hm
    · have := ((mem_unkN known (gl eqs j) x).1 (by rw [hx]; exact List.mem_singleton.2 rfl)).1
      exact absurd (e ▸ this) hnn
    · exact hm
theorem WorkIn.done (h : WorkIn all eqs known n (posN all eqs eqs.length n).length todo left) : Work all eqs (known ++ [n]) todo left := by
  have ht : (posN all eqs eqs.length n).take (posN all eqs eqs.length n).length = posN all eqs eqs.length n := List.take_length
  refine ⟨h.llen, h.knows, h.todos, fun j hj => ?_, fun j hj hf x hx => h.ones j hj hf (fun hm => by rw [ht, mem_posN]; exact ⟨hj, hf, hm⟩) x hx⟩
  rw [h.lefts j hj, ht]
  by_cases hf : fitsN all (gl eqs j) = true
  · rw [if_pos hf, if_pos hf]
    by_cases hm : n ∈ gl eqs j
    · rw [if_pos ((mem_posN _ _ _ _ _).2 ⟨hj, hf, hm⟩)]
    · rw [if_neg (fun h => hm ((mem_posN _ _ _ _ _).1 h).2.2), unkN_not _ _ _ hm]
  · rw [if_neg hf, if_neg hf]
theorem Work.end_ (h : Work all eqs known [] left) : ∀ of ∈ eqs, fitsN all of = true → (unkN known of).length ≠ 1 := fun of hof hfit hl => by
  obtain ⟨j, hj, rfl⟩ := List.getElem_of_mem hof
  rw [← gl_eq eqs j hj] at hfit hl
  obtain ⟨x, hx⟩ := List.length_eq_one_iff.1 hl
  simpa using h.ones j hj hfit x hx
theorem gi_set (l : List Int) (k j : Nat) (v : Int) (hk : k < l.length) : gi (l.set k v) j = if j = k then v else gi l j := by
  unfold gi
  rw [List.getD_eq_getElem?_getD, List.getD_eq_getElem?_getD, List.getElem?_set]
  by_cases e : k = j
  · subst e; simp [hk]
  · rw [if_neg e, if_neg (fun h => e h.symm)]
/-- What is met at a step: the equation fits, has the block, and isn't among those before. -/
theorem WorkIn.now (h : WorkIn all eqs known n i todo left) (hn : n ∉ known) (hi : i < (posN all eqs eqs.length n).length) : (posN all eqs eqs.length n)[i] < eqs.length ∧ fitsN all (gl eqs (posN all eqs eqs.length n)[i]) = true ∧ gi left (posN all eqs eqs.length n)[i] - 1 = ((unkN (known ++ [n]) (gl eqs (posN all eqs eqs.length n)[i])).length : Int) := by
  obtain ⟨h1, h2, h3⟩ := (mem_posN _ _ _ _ _).1 (List.getElem_mem hi)
  refine ⟨h1, h2, ?_⟩
  have hnot : (posN all eqs eqs.length n)[i] ∉ (posN all eqs eqs.length n).take i := fun hm => by
    obtain ⟨j, hj, e⟩ := List.getElem_of_mem hm
    rw [List.getElem_take] at e
    have hj' : j < i := by rw [List.length_take] at hj; omega
    have := (List.getElem_inj (posN_nodup all eqs eqs.length n)).1 e
    omega
  rw [h.lefts _ h1, if_pos h2, if_neg hnot, ← unkN_one known _ n (nodup_of_rising (fitsN_rising h2)) h3 hn]
  omega
theorem WorkIn.step (h : WorkIn all eqs known n i todo left) (hn : n ∉ known) (hi : i < (posN all eqs eqs.length n).length) {k : Nat} (hk : (posN all eqs eqs.length n)[i] = k) :
    WorkIn all eqs known n (i + 1) (if gi left k - 1 = 1 then todo ++ unkN (known ++ [n]) (gl eqs k) else todo) (left.set k (gi left k - 1)) := by
  obtain ⟨h1, h2, h3⟩ := h.now hn hi
  rw [hk] at h1 h2 h3
  have ht : (posN all eqs eqs.length n).take (i + 1) = (posN all eqs eqs.length n).take i ++ [k] := by rw [List.take_succ_eq_append_getElem hi, hk]
  refine ⟨by rw [List.length_set]; exact h.llen, h.knows, fun y hy => ?_, fun j hj => ?_, fun j hj hf hno x hx => ?_⟩
  · split at hy
    · rename_i e
      rcases List.mem_append.1 hy with hy | hy
      · exact h.todos y hy
      · obtain ⟨z, hz⟩ := List.length_eq_one_iff.1 (show (unkN (known ++ [n]) (gl eqs k)).length = 1 by omega)
        rw [hz] at hy
        rw [List.mem_singleton.1 hy]
        exact follows_one h.knows (gl_mem h1) h2 hz
    · exact h.todos y hy
  · rw [gi_set _ _ _ _ (by rw [h.llen]; exact h1), ht]
    by_cases e : j = k
    · subst e
      rw [if_pos rfl, if_pos h2, if_pos (by simp), h3]
    · rw [if_neg e, h.lefts j hj]
      simp [e]
  · rw [ht] at hno
    by_cases e : j = k
    · subst e
      rw [hx] at h3
      rw [if_pos (by rw [h3]; rfl), hx]; simp
    · have := h.ones j hj hf (fun hm => by simpa [e] using hno hm) x hx
      split
      · exact List.mem_append_left _ this
      · exact this
/-- What is still to be done: it doesn't grow within a step. -/
def workN (todo left : List Int) : Nat := todo.length + left.countP fun v => decide (2 ≤ v)
theorem countP_set (l : List Int) (p : Int → Bool) (k : Nat) (v : Int) (hk : k < l.length) : (l.set k v).countP p + (if p (gi l k) = true then 1 else 0) = l.countP p + (if p v = true then 1 else 0) := by
  induction l generalizing k with
  | nil => simp at hk
  | cons a l ih =>
    cases k with
    | zero =>
      have e : gi (a :: l) 0 = a := rfl
      rw [e, List.set_cons_zero, List.countP_cons, List.countP_cons]
      omega
    | succ k =>
      have e : gi (a :: l) (k + 1) = gi l k := by simp [gi]
      rw [e, List.set_cons_succ, List.countP_cons, List.countP_cons]
      have := ih k (by simpa using hk)
      omega
theorem workN_step (h : WorkIn all eqs known n i todo left) (hn : n ∉ known) (hi : i < (posN all eqs eqs.length n).length) {k : Nat} (hk : (posN all eqs eqs.length n)[i] = k) :
    workN (if gi left k - 1 = 1 then todo ++ unkN (known ++ [n]) (gl eqs k) else todo) (left.set k (gi left k - 1)) ≤ workN todo left := by
  obtain ⟨h1, h2, h3⟩ := h.now hn hi
  rw [hk] at h1 h2 h3
  have hc := countP_set left (fun v => decide (2 ≤ v)) k (gi left k - 1) (by rw [h.llen]; exact h1)
  unfold workN
  simp only [decide_eq_true_eq] at hc
  by_cases e : gi left k - 1 = 1
  · rw [if_pos e, List.length_append, show (unkN (known ++ [n]) (gl eqs k)).length = 1 by omega]
    rw [if_pos (by omega), if_neg (by omega)] at hc
    omega
  · rw [if_neg e]
    by_cases e2 : 2 ≤ gi left k - 1
    · rw [if_pos (by omega), if_pos e2] at hc; omega
    · rw [if_neg e2] at hc; omega
/-- What stands behind the first equations. -/
structure Begun (all : Int) (eqs : List (List Int)) (k : Nat) (todo left : List Int) : Prop where
  llen : left.length = eqs.length
  todos : ∀ y ∈ todo, Follows all eqs y
  small : todo.length ≤ k
  lefts : ∀ j, j < eqs.length → gi left j = if j < k ∧ fitsN all (gl eqs j) = true then ((gl eqs j).length : Int) else 0
  ones : ∀ j, j < k → fitsN all (gl eqs j) = true → ∀ x, gl eqs j = [x] → x ∈ todo
theorem unkN_nil (of : List Int) : unkN [] of = of := List.filter_eq_self.2 (fun x _ => by simp)
theorem Begun.none (all : Int) (eqs : List (List Int)) : Begun all eqs 0 [] (List.replicate eqs.length 0) :=
  ⟨by simp, by simp, by simp, fun j hj => by simp [gi, hj], fun j hj => absurd hj (Nat.not_lt_zero _)⟩
theorem Begun.skip {k : Nat} (h : Begun all eqs k todo left) (hf : fitsN all (gl eqs k) = false) : Begun all eqs (k + 1) todo left := by
  refine ⟨h.llen, h.todos, Nat.le_succ_of_le h.small, fun j hj => ?_, fun j hj hfj => ?_⟩
  · rw [h.lefts j hj]
    by_cases e : j = k
    · subst e; simp [hf]
    · simp only [show (j < k + 1) ↔ (j < k) from ⟨fun _ => by omega, fun _ => by omega⟩]
  · by_cases e : j = k
    · subst e; rw [hf] at hfj; cases hfj
    · exact h.ones j (by omega) hfj
theorem Begun.step {k : Nat} (h : Begun all eqs k todo left) (hk : k < eqs.length) (hf : fitsN all (gl eqs k) = true) : Begun all eqs (k + 1) (if (gl eqs k).length = 1 then todo ++ [gi (gl eqs k) 0] else todo) (left.set k (gl eqs k).length) := by
  refine ⟨by rw [List.length_set]; exact h.llen, fun y hy => ?_, ?_, fun j hj => ?_, fun j hj hfj x hx => ?_⟩
  · split at hy
    · rename_i e
      obtain ⟨z, hz⟩ := List.length_eq_one_iff.1 e
      rcases List.mem_append.1 hy with hy | hy
      · exact h.todos y hy
      · rw [List.mem_singleton.1 hy, hz]
        exact follows_one (known := []) (by simp) (gl_mem hk) hf (by rw [unkN_nil, hz]; rfl)
    · exact h.todos y hy
  · have := h.small
    split
    · rw [List.length_append]; simp; omega
    · omega
  · rw [gi_set _ _ _ _ (by rw [h.llen]; exact hk)]
    by_cases e : j = k
    · subst e; rw [if_pos rfl, if_pos ⟨by omega, hf⟩]
    · rw [if_neg e, h.lefts j hj]; simp only [show (j < k + 1) ↔ (j < k) from ⟨fun _ => by omega, fun _ => by omega⟩]
  · by_cases e : j = k
    · subst e; rw [hx]; simp [gi]
    · have := h.ones j (by omega) hfj x hx
      split
      · exact List.mem_append_left _ this
      · exact this
theorem Begun.work (h : Begun all eqs eqs.length todo left) : Work all eqs [] todo left := by
  refine ⟨h.llen, by simp, h.todos, fun j hj => ?_, fun j hj hf x hx => h.ones j hj hf x (by rw [unkN_nil] at hx; exact hx)⟩
  rw [h.lefts j hj, unkN_nil]
  simp [hj]
theorem Begun.workN_le {k : Nat} (h : Begun all eqs k todo left) : workN todo left ≤ k + eqs.length := by
  unfold workN
  have h1 := h.small
  have h2 : left.countP (fun v => decide (2 ≤ v)) ≤ left.length := List.countP_le_length
  have h3 := h.llen
  omega
theorem nodup_le {xs ys : List Int} (hd : xs.Nodup) (h : ∀ x ∈ xs, x ∈ ys) : xs.length ≤ ys.length := by
  induction xs generalizing ys with
  | nil => simp
  | cons x xs ih =>
    rw [List.nodup_cons] at hd
    have hx : x ∈ ys := h x (by simp)
    have := ih (ys := ys.erase x) hd.2 (fun y hy => (List.mem_erase_of_ne (fun (e : y = x) => hd.1 (by rw [← e]; exact hy))).2 (h y (by simp [hy])))
    rw [List.length_erase_of_mem hx] at this
    have := List.length_pos_of_mem hx
    simp; omega
theorem Work.known_le (h : Work all eqs known todo left) (hd : known.Nodup) : known.length ≤ eqs.flatten.length :=
  nodup_le hd (fun x hx => by
    obtain ⟨of, hof, _, hm⟩ := (h.knows x hx).mem
    exact List.mem_flatten.2 ⟨of, hof, hm⟩)
/-- At the end what was collected of the known ones, sorted, is what follows. -/
theorem Work.reached (h : Work all eqs known [] left) {ss rs : List Int} (hp : rs.Perm ss) (hs : rs.Pairwise (· ≤ ·)) (hd : ss.Nodup) (hm : ∀ x, x ∈ ss ↔ x ∈ known) : rs = reachN all eqs := by
  have hd2 := hp.nodup_iff.2 hd
  refine reachN_eq ?_ (fun x => ?_)
  · have := List.Pairwise.and hs hd2
    exact this.imp (fun ⟨h1, h2⟩ => by omega)
  · rw [hp.mem_iff, hm x]
    exact ⟨h.knows x, closed_all h.end_⟩
end Go.Proofs.Ytkjaacpcnjakcaa
