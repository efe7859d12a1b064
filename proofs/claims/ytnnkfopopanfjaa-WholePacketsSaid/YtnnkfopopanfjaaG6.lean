/- Several texts, one behind the other: what each proves, and its conditions, stands ahead of it. -/
import Derived.Test.YtnnkfopopanfjaaReachMath
import Derived.Test.YtnnkfopopanfjaaG1
import Derived.Test.YtnnkfopopanfjaaG2
import Derived.Maps.OwnRows
import Derived.Maps.GroupsBeside
import Derived.Test.YtnnkfopopanfjaaEqsOwn
import Derived.ArgAppend
import Derived.Test.YtnnkfopopanfjaaEqAdd
import Derived.Maps.RangeWalk
import Derived.BigQuiet
set_option linter.unusedVariables false
set_option linter.unusedSimpArgs false
/- The list of what is to be done: what stands when blocks become known one by one: the plain law. No condition. -/
set_option linter.unusedVariables false
namespace Go.Proofs.Ytnnkfopopanfjaa

/-- Of the first equations those that fit and have a block. -/
def posN (all : Int) (eqs : List (List Int)) (k : Nat) (x : Int) : List Nat := (List.range k).filter fun j => fitsN all (gl eqs j) && decide (x ∈ gl eqs j)
theorem posN_succ (all : Int) (eqs : List (List Int)) (k : Nat) (x : Int) : posN all eqs (k + 1) x = posN all eqs k x ++ (if fitsN all (gl eqs k) = true ∧ x ∈ gl eqs k then [k] else []) := by
  unfold posN
  rw [List.range_succ, List.filter_append]
  congr 1
  by_cases h1 : fitsN all (gl eqs k) = true <;> by_cases h2 : x ∈ gl eqs k <;> simp [h1, h2]
theorem mem_posN (all : Int) (eqs : List (List Int)) (k : Nat) (x : Int) (j : Nat) : j ∈ posN all eqs k x ↔ j < k ∧ fitsN all (gl eqs j) = true ∧ x ∈ gl eqs j := by
  simp [posN]
theorem posN_nodup (all : Int) (eqs : List (List Int)) (k : Nat) (x : Int) : (posN all eqs k x).Nodup := List.nodup_range.filter _
theorem posN_length (all : Int) (eqs : List (List Int)) (k : Nat) (x : Int) : (posN all eqs k x).length ≤ k := Nat.le_trans (List.length_filter_le _ _) (by simp)
theorem gl_mem {eqs : List (List Int)} {j : Nat} (h : j < eqs.length) : gl eqs j ∈ eqs := by rw [gl_eq eqs j h]; exact List.getElem_mem h
/-- What one more known block makes of what isn't known. -/
theorem unkN_more (known of : List Int) (n : Int) : unkN (known ++ [n]) of = (unkN known of).filter fun i => !decide (i = n) := by
  unfold unkN
  rw [List.filter_filter]
  apply List.filter_congr
  intro x _
  by_cases h1 : x ∈ known <;> by_cases h2 : x = n <;> simp [h1, h2]
theorem unkN_not (known of : List Int) (n : Int) (h : n ∉ of) : unkN (known ++ [n]) of = unkN known of := by
  rw [unkN_more]
  refine List.filter_eq_self.2 (fun x hx => ?_)
  have := ((mem_unkN known of x).1 hx).1
  have : x ≠ n := fun e => h (e ▸ this)
  simp [this]
theorem filter_ne_length (l : List Int) (n : Int) (hd : l.Nodup) (h : n ∈ l) : (l.filter fun i => !decide (i = n)).length + 1 = l.length := by
  induction l with
  | nil => simp at h
  | cons a l ih =>
    rw [List.nodup_cons] at hd
    by_cases e : a = n
    · subst e
      have : (l.filter fun i => !decide (i = a)) = l := List.filter_eq_self.2 (fun x hx => by
        have : x ≠ a := fun e => hd.1 (e ▸ hx)
        simp [this])
      simp [this]
    · have := ih hd.2 (by rcases List.mem_cons.1 h with h | h; exact absurd h.symm e; exact h)
      simp [e, this]
theorem unkN_one (known of : List Int) (n : Int) (hd : of.Nodup) (h : n ∈ of) (hk : n ∉ known) : (unkN (known ++ [n]) of).length + 1 = (unkN known of).length := by
  rw [unkN_more]
  exact filter_ne_length _ _ (hd.filter _) ((mem_unkN known of n).2 ⟨h, hk⟩)

structure Work (all : Int) (eqs : List (List Int)) (known todo left : List Int) : Prop where
  llen : left.length = eqs.length
  knows : ∀ y ∈ known, Follows all eqs y
  todos : ∀ y ∈ todo, Follows all eqs y
  lefts : ∀ j, j < eqs.length → gi left j = if fitsN all (gl eqs j) = true then ((unkN known (gl eqs j)).length : Int) else 0
  ones : ∀ j, j < eqs.length → fitsN all (gl eqs j) = true → ∀ x, unkN known (gl eqs j) = [x] → x ∈ todo
structure WorkIn (all : Int) (eqs : List (List Int)) (known : List Int) (n : Int) (i : Nat) (todo left : List Int) : Prop where
  llen : left.length = eqs.length
  knows : ∀ y ∈ known ++ [n], Follows all eqs y
  todos : ∀ y ∈ todo, Follows all eqs y
  lefts : ∀ j, j < eqs.length → gi left j = if fitsN all (gl eqs j) = true then ((unkN (if j ∈ (posN all eqs eqs.length n).take i then known ++ [n] else known) (gl eqs j)).length : Int) else 0
  ones : ∀ j, j < eqs.length → fitsN all (gl eqs j) = true → (n ∈ gl eqs j → j ∈ (posN all eqs eqs.length n).take i) → ∀ x, unkN (known ++ [n]) (gl eqs j) = [x] → x ∈ todo
variable {all : Int} {eqs : List (List Int)} {known todo left : List Int} {n : Int} {i : Nat}
theorem Work.skip (h : Work all eqs known (n :: todo) left) (hn : n ∈ known) : Work all eqs known todo left := by
  refine ⟨h.llen, h.knows, fun y hy => h.todos y (List.mem_cons_of_mem _ hy), h.lefts, fun j hj hf x hx => ?_⟩
  rcases List.mem_cons.1 (h.ones j hj hf x hx) with e | hm
  · have := ((mem_unkN known (gl eqs j) x).1 (by rw [hx]; exact List.mem_singleton.2 rfl)).2
    exact absurd (e ▸ hn) this
  · exact hm
theorem Work.start (h : Work all eqs known (n :: todo) left) (hn : n ∉ known) : WorkIn all eqs known n 0 todo left := by
  refine ⟨h.llen, fun y hy => ?_, fun y hy => h.todos y (List.mem_cons_of_mem _ hy), fun j hj => ?_, fun j hj hf hno x hx => ?_⟩
  · rcases List.mem_append.1 hy with hy | hy
    · exact h.knows y hy
    · rw [List.mem_singleton.1 hy]; exact h.todos n (by simp)
  · rw [h.lefts j hj]; simp
  · have hnn : n ∉ gl eqs j := fun hm => by simpa using hno hm
    rw [unkN_not _ _ _ hnn] at hx
    rcases List.mem_cons.1 (h.ones j hj hf x hx) with e | hm
    · have := ((mem_unkN known (gl eqs j) x).1 (by rw [hx]; exact List.mem_singleton.2 rfl)).1
      exact absurd (e ▸ this) hnn
    · exact hm
theorem WorkIn.done (h : WorkIn all eqs known n (posN all eqs eqs.length n).length todo left) : Work all eqs (known ++ [n]) todo left := by
  have ht : (posN all eqs eqs.length n).take (posN all eqs eqs.length n).length = posN all eqs eqs.length n := List.take_length
  refine ⟨h.llen, h.knows, h.todos, fun j hj => ?_, fun j hj hf x hx => h.ones j hj hf (fun hm => by rw [ht, mem_posN]; exact ⟨hj, hf, hm⟩) x hx⟩
  rw [h.lefts j hj, ht]
  by_cases hf : fitsN all (gl eqs j) = true
  · rw [if_pos hf, if_pos hf]
    by_cases hm : n ∈ gl eqs j
    · rw [if_pos ((mem_posN _ _ _ _ _).2 ⟨hj, hf, hm⟩)]
    · rw [if_neg (fun h => hm ((mem_posN _ _ _ _ _).1 h).2.2), unkN_not _ _ _ hm]
  · rw [if_neg hf, if_neg hf]
theorem Work.end_ (h : Work all eqs known [] left) : ∀ of ∈ eqs, fitsN all of = true → (unkN known of).length ≠ 1 := fun of hof hfit hl => by
  obtain ⟨j, hj, rfl⟩ := List.getElem_of_mem hof
  rw [← gl_eq eqs j hj] at hfit hl
  obtain ⟨x, hx⟩ := List.length_eq_one_iff.1 hl
  simpa using h.ones j hj hfit x hx
theorem gi_set (l : List Int) (k j : Nat) (v : Int) (hk : k < l.length) : gi (l.set k v) j = if j = k then v else gi l j := by
  unfold gi
  rw [List.getD_eq_getElem?_getD, List.getD_eq_getElem?_getD, List.getElem?_set]
  by_cases e : k = j
  · subst e; simp [hk]
  · rw [if_neg e, if_neg (fun h => e h.symm)]
/-- What is met at a step: the equation fits, has the block, and isn't among those before. -/
theorem WorkIn.now (h : WorkIn all eqs known n i todo left) (hn : n ∉ known) (hi : i < (posN all eqs eqs.length n).length) : (posN all eqs eqs.length n)[i] < eqs.length ∧ fitsN all (gl eqs (posN all eqs eqs.length n)[i]) = true ∧ gi left (posN all eqs eqs.length n)[i] - 1 = ((unkN (known ++ [n]) (gl eqs (posN all eqs eqs.length n)[i])).length : Int) := by
  obtain ⟨h1, h2, h3⟩ := (mem_posN _ _ _ _ _).1 (List.getElem_mem hi)
  refine ⟨h1, h2, ?_⟩
  have hnot : (posN all eqs eqs.length n)[i] ∉ (posN all eqs eqs.length n).take i := fun hm => by
    obtain ⟨j, hj, e⟩ := List.getElem_of_mem hm
    rw [List.getElem_take] at e
    have hj' : j < i := by rw [List.length_take] at hj; omega
    have := (List.getElem_inj (posN_nodup all eqs eqs.length n)).1 e
    omega
  rw [h.lefts _ h1, if_pos h2, if_neg hnot, ← unkN_one known _ n (nodup_of_rising (fitsN_rising h2)) h3 hn]
  omega
theorem WorkIn.step (h : WorkIn all eqs known n i todo left) (hn : n ∉ known) (hi : i < (posN all eqs eqs.length n).length) {k : Nat} (hk : (posN all eqs eqs.length n)[i] = k) :
    WorkIn all eqs known n (i + 1) (if gi left k - 1 = 1 then todo ++ unkN (known ++ [n]) (gl eqs k) else todo) (left.set k (gi left k - 1)) := by
  obtain ⟨h1, h2, h3⟩ := h.now hn hi
  rw [hk] at h1 h2 h3
  have ht : (posN all eqs eqs.length n).take (i + 1) = (posN all eqs eqs.length n).take i ++ [k] := by rw [List.take_succ_eq_append_getElem hi, hk]
  refine ⟨by rw [List.length_set]; exact h.llen, h.knows, fun y hy => ?_, fun j hj => ?_, fun j hj hf hno x hx => ?_⟩
  · split at hy
    · rename_i e
      rcases List.mem_append.1 hy with hy | hy
      · exact h.todos y hy
      · obtain ⟨z, hz⟩ := List.length_eq_one_iff.1 (show (unkN (known ++ [n]) (gl eqs k)).length = 1 by omega)
        rw [hz] at hy
        rw [List.mem_singleton.1 hy]
        exact follows_one h.knows (gl_mem h1) h2 hz
    · exact h.todos y hy
  · rw [gi_set _ _ _ _ (by rw [h.llen]; exact h1), ht]
    by_cases e : j = k
    · subst e
      rw [if_pos rfl, if_pos h2, if_pos (by simp), h3]
    · rw [if_neg e, h.lefts j hj]
      simp [e]
  · rw [ht] at hno
    by_cases e : j = k
    · subst e
      rw [hx] at h3
      rw [if_pos (by rw [h3]; rfl), hx]; simp
    · have := h.ones j hj hf (fun hm => by simpa [e] using hno hm) x hx
      split
      · exact List.mem_append_left _ this
      · exact this
/-- What is still to be done: it doesn't grow within a step. -/
def workN (todo left : List Int) : Nat := todo.length + left.countP fun v => decide (2 ≤ v)
theorem countP_set (l : List Int) (p : Int → Bool) (k : Nat) (v : Int) (hk : k < l.length) : (l.set k v).countP p + (if p (gi l k) = true then 1 else 0) = l.countP p + (if p v = true then 1 else 0) := by
  induction l generalizing k with
  | nil => simp at hk
  | cons a l ih =>
    cases k with
    | zero =>
      have e : gi (a :: l) 0 = a := rfl
      rw [e, List.set_cons_zero, List.countP_cons, List.countP_cons]
      omega
    | succ k =>
      have e : gi (a :: l) (k + 1) = gi l k := by simp [gi]
      rw [e, List.set_cons_succ, List.countP_cons, List.countP_cons]
      have := ih k (by simpa using hk)
      omega
theorem workN_step (h : WorkIn all eqs known n i todo left) (hn : n ∉ known) (hi : i < (posN all eqs eqs.length n).length) {k : Nat} (hk : (posN all eqs eqs.length n)[i] = k) :
    workN (if gi left k - 1 = 1 then todo ++ unkN (known ++ [n]) (gl eqs k) else todo) (left.set k (gi left k - 1)) ≤ workN todo left := by
  obtain ⟨h1, h2, h3⟩ := h.now hn hi
  rw [hk] at h1 h2 h3
  have hc := countP_set left (fun v => decide (2 ≤ v)) k (gi left k - 1) (by rw [h.llen]; exact h1)
  unfold workN
  simp only [decide_eq_true_eq] at hc
  by_cases e : gi left k - 1 = 1
  · rw [if_pos e, List.length_append, show (unkN (known ++ [n]) (gl eqs k)).length = 1 by omega]
    rw [if_pos (by omega), if_neg (by omega)] at hc
    omega
  · rw [if_neg e]
    by_cases e2 : 2 ≤ gi left k - 1
    · rw [if_pos (by omega), if_pos e2] at hc; omega
    · rw [if_neg e2] at hc; omega
/-- What stands behind the first equations. -/
structure Begun (all : Int) (eqs : List (List Int)) (k : Nat) (todo left : List Int) : Prop where
  llen : left.length = eqs.length
  todos : ∀ y ∈ todo, Follows all eqs y
  small : todo.length ≤ k
  lefts : ∀ j, j < eqs.length → gi left j = if j < k ∧ fitsN all (gl eqs j) = true then ((gl eqs j).length : Int) else 0
  ones : ∀ j, j < k → fitsN all (gl eqs j) = true → ∀ x, gl eqs j = [x] → x ∈ todo
theorem unkN_nil (of : List Int) : unkN [] of = of := List.filter_eq_self.2 (fun x _ => by simp)
theorem Begun.none (all : Int) (eqs : List (List Int)) : Begun all eqs 0 [] (List.replicate eqs.length 0) :=
  ⟨by simp, by simp, by simp, fun j hj => by simp [gi, hj], fun j hj => absurd hj (Nat.not_lt_zero _)⟩
theorem Begun.skip {k : Nat} (h : Begun all eqs k todo left) (hf : fitsN all (gl eqs k) = false) : Begun all eqs (k + 1) todo left := by
  refine ⟨h.llen, h.todos, Nat.le_succ_of_le h.small, fun j hj => ?_, fun j hj hfj => ?_⟩
  · rw [h.lefts j hj]
    by_cases e : j = k
    · subst e; simp [hf]
    · simp only [show (j < k + 1) ↔ (j < k) from ⟨fun _ => by omega, fun _ => by omega⟩]
  · by_cases e : j = k
    · subst e; rw [hf] at hfj; cases hfj
    · exact h.ones j (by omega) hfj
theorem Begun.step {k : Nat} (h : Begun all eqs k todo left) (hk : k < eqs.length) (hf : fitsN all (gl eqs k) = true) : Begun all eqs (k + 1) (if (gl eqs k).length = 1 then todo ++ [gi (gl eqs k) 0] else todo) (left.set k (gl eqs k).length) := by
  refine ⟨by rw [List.length_set]; exact h.llen, fun y hy => ?_, ?_, fun j hj => ?_, fun j hj hfj x hx => ?_⟩
  · split at hy
    · rename_i e
      obtain ⟨z, hz⟩ := List.length_eq_one_iff.1 e
      rcases List.mem_append.1 hy with hy | hy
      · exact h.todos y hy
      · rw [List.mem_singleton.1 hy, hz]
        exact follows_one (known := []) (by simp) (gl_mem hk) hf (by rw [unkN_nil, hz]; rfl)
    · exact h.todos y hy
  · have := h.small
    split
    · rw [List.length_append]; simp; omega
    · omega
  · rw [gi_set _ _ _ _ (by rw [h.llen]; exact hk)]
    by_cases e : j = k
    · subst e; rw [if_pos rfl, if_pos ⟨by omega, hf⟩]
    · rw [if_neg e, h.lefts j hj]; simp only [show (j < k + 1) ↔ (j < k) from ⟨fun _ => by omega, fun _ => by omega⟩]
  · by_cases e : j = k
    · subst e; rw [hx]; simp [gi]
    · have := h.ones j (by omega) hfj x hx
      split
      · exact List.mem_append_left _ this
      · exact this
theorem Begun.work (h : Begun all eqs eqs.length todo left) : Work all eqs [] todo left := by
  refine ⟨h.llen, by simp, h.todos, fun j hj => ?_, fun j hj hf x hx => h.ones j hj hf x (by rw [unkN_nil] at hx; exact hx)⟩
  rw [h.lefts j hj, unkN_nil]
  simp [hj]
theorem Begun.workN_le {k : Nat} (h : Begun all eqs k todo left) : workN todo left ≤ k + eqs.length := by
  unfold workN
  have h1 := h.small
  have h2 : left.countP (fun v => decide (2 ≤ v)) ≤ left.length := List.countP_le_length
  have h3 := h.llen
  omega
theorem nodup_le {xs ys : List Int} (hd : xs.Nodup) (h : ∀ x ∈ xs, x ∈ ys) : xs.length ≤ ys.length := by
  induction xs generalizing ys with
  | nil => simp
  | cons x xs ih =>
    rw [List.nodup_cons] at hd
    have hx : x ∈ ys := h x (by simp)
    have := ih (ys := ys.erase x) hd.2 (fun y hy => (List.mem_erase_of_ne (fun (e : y = x) => hd.1 (by rw [← e]; exact hy))).2 (h y (by simp [hy])))
    rw [List.length_erase_of_mem hx] at this
    have := List.length_pos_of_mem hx
    simp; omega
theorem Work.known_le (h : Work all eqs known todo left) (hd : known.Nodup) : known.length ≤ eqs.flatten.length :=
  nodup_le hd (fun x hx => by
    obtain ⟨of, hof, _, hm⟩ := (h.knows x hx).mem
    exact List.mem_flatten.2 ⟨of, hof, hm⟩)
/-- At the end what was collected of the known ones, sorted, is what follows. -/
theorem Work.reached (h : Work all eqs known [] left) {ss rs : List Int} (hp : rs.Perm ss) (hs : rs.Pairwise (· ≤ ·)) (hd : ss.Nodup) (hm : ∀ x, x ∈ ss ↔ x ∈ known) : rs = reachN all eqs := by
  have hd2 := hp.nodup_iff.2 hd
  refine reachN_eq ?_ (fun x => ?_)
  · have := List.Pairwise.and hs hd2
    exact this.imp (fun ⟨h1, h2⟩ => by omega)
  · rw [hp.mem_iff, hm x]
    exact ⟨h.knows x, closed_all h.end_⟩
end Go.Proofs.Ytnnkfopopanfjaa

/- A map of slices of numbers that the call makes: what lies at each key, as a function. No condition. -/
set_option linter.unusedVariables false
namespace Go.Proofs.Ytnnkfopopanfjaa
open Go.RowKit Go.ChangeShapes

theorem lits_inj {a b : List Int} (h : lits (H := Unit) .i64 a = lits .i64 b) : a = b := by
  unfold lits at h
  exact (List.map_inj_right (fun x y e => by injection e with e; injection e)).1 h
/-- What a map holds, key by key. -/
def Holds (D : DataW Unit) (f : Int → List Int) : Prop :=
  Maps.IsMap D ∧ ∀ x, (D.atKey (.int .i64 x) .nil = .nil ∧ f x = []) ∨ D.atKey (.int .i64 x) .nil = .slice (lits .i64 (f x)) []
theorem Holds.none : Holds (.map []) (fun _ => []) := ⟨⟨_, rfl⟩, fun x => .inl ⟨rfl, rfl⟩⟩
theorem Holds.zs {D : DataW Unit} {f : Int → List Int} (h : Holds D f) {w : World} {base : Nat} {e : TypeId} {v : Value} {zs : List Int} {x : Int} (ho : w.ownsInts base e .i64 v zs) (hat : D.atKey (.int .i64 x) .nil = rowDatum .i64 v zs) : zs = f x := by
  rcases ho.datum (H := Unit) with ⟨h1, rfl⟩ | h1
  · rw [h1] at hat
    rcases h.2 x with ⟨_, e⟩ | e
    · exact e.symm
    · rw [hat] at e; cases e
  · rw [h1] at hat
    rcases h.2 x with ⟨e, _⟩ | e
    · rw [hat] at e; cases e
    · rw [hat] at e
      injection e with e
      exact lits_inj e
theorem Holds.put {D : DataW Unit} {f : Int → List Int} (h : Holds D f) (x : Int) (zs : List Int) : Holds (D.put (.int .i64 x) (.slice (lits .i64 zs) [])) (fun y => if y = x then zs else f y) := by
  have key : ∀ y, ((D.put (.int .i64 x) (.slice (lits .i64 zs) [])).atKey (.int .i64 y) .nil = .nil ∧ (if y = x then zs else f y) = []) ∨ (D.put (.int .i64 x) (.slice (lits .i64 zs) [])).atKey (.int .i64 y) .nil = .slice (lits .i64 (if y = x then zs else f y)) [] := by
    intro y
    by_cases e : y = x
    · subst e
      right
      rw [if_pos rfl, Maps.atKey_put_same h.1 (show WideAt.IsKeyLit (.int .i64 y) from trivial)]
    · rw [if_neg e, Maps.atKey_put_other (fun h => e (by injection h))]
      exact h.2 y
  refine ⟨?_, key⟩
  obtain ⟨es, rfl⟩ := h.1
  exact ⟨_, rfl⟩
/-- A map of slices of numbers in block b, of at most n numbers each. -/
def GroupsAt (w : World) (b n : Nat) (f : Int → List Int) : Prop := ∃ D : DataW Unit, w.ownsGroups Try.prog 3 (b + 1) 3 .i64 b n D ∧ Holds D f
theorem GroupsAt.made (w : World) : GroupsAt (w.alloc (.map #[] 0)) w.heap.size 0 (fun _ => []) := ⟨.map [], World.ownsGroups_made _ _ _ _ _, Holds.none⟩
end Go.Proofs.Ytnnkfopopanfjaa

/- Lists of lists of numbers: the row that holds them is the call's own. No condition. -/
set_option linter.unusedVariables false
namespace Go.Proofs.Ytnnkfopopanfjaa
open Go.RowKit

theorem info_nums : (Try.prog.info? 76).map (fun i => (i.zero, i.size, i.bytes)) = some (some (.slice none 0 0), 1, 24) := by kernel_rfl
def OwnNRows (R : Nat → Prop) (w : World) (base : Nat) (v : Value) (ls : List (List Int)) : Prop :=
  ∃ us : List Value, us.length = ls.length ∧ w.ownsRow base 76 1 v ls.length us ∧ ∀ (j : Nat) (u : Value), us[j]? = some u → NumsIn (fun b => R b ∧ v.ownBlock ≠ some b) w u (gl ls j)
theorem OwnNRows.nil (R : Nat → Prop) (w : World) (base : Nat) : OwnNRows R w base (.slice none 0 0) [] := ⟨[], rfl, World.ownsRow_nil w base _ 1, fun j u hu => by simp at hu⟩
theorem OwnNRows.base_le {R : Nat → Prop} {w : World} {base : Nat} {v : Value} {ls : List (List Int)} (h : OwnNRows R w base v ls) (b : Nat) (hb : v.ownBlock = some b) : base ≤ b ∧ b < w.heap.size := by
  obtain ⟨us, hl, hown, hr⟩ := h
  exact World.ownsRow.lt hown b hb
theorem OwnNRows.keeps {R S : Nat → Prop} {w w1 : World} {base : Nat} {v : Value} {ls : List (List Int)} (h : OwnNRows R w base v ls) (hk : Keeps S w w1) (hR : ∀ b, R b → ¬ S b) (hv : ∀ b, v.ownBlock = some b → ¬ S b) : OwnNRows R w1 base v ls := by
  obtain ⟨us, hl, hown, hr⟩ := h
  exact ⟨us, hl, own_keeps hown hk hv, fun j u hu => (hr j u hu).keeps hk (fun b hb => hR b hb.1)⟩
theorem OwnNRows.kept {R : Nat → Prop} {w w1 : World} {base : Nat} {v : Value} {ls : List (List Int)} (h : OwnNRows R w base v ls) (hk : Keeps NoB w w1) : OwnNRows R w1 base v ls := h.keeps hk (fun _ _ h => h) (fun _ _ h => h)
theorem OwnNRows.mono {R R' : Nat → Prop} {w : World} {base : Nat} {v : Value} {ls : List (List Int)} (h : OwnNRows R w base v ls) (hr : ∀ b, b < w.heap.size → R b → R' b) : OwnNRows R' w base v ls := by
  obtain ⟨us, hl, hown, h3⟩ := h
  exact ⟨us, hl, hown, fun j u hu => (h3 j u hu).mono (fun b h1 h2 => ⟨hr b h1 h2.1, h2.2⟩)⟩
theorem NumsIn.rowAt {R : Nat → Prop} {w : World} {u : Value} {l : List Int} (h : NumsIn R w u l) : RowAt w u l := by
  obtain ⟨A, c, h1, h2, h3, h4⟩ := h
  exact ⟨A, c, h1, h2, h3, h4.1⟩
theorem OwnNRows.reads {R : Nat → Prop} {w : World} {base : Nat} {v : Value} {ls : List (List Int)} (h : OwnNRows R w base v ls) : ∃ A c, v = .slice A ls.length c ∧ ls.length ≤ c ∧ (A = none → c = 0) ∧ RowsAt w A ls := by
  obtain ⟨us, hl, hown, hr⟩ := h
  obtain ⟨A, c, rfl, h1, h2, h3⟩ := own_form hown
  refine ⟨A, c, rfl, h1, h2, h3, fun h0 => ?_⟩
  rcases hown.2 with ⟨e, h4⟩ | ⟨g, cap, cur, e, hb, hg, h5, h6, h7, h8⟩
  · omega
  · injection e with e1 e2 e3
    subst e1 e3
    refine ⟨g, 0, rfl, fun j hj => ?_⟩
    obtain ⟨u, hu⟩ : ∃ u, us[j]? = some u := ⟨us[j]'(by omega), List.getElem?_eq_getElem _⟩
    have hc := own_cell hown hu
    exact ⟨u, by rw [Nat.zero_add]; exact hc, (hr j u hu).rowAt⟩
theorem gl_append (ls ms : List (List Int)) (j : Nat) : gl (ls ++ ms) j = if j < ls.length then gl ls j else gl ms (j - ls.length) := by
  unfold gl
  rw [List.getD_eq_getElem?_getD, List.getD_eq_getElem?_getD, List.getD_eq_getElem?_getD]
  split
  · rename_i h; rw [List.getElem?_append_left h]
  · rename_i h; rw [List.getElem?_append_right (by omega)]
theorem NumsIn.one {R : Nat → Prop} {w : World} {u : Value} {l : List Int} (h : NumsIn R w u l) : u.oneCell' = true := by
  obtain ⟨A, c, rfl, _⟩ := h; rfl
/-- More of them. -/
theorem wp_appRows {w : World} {o : Oper} {a : Act} {K : Act → World → Prop} {Q : Exit → Act → World → Prop} (s x : Operand) (t : TypeId) (R : Nat → Prop)
    (ho : o.op = .call { callee := .builtin .append, args := #[s, x], argTypes := #[t, t] }) (base : Nat) (ht : Try.prog.underlying t = some (.slice 76)) (v : Value) (ls : List (List Int)) (hs : a.eval s = v) (h : OwnNRows R w base v ls)
    (A : Option Addr) (c : Nat) (ms : List (List Int)) (news : List Value) (hx : a.eval x = .slice A ms.length c) (hA : A = none → c = 0 ∧ ms = []) (hl : news.length = ms.length) (hc : ∀ ad, A = some ad → ∀ (j : Nat) (u : Value), news[j]? = some u → w.cell? (ad.add j) = some u)
    (hin : ∀ (j : Nat) (u : Value), news[j]? = some u → NumsIn (fun b => R b ∧ v.ownBlock ≠ some b) w u (gl ms j)) (hm : ls.length + ms.length ≤ 1000000000) (hbase : base ≤ w.heap.size)
    (hK : ∀ v' w', OwnNRows R w' base v' (ls ++ ms) → w.grownBy w' v.ownBlock → (v'.ownBlock = v.ownBlock ∨ v'.ownBlock = some w.heap.size) → K (a.put o.dst v') w') : o.wp Try.prog a w K Q := by
  obtain ⟨i, i1, i2, i3, i4⟩ := info_parts info_nums
  cases A with
  | none =>
    obtain ⟨rfl, rfl⟩ := hA rfl
    have hrun := run_append_owned_none (P := Try.prog) (w := w) base t o.type 76 i 1 ht i1 v ls.length _ h.choose_spec.2.1
    have := hK v w (by rw [List.append_nil]; exact h) ⟨rfl, rfl, rfl, Nat.le_refl _, fun _ _ _ => rfl⟩ (.inl rfl)
    unfold Oper.wp
    simp [execOp, ho, resolve, invoke, builtin, hs, hx, hrun, Result.andThen]
    exact this
  | some ad =>
    obtain ⟨us, hul, hown, hr⟩ := h
    refine wp_append_at s x t ho base 76 i (.slice none 0 0) 1 24 ht i1 i2 i3 i4 rfl (by decide) v ls.length us hs hown ad ms.length c news hx (by omega) (hc ad rfl) (fun u hu => ?_) (by unfold maxLen; omega) (by omega) hbase ?_
    · obtain ⟨j, hj, rfl⟩ := List.getElem_of_mem hu
      exact (hin j _ (List.getElem?_eq_getElem hj)).one
    · intro v' w' h1 h2 h4
      refine hK v' w' ⟨us ++ news, by simp [hul, hl], by rw [List.length_append]; exact h1, fun j u hu => ?_⟩ h2 h4
      have key : ∀ (y : Value) (l : List Int), NumsIn (fun b => R b ∧ v.ownBlock ≠ some b) w y l → NumsIn (fun b => R b ∧ v'.ownBlock ≠ some b) w' y l := fun y l hy => by
        have hlt : NumsIn (fun b => (R b ∧ v.ownBlock ≠ some b) ∧ b < w.heap.size) w y l := hy.mono (fun b h1 h2 => ⟨h2, h1⟩)
        refine (hlt.keeps (Keeps.ofGrown h2) (fun b hb e => hb.1.2 e.symm)).mono (fun b _ hb => ⟨hb.1.1, fun e => ?_⟩)
        rcases h4 with h5 | h5
        · exact hb.1.2 (h5.symm.trans e)
        · have := h5.symm.trans e
          injection this with this
          have := hb.2
          omega
      rw [gl_append]
      by_cases hj : j < us.length
      · rw [List.getElem?_append_left hj] at hu
        rw [if_pos (by omega)]
        exact key u _ (hr j u hu)
      · rw [List.getElem?_append_right (by omega)] at hu
        rw [if_neg (by omega), ← hul]
        exact key u _ (hin _ u hu)
theorem wpList_appRowsA {w : World} {ops : Array Oper} {rest : List Oper} {o : Oper} {a : Act} {Q : Exit → Act → World → Prop} (hgd : o.guard = none) (s x : Operand) (t : TypeId) (R : Nat → Prop)
    (ho : o.op = .call { callee := .builtin .append, args := #[s, x], argTypes := #[t, t] }) (base : Nat) (ht : Try.prog.underlying t = some (.slice 76)) (v : Value) (ls : List (List Int)) (hs : a.eval s = v) (h : OwnNRows R w base v ls)
    (A : Option Addr) (c : Nat) (ms : List (List Int)) (news : List Value) (hx : a.eval x = .slice A ms.length c) (hA : A = none → c = 0 ∧ ms = []) (hl : news.length = ms.length) (hc : ∀ ad, A = some ad → ∀ (j : Nat) (u : Value), news[j]? = some u → w.cell? (ad.add j) = some u)
    (hin : ∀ (j : Nat) (u : Value), news[j]? = some u → NumsIn (fun b => R b ∧ v.ownBlock ≠ some b) w u (gl ms j)) (hm : ls.length + ms.length ≤ 1000000000) (hbase : base ≤ w.heap.size)
    (hK : ∀ v' w', OwnNRows R w' base v' (ls ++ ms) → w.grownBy w' v.ownBlock → (v'.ownBlock = v.ownBlock ∨ v'.ownBlock = some w.heap.size) → wpList Try.prog ops Q rest (a.put o.dst v') w') : wpList Try.prog ops Q (o :: rest) a w :=
  wpList_plain hgd fun K hK' => wp_appRows s x t R ho base ht v ls hs h A c ms news hx hA hl hc hin hm hbase (fun v' w' h1 h2 h3 => hK' _ _ (hK v' w' h1 h2 h3))
theorem step_appRows {w : World} {ops : Array Oper} {o : Oper} {a : Act} {K : Act → World → Prop} {Q : Exit → Act → World → Prop} {E : Prop} (hgd : o.guard = none) (s x : Operand) (t : TypeId) (R : Nat → Prop)
    (ho : o.op = .call { callee := .builtin .append, args := #[s, x], argTypes := #[t, t] }) (base : Nat) (ht : Try.prog.underlying t = some (.slice 76)) (v : Value) (ls : List (List Int)) (hs : a.eval s = v) (h : OwnNRows R w base v ls)
    (A : Option Addr) (c : Nat) (ms : List (List Int)) (news : List Value) (hx : a.eval x = .slice A ms.length c) (hA : A = none → c = 0 ∧ ms = []) (hl : news.length = ms.length) (hc : ∀ ad, A = some ad → ∀ (j : Nat) (u : Value), news[j]? = some u → w.cell? (ad.add j) = some u)
    (hin : ∀ (j : Nat) (u : Value), news[j]? = some u → NumsIn (fun b => R b ∧ v.ownBlock ≠ some b) w u (gl ms j)) (hm : ls.length + ms.length ≤ 1000000000) (hbase : base ≤ w.heap.size)
    (hK : ∀ v' w', OwnNRows R w' base v' (ls ++ ms) → w.grownBy w' v.ownBlock → (v'.ownBlock = v.ownBlock ∨ v'.ownBlock = some w.heap.size) → K (a.put o.dst v') w') : if Region.wanted o (yielded ops a.tmps) = true then Oper.wp Try.prog o a w K Q else E := by
  have hw : Region.wanted o (yielded ops a.tmps) = true := by simp [Region.wanted, hgd]
  rw [if_pos hw]
  exact wp_appRows s x t R ho base ht v ls hs h A c ms news hx hA hl hc hin hm hbase hK
theorem wpList_appRows {w : World} {ops : Array Oper} {rest : List Oper} {o : Oper} {a : Act} {Q : Exit → Act → World → Prop} (hgd : o.guard = none) (s x : Operand) (t : TypeId) (R : Nat → Prop)
    (ho : o.op = .call { callee := .builtin .append, args := #[s, x], argTypes := #[t, t] }) (base : Nat) (ht : Try.prog.underlying t = some (.slice 76)) (v : Value) (ls : List (List Int)) (hs : a.eval s = v) (h : OwnNRows R w base v ls)
    (ad : Addr) (c : Nat) (ms : List (List Int)) (news : List Value) (hx : a.eval x = .slice (some ad) ms.length c) (hl : news.length = ms.length) (hc : ∀ (j : Nat) (u : Value), news[j]? = some u → w.cell? (ad.add j) = some u)
    (hin : ∀ (j : Nat) (u : Value), news[j]? = some u → NumsIn (fun b => R b ∧ v.ownBlock ≠ some b) w u (gl ms j)) (hm : ls.length + ms.length ≤ 1000000000) (hbase : base ≤ w.heap.size)
    (hK : ∀ v' w', OwnNRows R w' base v' (ls ++ ms) → w.grownBy w' v.ownBlock → (v'.ownBlock = v.ownBlock ∨ v'.ownBlock = some w.heap.size) → wpList Try.prog ops Q rest (a.put o.dst v') w') : wpList Try.prog ops Q (o :: rest) a w :=
  wpList_appRowsA hgd s x t R ho base ht v ls hs h (some ad) c ms news hx (fun e => by cases e) hl (fun ad' e => by cases e; exact hc) hin hm hbase hK
theorem add_plain (b off j : Nat) : Addr.add ⟨b, off, none⟩ j = ⟨b, off + j, none⟩ := by
  unfold Addr.add
  split
  · rename_i e0; subst e0; rfl
  · rfl
/-- Lists that are read, cell by cell. -/
theorem RowsAt.cells {w : World} {A : Option Addr} {ms : List (List Int)} (h : RowsAt w A ms) : ∃ news : List Value, news.length = ms.length ∧ (∀ ad, A = some ad → ∀ (j : Nat) (u : Value), news[j]? = some u → w.cell? (ad.add j) = some u) ∧ ∀ (j : Nat) (u : Value), news[j]? = some u → NumsIn (fun b => b < w.heap.size) w u (gl ms j) := by
  rcases Nat.eq_zero_or_pos ms.length with h0 | h0
  · exact ⟨[], by simp [h0], fun _ _ j u hu => by simp at hu, fun j u hu => by simp at hu⟩
  · obtain ⟨b, off, rfl, hc⟩ := h.2 h0
    have f := fun j => Classical.choose_spec (show ∃ u : Value, j < ms.length → w.cell? ⟨b, off + j, none⟩ = some u ∧ RowAt w u (gl ms j) from by
      by_cases hj : j < ms.length
      · obtain ⟨u, hu⟩ := hc j hj
        exact ⟨u, fun _ => hu⟩
      · exact ⟨undef, fun h => absurd h hj⟩)
    refine ⟨(List.range ms.length).map (fun j => Classical.choose (show ∃ u : Value, j < ms.length → w.cell? ⟨b, off + j, none⟩ = some u ∧ RowAt w u (gl ms j) from by
      by_cases hj : j < ms.length
      · obtain ⟨u, hu⟩ := hc j hj
        exact ⟨u, fun _ => hu⟩
      · exact ⟨undef, fun h => absurd h hj⟩)), by simp, fun ad e j u hu => ?_, fun j u hu => ?_⟩
    · cases e
      rw [List.getElem?_map] at hu
      obtain ⟨i, hi, rfl⟩ := Option.map_eq_some_iff.1 hu
      obtain ⟨hj, rfl⟩ := List.getElem?_eq_some_iff.1 hi
      rw [List.getElem_range]
      have := (f j (by simpa using hj)).1
      rw [show (Addr.add ⟨b, off, none⟩ j) = ⟨b, off + j, none⟩ from add_plain b off j]
      exact this
    · rw [List.getElem?_map] at hu
      obtain ⟨i, hi, rfl⟩ := Option.map_eq_some_iff.1 hu
      obtain ⟨hj, rfl⟩ := List.getElem?_eq_some_iff.1 hi
      rw [List.getElem_range]
      obtain ⟨A', c', h1, h2, h3, h4⟩ := (f j (by simpa using hj)).2
      exact ⟨A', c', h1, h2, h3, h4, h4.lt⟩
/-- One more, just laid. -/
theorem wpList_app1Row {w : World} {ops : Array Oper} {rest : List Oper} {o : Oper} {a : Act} {Q : Exit → Act → World → Prop} (hgd : o.guard = none) (s x : Operand) (t : TypeId) (R : Nat → Prop)
    (ho : o.op = .call { callee := .builtin .append, args := #[s, x], argTypes := #[t, t] }) (base : Nat) (ht : Try.prog.underlying t = some (.slice 76)) (v : Value) (ls : List (List Int)) (hs : a.eval s = v) (h : OwnNRows R w base v ls)
    (bx c : Nat) (u : Value) (l : List Int) (hx : a.eval x = .slice (some ⟨bx, 0, none⟩) 1 c) (hc : w.cell? ⟨bx, 0, none⟩ = some u) (hin : NumsIn (fun b => R b ∧ v.ownBlock ≠ some b) w u l) (hm : ls.length + 1 ≤ 1000000000) (hbase : base ≤ w.heap.size)
    (hK : ∀ v' w', OwnNRows R w' base v' (ls ++ [l]) → w.grownBy w' v.ownBlock → (v'.ownBlock = v.ownBlock ∨ v'.ownBlock = some w.heap.size) → wpList Try.prog ops Q rest (a.put o.dst v') w') : wpList Try.prog ops Q (o :: rest) a w := by
  refine wpList_appRows hgd s x t R ho base ht v ls hs h ⟨bx, 0, none⟩ c [l] [u] hx rfl (fun j y hy => ?_) (fun j y hy => ?_) hm hbase hK
  · cases j with
    | zero => simp at hy; subst hy; exact hc
    | succ j => simp at hy
  · cases j with
    | zero => simp at hy; subst hy; exact hin
    | succ j => simp at hy
end Go.Proofs.Ytnnkfopopanfjaa

/- A slice that begins within a row that the call owns (a queue). No condition. -/
set_option linter.unusedVariables false
namespace Go.Proofs.Ytnnkfopopanfjaa
open Go.RowKit

def OwnTail (w : World) (base : Nat) (v : Value) (xs : List Int) : Prop :=
  (v = .slice none 0 0 ∧ xs = []) ∨ ∃ g p cap cur, v = .slice (some ⟨g, p, none⟩) xs.length cap ∧ base ≤ g ∧ w.heap[g]? = some (.cells cur 3) ∧ xs.length ≤ cap ∧ p + cap ≤ cur.size ∧ cap ≤ maxLen ∧ (cur.toList.drop p).take xs.length = xs.map (Value.int .i64)
theorem OwnTail.of {w : World} {base : Nat} {v : Value} {xs : List Int} (h : OwnInts w base .i64 3 v xs) : OwnTail w base v xs := by
  rcases h.2 with ⟨rfl, h0⟩ | ⟨g, cap, cur, rfl, hb, hg, h1, h2, h3, h4⟩
  · exact .inl ⟨rfl, List.length_eq_zero_iff.1 h0⟩
  · exact .inr ⟨g, 0, cap, cur, rfl, hb, hg, h1, by omega, h2, by simpa using h4⟩
theorem OwnTail.keeps {w w1 : World} {base : Nat} {v : Value} {xs : List Int} (h : OwnTail w base v xs) {S : Nat → Prop} (hk : Keeps S w w1) (hn : ∀ b, v.ownBlock = some b → ¬ S b) : OwnTail w1 base v xs := by
  rcases h with h | ⟨g, p, cap, cur, rfl, hb, hg, h1⟩
  · exact .inl h
  · exact .inr ⟨g, p, cap, cur, rfl, hb, hk.heap hg (hn g rfl), h1⟩
theorem OwnTail.base_le {w : World} {base : Nat} {v : Value} {xs : List Int} (h : OwnTail w base v xs) (b : Nat) (hb : v.ownBlock = some b) : base ≤ b ∧ b < w.heap.size := by
  rcases h with ⟨rfl, _⟩ | ⟨g, p, cap, cur, rfl, hg, hh, h1⟩
  · cases hb
  · have e : g = b := by simpa [Value.ownBlock] using hb
    subst e
    exact ⟨hg, (Array.getElem?_eq_some_iff.1 hh).1⟩
theorem OwnTail.lower {w : World} {base base' : Nat} {v : Value} {xs : List Int} (h : OwnTail w base v xs) (hb : base' ≤ base) : OwnTail w base' v xs := by
  rcases h with h | ⟨g, p, cap, cur, rfl, hg, r⟩
  · exact .inl h
  · exact .inr ⟨g, p, cap, cur, rfl, Nat.le_trans hb hg, r⟩
theorem OwnTail.front {w : World} {base g p n cap : Nat} {xs : List Int} (h : OwnTail w base (.slice (some ⟨g, p, none⟩) n cap) xs) {j : Nat} (hj : j < xs.length) : w.cell? ⟨g, p + j, none⟩ = some (.int .i64 (gi xs j)) := by
  rcases h with ⟨h, _⟩ | ⟨g', p', cap', cur, e, hb, hg, h1, h2, h3, h4⟩
  · cases h
  · injection e with e1 e2 e3
    injection e1 with e1
    injection e1 with e1 e4 _
    subst e1 e4 e2 e3
    have h5 := congrArg (fun l => l[j]?) h4
    simp only [List.getElem?_take, List.getElem?_drop, List.getElem?_map] at h5
    rw [if_pos hj] at h5
    unfold World.cell?
    simp [hg]
    simpa [gi, hj] using h5
/-- How it looks; and what is read of it. -/
theorem OwnTail.reads {w : World} {base : Nat} {v : Value} {xs : List Int} (h : OwnTail w base v xs) : ∃ A c, v = .slice A xs.length c ∧ xs.length ≤ c ∧ IntsAt w .i64 A xs := by
  rcases h with ⟨rfl, rfl⟩ | ⟨g, p, cap, cur, rfl, hb, hg, h1, h2, h3, h4⟩
  · exact ⟨none, 0, rfl, Nat.le_refl _, by simp, by simp⟩
  · exact ⟨_, _, rfl, h1, by unfold maxLen at h3; omega, fun _ => ⟨g, p, rfl, fun j hj => OwnTail.front (base := base) (n := xs.length) (cap := cap) (.inr ⟨g, p, cap, cur, rfl, hb, hg, h1, h2, h3, h4⟩) hj⟩⟩
theorem OwnTail.pop {w : World} {base g p n cap : Nat} {x : Int} {xs : List Int} (h : OwnTail w base (.slice (some ⟨g, p, none⟩) n cap) (x :: xs)) : OwnTail w base (.slice (if cap = 1 then some ⟨g, p, none⟩ else some ⟨g, p + 1, none⟩) (n - 1) (cap - 1)) xs := by
  rcases h with ⟨h, _⟩ | ⟨g', p', cap', cur, e, hb, hg, h1, h2, h3, h4⟩
  · cases h
  · injection e with e1 e2 e3
    injection e1 with e1
    injection e1 with e1 e4 _
    subst e1 e4 e2 e3
    simp only [List.length_cons] at h1 h4
    split
    · rename_i e
      subst e
      obtain rfl : xs = [] := List.length_eq_zero_iff.1 (by omega)
      exact .inr ⟨g, p, 0, cur, by simp, hb, hg, by simp, by omega, by omega, by simp⟩
    · refine .inr ⟨g, p + 1, cap - 1, cur, by simp, hb, hg, by omega, by omega, by omega, ?_⟩
      have h5 : ((cur.toList.drop p).take (xs.length + 1)).drop 1 = ((x :: xs).map (Value.int .i64)).drop 1 := by rw [h4]
      rw [List.drop_take, List.drop_drop] at h5
      simpa using h5
/-- 'q[1:]'. -/
theorem wpList_tail {P : Program} (w : World) {ops : Array Oper} {rest : List Oper} {o : Oper} {a : Act} {Q : Exit → Act → World → Prop} (hgd : o.guard = none) (s : Operand) (t : TypeId)
    (ho : o.op = .slice t s (some (.const (.int .i64 1))) none none) (ht : P.underlying t = some (.slice 3)) (hsz : ∀ w, (sizeOf 3).run P w = .ok 1 w) (base g p n cap : Nat) (x : Int) (xs : List Int)
    (hs : a.eval s = .slice (some ⟨g, p, none⟩) n cap) (h : OwnTail w base (.slice (some ⟨g, p, none⟩) n cap) (x :: xs))
    (hK : ∀ v', OwnTail w base v' xs → v'.ownBlock = some g → wpList P ops Q rest (a.put o.dst v') w) : wpList P ops Q (o :: rest) a w := by
  refine wpList_plain hgd fun K hK' => ?_
  have hl : n = xs.length + 1 ∧ xs.length + 1 ≤ cap := by
    rcases h with ⟨h, _⟩ | ⟨g', p', cap', cur, e, hb, hg, h1, h2, h3, h4⟩
    · cases h
    · injection e with e1 e2 e3
      subst e2 e3
      exact ⟨by simp, by simpa using h1⟩
  obtain ⟨rfl, hc⟩ := hl
  have hp := h.pop
  have hrun : (Instr.slice t (.slice (some ⟨g, p, none⟩) (xs.length + 1) cap) (some (.int .i64 1)) none none).run P w = .ok (.slice (if cap = 1 then some ⟨g, p, none⟩ else some ⟨g, p + 1, none⟩) (xs.length + 1 - 1) (cap - 1)) w := by
    have h1 : (1 : Int) ≤ (xs.length : Int) + 1 := by omega
    by_cases e : cap = 1
    · subst e; simp [go_sem, sliced, h1, hsz, run_slice_any, ht]
    · simp [go_sem, sliced, h1, hsz, run_slice_any, ht, e]
  have h0 : (Instr.sliceAt t (.slice (some ⟨g, p, none⟩) (xs.length + 1) cap) (some (.int .i64 1)) none none).run P w = .ok (.slice (if cap = 1 then some ⟨g, p, none⟩ else some ⟨g, p + 1, none⟩) (xs.length + 1 - 1) (cap - 1)) w := by
    rw [← hrun]; simp [Instr.sliceAt, run_underlying ht]
  unfold Oper.wp
  have hc1 : a.eval (.const (.int .i64 1)) = .int .i64 1 := rfl
  simp only [execOp, ho, hs, Option.map_some, Option.map_none, hc1, Sem.run_bind, h0, Result.andThen_ok, Sem.run_pure]
  exact hK' _ _ (hK _ hp (by split <;> rfl))
/-- 'append(q, y)'. -/
theorem wpList_tail_app {P : Program} (w : World) {ops : Array Oper} {rest : List Oper} {o : Oper} {a : Act} {Q : Exit → Act → World → Prop} (hgd : o.guard = none) (s x : Operand) (t : TypeId)
    (ho : o.op = .call { callee := .builtin .append, args := #[s, x], argTypes := #[t, t] }) (base : Nat) (ht : P.underlying t = some (.slice 3))
    (hi : (P.info? 3).map (fun i => (i.zero, i.size, i.bytes)) = some (some (.int .i64 0), 1, 8)) (v : Value) (xs : List Int) (hs : a.eval s = v) (hown : OwnTail w base v xs) (bx c : Nat) (y : Int)
    (hx : a.eval x = .slice (some ⟨bx, 0, none⟩) 1 c) (hcell : w.cell? ⟨bx, 0, none⟩ = some (.int .i64 y)) (hm : xs.length + 1 ≤ 1000000000) (hbase : base ≤ w.heap.size)
    (h : ∀ v' w', OwnTail w' base v' (xs ++ [y]) → w.grownBy w' v.ownBlock → (v'.ownBlock = v.ownBlock ∨ ∃ g, v'.ownBlock = some g ∧ w.heap.size ≤ g) → wpList P ops Q rest (a.put o.dst v') w') : wpList P ops Q (o :: rest) a w := by
  obtain ⟨i, i1, i2, i3, i4⟩ := info_parts hi
  have hnew : ∀ j u, [Value.int .i64 y][j]? = some u → w.cell? (Addr.add ⟨bx, 0, none⟩ j) = some u := by
    intro j u hu
    cases j with
    | zero => simp at hu; subst hu; exact hcell
    | succ j => simp at hu
  have h1c : ∀ u ∈ [Value.int .i64 y], u.oneCell' = true := by intro u hu; simp at hu; subst hu; rfl
  rcases hown with ⟨rfl, rfl⟩ | ⟨g, p, cap, cur, rfl, hb, hg, h1, h2, h3, h4⟩
  · refine wpList_append_grows w hgd s x t ho 3 i (.int .i64 0) 1 8 ht i1 i2 i3 i4 rfl (by decide) none 0 0 [] hs (fun _ => ⟨rfl, rfl⟩) rfl (by simp) ⟨bx, 0, none⟩ 1 c [.int .i64 y] hx rfl hnew h1c (by omega) (by unfold maxLen; omega) (by omega) ?_
    intro v' w' h1 h2
    have ho : OwnInts w' w.heap.size .i64 3 v' [y] := h1
    refine h v' w' ((OwnTail.of ho).lower hbase) h2 ?_
    rcases h1.2 with ⟨_, h0⟩ | ⟨g, cap, cur, rfl, hgb, _⟩
    · cases h0
    · exact .inr ⟨g, rfl, hgb⟩
  · refine wpList_append_arg w hgd s x t ho 3 i (.int .i64 0) 1 8 ht i1 i2 i3 i4 rfl (by decide) g p xs.length cap (xs.map (Value.int .i64)) hs (by simp) ?_ ⟨bx, 0, none⟩ 1 c [.int .i64 y] hx rfl hnew h1c ?_ (by unfold maxLen; omega) (by omega) ?_ ?_
    · intro j u hu
      have hj : j < xs.length := by
        have := (List.getElem?_eq_some_iff.1 hu).1
        simpa using this
      rw [OwnTail.front (base := base) (n := xs.length) (cap := cap) (.inr ⟨g, p, cap, cur, rfl, hb, hg, h1, h2, h3, h4⟩) hj]
      rw [← hu]; simp [gi, hj]
    · intro hr j hj
      obtain rfl : j = 0 := by simpa using hj
      have : p + xs.length < cur.size := by omega
      simp [World.cell?, World.frozen?, hg, this]
    · intro hr
      have hlt : p + xs.length < cur.size := by omega
      refine h _ _ (.inr ⟨g, p, cap, cur.setIfInBounds (p + xs.length) (.int .i64 y), by simp, hb, ?_, by simpa using hr, by simpa using h2, h3, ?_⟩) ?_ (.inl rfl)
      · show (w.heap.modify g _)[g]? = _
        rw [Array.getElem?_modify, if_pos rfl, hg]; simp
      · rw [Array.toList_setIfInBounds, List.length_append, List.map_append, ← h4]
        apply List.ext_getElem?
        intro j
        have h5 := congrArg (fun l => l[j]?) h4
        simp only [List.getElem?_take, List.getElem?_drop] at h5
        simp only [List.getElem?_take, List.getElem?_drop, List.length_singleton, List.getElem?_set]
        by_cases hj : j < xs.length
        · rw [if_pos (by omega), if_neg (by omega), List.getElem?_append_left (by simp; omega), List.getElem?_take, if_pos hj, List.getElem?_drop]
        · by_cases hj2 : j = xs.length
          · subst hj2
            rw [if_pos (by omega), if_pos rfl, if_pos (by simpa using hlt), List.getElem?_append_right (by simp; omega)]
            have e0 : min xs.length (cur.size - p) = xs.length := by omega
            simp [e0]
          · rw [if_neg (by omega), List.getElem?_eq_none (by simp only [List.length_append, List.length_take, List.length_drop, Array.length_toList, List.length_map, List.length_cons, List.length_nil]; omega)]
      · have := Keeps.one w g (p + xs.length * 1) (.int .i64 y)
        exact ⟨this.os, this.tape, this.output, this.size, fun i hi hne => this.block i hi (fun e => hne (by rw [e]; rfl))⟩
    · intro hr v' w' h1 h2
      have ho : OwnInts w' w.heap.size .i64 3 v' (xs ++ [y]) := by unfold OwnInts; simpa using h1
      refine h v' w' ((OwnTail.of ho).lower hbase) ⟨h2.os, h2.tape, h2.output, h2.size, fun i hi _ => h2.block i hi (by simp)⟩ ?_
      rcases h1.2 with ⟨_, h0⟩ | ⟨g, cap, cur, rfl, hgb, _⟩
      · omega
      · exact .inr ⟨g, rfl, hgb⟩
end Go.Proofs.Ytnnkfopopanfjaa

/- closure.Reach's memory: left, has, todo: what each write leaves of the others. No condition. -/
set_option linter.unusedVariables false
namespace Go.Proofs.Ytnnkfopopanfjaa
open Go.RowKit Go.ChangeShapes

/-- Left's row lies below the map's block M, todo's row and the map's rows above; the map's rows shun todo's. -/
structure St (w wr : World) (vl : Value) (left : List Int) (M n1 : Nat) (f : Int → List Int) (vt : Value) (todo : List Int) : Prop where
  left : OwnInts wr w.heap.size .i64 3 vl left
  lbelow : ∀ g, vl.ownBlock = some g → g < M
  todo : OwnInts wr (M + 1) .i64 3 vt todo
  has : GroupsAt wr M n1 f
  shuns : wr.Shuns M (fun g => vt.ownBlock = some g)
  base : w.heap.size ≤ M
  top : M < wr.heap.size
  keeps : Keeps NoB w wr
/-- Other writes that touch none of these. -/
theorem St.kept {w wr w' : World} {vl : Value} {left : List Int} {M n1 : Nat} {f : Int → List Int} {vt : Value} {todo : List Int} (h : St w wr vl left M n1 f vt todo) (hk : Keeps NoB wr w') : St w w' vl left M n1 f vt todo := by
  have hg := hk.grownBy none
  obtain ⟨D, hD, hf⟩ := h.has
  refine ⟨h.left.kept hk, h.lbelow, h.todo.kept hk, ⟨D, hD.kept hg (by simp) (fun es clock _ x _ => ?_), hf⟩, h.shuns.kept hg h.top (by simp), h.base, Nat.lt_of_lt_of_le h.top hk.size, h.keeps.fresh hk⟩
  cases x.val.ownBlock with
  | none => exact .inl rfl
  | some g => exact .inr (by simp)
/-- Todo grows. -/
theorem St.todo_grown {w wr w' : World} {vl : Value} {left : List Int} {M n1 : Nat} {f : Int → List Int} {vt vt' : Value} {todo todo' : List Int} (h : St w wr vl left M n1 f vt todo) (hg : wr.grownBy w' vt.ownBlock) (ho : OwnInts w' (M + 1) .i64 3 vt' todo')
    (hat : vt'.ownBlock = vt.ownBlock ∨ vt'.ownBlock = some wr.heap.size) : St w w' vl left M n1 f vt' todo' := by
  obtain ⟨D, hD, hf⟩ := h.has
  have hM : some M ≠ vt.ownBlock := fun e => by have := (h.todo.base_le M e.symm).1; omega
  have hs1 : wr.Shuns M (fun g => vt'.ownBlock = some g) := h.shuns.reno hD (fun g hg' => by
    rcases hat with e | e
    · exact .inl (by rw [← e]; exact hg')
    · right
      have := hg'.symm.trans e
      injection this with this
      omega)
  have hl : vl.ownBlock = none ∨ vl.ownBlock ≠ vt.ownBlock := by
    cases hv : vl.ownBlock with
    | none => exact .inl rfl
    | some g =>
      refine .inr (fun e => ?_)
      have h1 := h.lbelow g hv
      have h2 := (h.todo.base_le g e.symm).1
      omega
  exact ⟨World.ownsRow.kept h.left hg hl, h.lbelow, ho, ⟨D, hD.kept hg hM (h.shuns.rowsOff (fun j hj => hj)), hf⟩, hs1.kept hg h.top hM, h.base, Nat.lt_of_lt_of_le h.top hg.size, h.keeps.grown hg (fun i hi hlt => by have := (h.todo.base_le i hi.symm).1; have := h.base; omega)⟩
/-- A number of left is written: its row lies below all others. -/
theorem St.left_set {w wr w' : World} {vl : Value} {left left' : List Int} {M n1 : Nat} {f : Int → List Int} {vt : Value} {todo : List Int} (h : St w wr vl left M n1 f vt todo) (hg : wr.grownBy w' vl.ownBlock) (ho : OwnInts w' w.heap.size .i64 3 vl left') : St w w' vl left' M n1 f vt todo := by
  obtain ⟨D, hD, hf⟩ := h.has
  have hM : some M ≠ vl.ownBlock := fun e => by have := h.lbelow M e.symm; omega
  have ht : vt.ownBlock = none ∨ vt.ownBlock ≠ vl.ownBlock := by
    cases hv : vt.ownBlock with
    | none => exact .inl rfl
    | some g =>
      refine .inr (fun e => ?_)
      have h1 := h.lbelow g e.symm
      have h2 := (h.todo.base_le g hv).1
      omega
  exact ⟨ho, h.lbelow, World.ownsRow.kept h.todo hg ht, ⟨D, hD.kept hg hM (hD.rowsAbove (fun j hj => by have := h.lbelow j hj; omega)), hf⟩, h.shuns.kept hg h.top hM, h.base, Nat.lt_of_lt_of_le h.top hg.size, h.keeps.grown hg (fun i hi hlt => by have := (h.left.base_le i hi.symm).1; omega)⟩
/-- A number more at a key of the map. -/
theorem St.has_grown {w wr w2 w6 : World} {vl : Value} {left : List Int} {M n1 : Nat} {f : Int → List Int} {vt : Value} {todo : List Int} (h : St w wr vl left M n1 f vt todo) {D : DataW Unit} (hf : Holds D f) {v v' : Value} {zs : List Int} {x k : Int}
    (hoi : wr.ownsInts (M + 1) 3 .i64 v zs) (hat : D.atKey (.int .i64 x) .nil = rowDatum .i64 v zs) (hno : ∀ g, v.ownBlock = some g → ¬ vt.ownBlock = some g) (hall : wr.grownBy w2 v.ownBlock) (hoi' : w2.ownsInts (M + 1) 3 .i64 v' (zs ++ [k]))
    (hown : w6.ownsGroups Try.prog 3 (M + 1) 3 .i64 M (n1 + 1) (D.put (.int .i64 x) (rowDatum .i64 v' (zs ++ [k])))) (hg : w2.grownBy w6 (some M)) (hsh : w6.Shuns M (fun g => vt.ownBlock = some g)) :
    St w w6 vl left M (n1 + 1) (fun y => if y = x then f x ++ [k] else f y) vt todo := by
  have hz := hf.zs hoi hat
  subst hz
  rw [hoi'.datum_pos (by simp)] at hown
  have hvb : ∀ g, v.ownBlock = some g → M + 1 ≤ g := fun g hv => (World.ownsRow.lt hoi.1 g hv).1
  have hl : vl.ownBlock = none ∨ vl.ownBlock ≠ v.ownBlock := by
    cases hv : vl.ownBlock with
    | none => exact .inl rfl
    | some g =>
      refine .inr (fun e => ?_)
      have h1 := h.lbelow g hv
      have h2 := hvb g e.symm
      omega
  have ht : vt.ownBlock = none ∨ vt.ownBlock ≠ v.ownBlock := by
    cases hv : vt.ownBlock with
    | none => exact .inl rfl
    | some g => exact .inr (fun e => hno g e.symm hv)
  have hl2 : vl.ownBlock = none ∨ vl.ownBlock ≠ some M := .inr (fun e => by have := h.lbelow M e; omega)
  have ht2 : vt.ownBlock = none ∨ vt.ownBlock ≠ some M := .inr (fun e => by have := (h.todo.base_le M e).1; omega)
  have hsz := hall.size
  exact ⟨World.ownsRow.kept (World.ownsRow.kept h.left hall hl) hg hl2, h.lbelow, World.ownsRow.kept (World.ownsRow.kept h.todo hall ht) hg ht2, ⟨_, hown, hf.put x _⟩, hsh, h.base, Nat.lt_of_lt_of_le h.top (Nat.le_trans hsz hg.size),
    (h.keeps.grown hall (fun i hi hlt => by have := hvb i hi.symm; have := h.base; omega)).grown hg (fun i hi hlt => by injection hi with hi; have := h.base; omega)⟩
end Go.Proofs.Ytnnkfopopanfjaa

/- closure.Reach's memory in its second loop: left, has, todo (a queue), known. No condition. -/
set_option linter.unusedVariables false
namespace Go.Proofs.Ytnnkfopopanfjaa
open Go.RowKit Go.ChangeShapes Go.WideElems

structure St2 (w wr : World) (vl : Value) (left : List Int) (M n1 : Nat) (f : Int → List Int) (vt : Value) (todo : List Int) (nk : Nat) (known : List Int) : Prop where
  left : OwnInts wr w.heap.size .i64 3 vl left
  lbelow : ∀ g, vl.ownBlock = some g → g < M
  todo : OwnTail wr (M + 1) vt todo
  has : GroupsAt wr M n1 f
  shuns : wr.Shuns M (fun g => vt.ownBlock = some g)
  known : SetAt wr (M + 1) nk known
  base : w.heap.size ≤ M
  top : M + 1 < wr.heap.size
  keeps : Keeps NoB w wr
theorem St2.of {w wr : World} {vl : Value} {left : List Int} {M n1 : Nat} {f : Int → List Int} {vt : Value} {todo : List Int} {nk : Nat} {known : List Int} (h : St w wr vl left M n1 f vt todo) (hk : SetAt wr (M + 1) nk known) : St2 w wr vl left M n1 f vt todo nk known :=
  ⟨h.left, h.lbelow, OwnTail.of h.todo, h.has, h.shuns, hk, h.base, hk.lt, h.keeps⟩
variable {w wr w' : World} {vl : Value} {left : List Int} {M n1 : Nat} {f : Int → List Int} {vt : Value} {todo : List Int} {nk : Nat} {known : List Int}
theorem St2.kept (h : St2 w wr vl left M n1 f vt todo nk known) (hk : Keeps NoB wr w') : St2 w w' vl left M n1 f vt todo nk known := by
  have hg := hk.grownBy none
  obtain ⟨D, hD, hf⟩ := h.has
  refine ⟨h.left.kept hk, h.lbelow, h.todo.keeps hk (fun _ _ h => h), ⟨D, hD.kept hg (by simp) (fun es clock _ x _ => ?_), hf⟩, h.shuns.kept hg (Nat.lt_of_succ_lt h.top) (by simp), h.known.keeps hk (fun h => h), h.base, Nat.lt_of_lt_of_le h.top hk.size, h.keeps.fresh hk⟩
  cases x.val.ownBlock with
  | none => exact .inl rfl
  | some g => exact .inr (by simp)
theorem tail_ne {v : Value} {base : Nat} {xs : List Int} {b n : Nat} {l : List Int} (hm : SetAt wr b n l) (h : OwnTail wr base v xs) : v.ownBlock ≠ some b := by
  obtain ⟨es, clock, hb, _⟩ := hm
  rcases h with ⟨rfl, _⟩ | ⟨g, p, cap, cur, rfl, _, hg, _⟩
  · simp [Value.ownBlock]
  · intro e1
    have : g = b := by simpa [Value.ownBlock] using e1
    subst this
    rw [hb] at hg; cases hg
theorem OwnInts.ints {w : World} {base : Nat} {q : IntKind} {e : TypeId} {A : Option Addr} {n c : Nat} {xs : List Int} (h : OwnInts w base q e (.slice A n c) xs) : IntsAt w q A xs ∧ n = xs.length := by
  obtain ⟨A', c', e, _, h2⟩ := h.reads
  injection e with e1 e2 e3
  subst e1
  exact ⟨h2, e2⟩
/-- The queue, shortened. -/
theorem St2.todo_cut {vt' : Value} {todo' : List Int} (h : St2 w wr vl left M n1 f vt todo nk known) (ho : OwnTail wr (M + 1) vt' todo') (hat : vt'.ownBlock = vt.ownBlock) : St2 w wr vl left M n1 f vt' todo' nk known :=
  ⟨h.left, h.lbelow, ho, h.has, by rw [show (fun g => vt'.ownBlock = some g) = (fun g => vt.ownBlock = some g) by rw [hat]]; exact h.shuns, h.known, h.base, h.top, h.keeps⟩
/-- The queue, with one more. -/
theorem St2.todo_grown {vt' : Value} {todo' : List Int} (h : St2 w wr vl left M n1 f vt todo nk known) (hg : wr.grownBy w' vt.ownBlock) (ho : OwnTail w' (M + 1) vt' todo') (hat : vt'.ownBlock = vt.ownBlock ∨ ∃ g, vt'.ownBlock = some g ∧ wr.heap.size ≤ g) : St2 w w' vl left M n1 f vt' todo' nk known := by
  obtain ⟨D, hD, hf⟩ := h.has
  have hM : some M ≠ vt.ownBlock := fun e => by have := (h.todo.base_le M e.symm).1; omega
  have hM1 : some (M + 1) ≠ vt.ownBlock := fun e => tail_ne h.known h.todo e.symm
  have hs1 : wr.Shuns M (fun g => vt'.ownBlock = some g) := h.shuns.reno hD (fun g hg' => by
    rcases hat with e | ⟨g', e, hge⟩
    · exact .inl (by rw [← e]; exact hg')
    · right
      have := hg'.symm.trans e
      injection this with this
      omega)
  have hl : vl.ownBlock = none ∨ vl.ownBlock ≠ vt.ownBlock := by
    cases hv : vl.ownBlock with
    | none => exact .inl rfl
    | some g =>
      refine .inr (fun e => ?_)
      have h1 := h.lbelow g hv
      have h2 := (h.todo.base_le g e.symm).1
      omega
  exact ⟨World.ownsRow.kept h.left hg hl, h.lbelow, ho, ⟨D, hD.kept hg hM (h.shuns.rowsOff (fun j hj => hj)), hf⟩, hs1.kept hg (Nat.lt_of_succ_lt h.top) hM, h.known.keeps (Keeps.ofGrown hg) (fun e => hM1 e), h.base, Nat.lt_of_lt_of_le h.top hg.size, h.keeps.grown hg (fun i hi hlt => by have := (h.todo.base_le i hi.symm).1; have := h.base; omega)⟩
/-- A number of left is written. -/
theorem St2.left_set {left' : List Int} (h : St2 w wr vl left M n1 f vt todo nk known) (hg : wr.grownBy w' vl.ownBlock) (ho : OwnInts w' w.heap.size .i64 3 vl left') : St2 w w' vl left' M n1 f vt todo nk known := by
  obtain ⟨D, hD, hf⟩ := h.has
  have hM : some M ≠ vl.ownBlock := fun e => by have := h.lbelow M e.symm; omega
  have ht : ∀ b, vt.ownBlock = some b → ¬ some b = vl.ownBlock := fun b hb e => by
    have h1 := h.lbelow b e.symm
    have h2 := (h.todo.base_le b hb).1
    omega
  exact ⟨ho, h.lbelow, h.todo.keeps (Keeps.ofGrown hg) ht, ⟨D, hD.kept hg hM (hD.rowsAbove (fun j hj => by have := h.lbelow j hj; omega)), hf⟩, h.shuns.kept hg (Nat.lt_of_succ_lt h.top) hM, h.known.keeps (Keeps.ofGrown hg) (fun e => by have := h.lbelow (M + 1) e.symm; omega), h.base, Nat.lt_of_lt_of_le h.top hg.size, h.keeps.grown hg (fun i hi hlt => by have := (h.left.base_le i hi.symm).1; omega)⟩
/-- A block more is known. -/
theorem St2.known_put {nk' : Nat} {known' : List Int} (h : St2 w wr vl left M n1 f vt todo nk known) (hg : wr.grownBy w' (some (M + 1))) (hs : SetAt w' (M + 1) nk' known') : St2 w w' vl left M n1 f vt todo nk' known' := by
  obtain ⟨D, hD, hf⟩ := h.has
  have hM : some M ≠ some (M + 1) := by simp
  have hrows : ∀ es clock, wr.heap[M]? = some (.map es clock) → ∀ x ∈ es.toList, x.val.ownBlock = none ∨ x.val.ownBlock ≠ some (M + 1) := fun es clock hb x hx => by
    obtain ⟨es', clock', hb', F, _⟩ := hD
    obtain ⟨rfl, rfl⟩ : es' = es ∧ clock' = clock := by rw [hb'] at hb; simpa using hb
    obtain ⟨y, hy⟩ := F.reads x hx
    obtain ⟨z, hz, _⟩ := rd_val hy
    obtain ⟨zs, hoi, _⟩ := rowElem_inv hz
    exact .inr (fun e => ne_own (q := .i64) (e := 3) (xs := zs) h.known hoi.1 e.symm)
  have hl : vl.ownBlock = none ∨ vl.ownBlock ≠ some (M + 1) := .inr (fun e => by have := h.lbelow _ e; omega)
  exact ⟨World.ownsRow.kept h.left hg hl, h.lbelow, h.todo.keeps (Keeps.ofGrown hg) (fun b hb e => tail_ne h.known h.todo (by rw [hb, e])), ⟨D, hD.kept hg hM hrows, hf⟩, h.shuns.kept hg (Nat.lt_of_succ_lt h.top) hM, hs, h.base, Nat.lt_of_lt_of_le h.top hg.size, h.keeps.grown hg (fun i hi hlt => by injection hi with hi; have := h.base; omega)⟩
end Go.Proofs.Ytnnkfopopanfjaa

/- The keys of a set that is ranged over, collected. No condition. -/
set_option linter.unusedVariables false
namespace Go.Proofs.Ytnnkfopopanfjaa
open Go.RowKit Go.Maps

def setD (l : List Int) : DataW Unit := Maps.setOf (.agg []) (l.map (Lit.int .i64))
/-- The range over a set under way. -/
def SetRange (w : World) (b r n : Nat) (l : List Int) (left : Lit → Bool) (cnt : Nat) : Prop := w.ranges (H := Unit) Try.prog 3 unitElem b r n (setD l) left cnt
theorem SetRange.set {w : World} {b r n : Nat} {l : List Int} {left : Lit → Bool} {cnt : Nat} (h : SetRange w b r n l left cnt) : SetAt w b n l := World.ranges.owns h
theorem SetRange.keeps {w w' : World} {b r n : Nat} {l : List Int} {left : Lit → Bool} {cnt : Nat} (h : SetRange w b r n l left cnt) {row : Option Nat} (hg : w.grownBy w' row) (hb : some b ≠ row) (hr : some r ≠ row) : SetRange w' b r n l left cnt := World.ranges.kept h hg hb hr
theorem SetRange.alloc {w : World} {b r n : Nat} {l : List Int} {left : Lit → Bool} {cnt : Nat} (h : SetRange w b r n l left cnt) (o : Obj) : SetRange (w.alloc o) b r n l left cnt := World.ranges.alloc h o
/-- What was collected: of the keys those that are no longer to come, none twice. -/
def Coll (l : List Int) (left : Lit → Bool) (ss : List Int) : Prop := ss.Nodup ∧ ∀ x, x ∈ ss ↔ (x ∈ l ∧ left (.int .i64 x) = false)
theorem Coll.start (l : List Int) : Coll l (Maps.has (setD l)) [] := ⟨List.nodup_nil, fun x => by
  have := set_has l x
  unfold setD
  rw [this]
  simp⟩
theorem Coll.step {l : List Int} {left : Lit → Bool} {ss : List Int} {x : Int} (h : Coll l left ss) (hl : left (.int .i64 x) = true) (hx : x ∈ l) : Coll l (fun z => left z && !z.sameKey (.int .i64 x)) (ss ++ [x]) := by
  have hn : x ∉ ss := fun hm => by have := ((h.2 x).1 hm).2; rw [hl] at this; cases this
  refine ⟨List.nodup_append.2 ⟨h.1, by simp, fun a ha b hb => by rw [List.mem_singleton.1 hb]; exact fun e => hn (e ▸ ha)⟩, fun y => ?_⟩
  rw [List.mem_append, List.mem_singleton, h.2 y]
  show _ ↔ y ∈ l ∧ (left (.int .i64 y) && !(Lit.int .i64 y).sameKey (.int .i64 x)) = false
  rw [same_key_int]
  by_cases e : y = x
  · subst e; simp [hx]
  · simp [e]
theorem Coll.end_ {l : List Int} {left : Lit → Bool} {ss : List Int} (h : Coll l left ss) (hl : ∀ kl, left kl = false) : ss.Nodup ∧ ∀ x, x ∈ ss ↔ x ∈ l := ⟨h.1, fun x => by rw [h.2 x, hl]; simp⟩
/-- 'range m', m a set. -/
theorem wpList_range_set (w : World) {ops : Array Oper} {rest : List Oper} {o : Oper} {a : Act} {Q : Exit → Act → World → Prop} (hg : o.guard = none) (m : Operand) (t : TypeId) (hop : o.op = Op.range t m) (ht : Try.prog.underlying t = some (.map 3 148)) (b n : Nat) (l : List Int)
    (hm : a.eval m = .map (some b)) (hown : SetAt w b n l)
    (hK : ∀ w' cnt, SetRange w' b w.heap.size n l (Maps.has (setD l)) cnt → cnt ≤ n → w.grownBy w' none → w'.heap.size = w.heap.size + 1 → wpList Try.prog ops Q rest (a.put o.dst (.pointer (some ⟨w.heap.size, 0, none⟩))) w') :
    wpList Try.prog ops Q (o :: rest) a w :=
  wpList_range_own w hg m t hop 3 148 key_law ht unitElem b n _ hm hown (fun w' h1 h2 h3 => hK w' _ h1 (World.ownsMap.size_le hown) h2 h3)
/-- The step. -/
theorem wpList_next_set (w : World) {ops : Array Oper} {rest : List Oper} {o : Oper} {a : Act} {Q : Exit → Act → World → Prop} (hg : o.guard = none) (it : Operand) (hop : o.op = Op.next it false) (b r n : Nat) (l : List Int) (left : Lit → Bool) (cnt : Nat)
    (hit : a.eval it = .pointer (some ⟨r, 0, none⟩)) (h : SetRange w b r n l left cnt)
    (hDone : cnt = 0 → (∀ kl, left kl = false) → wpList Try.prog ops Q rest (a.put o.dst (.tuple #[.bool false])) w)
    (hMore : ∀ (x : Int) (w' : World) (cnt' : Nat), (Lit.int .i64 x).wf = true → left (.int .i64 x) = true → x ∈ l → SetRange w' b r n l (fun z => left z && !z.sameKey (.int .i64 x)) cnt' → cnt' < cnt → w.grownBy w' (some r) → w'.heap.size = w.heap.size →
      (Instr.entry (.pointer (some ⟨r, 0, none⟩))).run Try.prog w' = .ok (.tuple #[.int .i64 x, .agg #[]]) w' → wpList Try.prog ops Q rest (a.put o.dst (.tuple #[.bool true, .int .i64 x, .agg #[]])) w') :
    wpList Try.prog ops Q (o :: rest) a w :=
  wpList_next_ranges (α := Int) (β := Unit) w hg it hop 3 key_law unitElem (Value.int .i64) (fun _ => .agg #[]) (fun key kl hkey => by obtain ⟨x, rfl, _⟩ := Maps.keyOf_int_inv Try.underlying3 hkey; exact ⟨x, rfl⟩)
    (fun v y hv => ⟨(), (unitElem_inv hv).1⟩) b r n (setD l) left cnt hit h hDone (fun x c kl y w' cnt' hkey hlk hv hat hrg hlt hgr hsz hen => by
      obtain ⟨x', ex, rfl, hwx⟩ := Maps.keyOf_int_inv Try.underlying3 hkey
      cases ex
      have hx : x ∈ l := by
        have h1 := Maps.has_true_of_atKey hat
        unfold setD at h1
        rw [set_has] at h1
        simpa using h1
      exact hMore x w' cnt' hwx hlk hx hrg hlt hgr hsz hen)
theorem SetRange.left_eq {w : World} {b r n : Nat} {l : List Int} {left : Lit → Bool} {cnt : Nat} (h : SetRange w b r n l left cnt) : w.rangeLeft b r = cnt := World.ranges.left_eq h
theorem SetRange.ne_iter {w : World} {b r n : Nat} {l : List Int} {left : Lit → Bool} {cnt : Nat} (h : SetRange w b r n l left cnt) {base : Nat} {q : IntKind} {e : TypeId} {v : Value} {xs : List Int} (ho : OwnInts w base q e v xs) : some r ≠ v.ownBlock := by
  obtain ⟨es, clock, since, seen, c0, hb, F, hs, hD, hr, _⟩ := h
  rcases ho.2 with ⟨rfl, _⟩ | ⟨g, cap, cur, rfl, _, hg, _⟩
  · simp [Value.ownBlock]
  · intro e1
    have : r = g := by simpa [Value.ownBlock] using e1
    subst this
    rw [hr] at hg; cases hg
/-- How many a set has that was put once each. -/
theorem setD_size (l : List Int) (hd : l.Nodup) : Maps.size (setD l) = l.length := by
  unfold setD
  rw [Maps.size_setOf _ _ (fun y hy => by obtain ⟨a, _, rfl⟩ := List.mem_map.1 hy; trivial)]
  suffices H : ∀ (l acc : List Int), (acc ++ l).Nodup → ((l.map (Lit.int .i64)).foldl Maps.addKey (acc.map (Lit.int .i64))) = (acc ++ l).map (Lit.int .i64) by
    have := H l [] (by simpa using hd)
    simp only [List.map_nil, List.nil_append] at this
    rw [this, List.length_map]
  intro l
  induction l with
  | nil => intro acc _; simp
  | cons x l ih =>
    intro acc hn
    have hx : x ∉ acc := by
      intro hm
      rw [List.nodup_append] at hn
      exact hn.2.2 x hm x (by simp) rfl
    have e1 : Maps.addKey (acc.map (Lit.int .i64)) (.int .i64 x) = (acc ++ [x]).map (Lit.int .i64) := by
      unfold Maps.addKey
      rw [if_neg, List.map_append]; rfl
      rw [List.any_eq_true]
      rintro ⟨y, hy, h⟩
      obtain ⟨a, ha, rfl⟩ := List.mem_map.1 hy
      rw [same_key_int, decide_eq_true_eq] at h
      exact hx (h ▸ ha)
    rw [List.map_cons, List.foldl_cons, e1, ih (acc ++ [x]) (by simpa using hn)]
    simp
end Go.Proofs.Ytnnkfopopanfjaa

/- Are numbers of blocks such as there are, rising; are all of an equation's blocks among some: the walks. Conditions: numbers are of their kinds. -/
set_option linter.unusedVariables false
namespace Go.Proofs.Ytnnkfopopanfjaa
open Go.RowKit

end Go.Proofs.Ytnnkfopopanfjaa

/- Are all blocks of an equation among those that are known: the walk of closure.Closed. Conditions: the known rise; lengths are small. -/
set_option linter.unusedVariables false
namespace Go.Proofs.Ytnnkfopopanfjaa
open Go.RowKit

def inAllN (known of : List Int) : Bool := of.all fun i => decide (i ∈ known)
theorem inAllN_no {known of : List Int} {k : Nat} (hk : k < of.length) (h : gi of k ∉ known) : inAllN known of = false := by
  have hm : gi of k ∈ of := by
    have : gi of k = of[k] := by simp [gi, hk]
    rw [this]; exact List.getElem_mem _
  cases hx : inAllN known of with
  | false => rfl
  | true => exact absurd (of_decide_eq_true (List.all_eq_true.1 hx _ hm)) h
theorem inAllN_yes {known of : List Int} (h : ∀ k, k < of.length → gi of k ∈ known) : inAllN known of = true :=
  List.all_eq_true.2 fun x hx => by
    obtain ⟨k, hk, rfl⟩ := List.getElem_of_mem hx
    have := h k hk
    exact decide_eq_true (by simpa [gi, hk] using this)

end Go.Proofs.Ytnnkfopopanfjaa
