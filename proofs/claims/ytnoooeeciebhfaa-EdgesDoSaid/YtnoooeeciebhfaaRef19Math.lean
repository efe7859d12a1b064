/- The reference's equations as a list, and the graph that they are. No condition. -/
import Derived.Test.YtnoooeeciebhfaaGraphOk
import Derived.Test.YtnoooeeciebhfaaRefSome
import Derived.Test.YtnoooeeciebhfaaSampleMath
set_option linter.unusedVariables false
namespace Go.Proofs.Ytnoooeeciebhfaa
open Go.RowKit

structure EqN where
  num : Int
  rest : List Int
def nums (es : List EqN) : List Int := es.map EqN.num
theorem ins_rise {l : List Int} (h : l.Pairwise (· < ·)) {x : Int} (hx : x ∉ l) : (ins x l).Pairwise (· < ·) := by
  have h1 := ins_sorted x l (h.imp (fun h => by omega))
  have h2 : (ins x l).Nodup := (ins_perm x l).nodup_iff.2 (List.nodup_cons.2 ⟨hx, h.imp (fun h e => by omega)⟩)
  exact h1.imp₂ (fun a b h1 h2 => by omega) h2
/-- Numbers laid in, each once. -/
def insAll (bs : List Int) : List Int := bs.foldl (fun acc y => if y ∈ acc then acc else ins y acc) []
theorem insAll_snoc (bs : List Int) (y : Int) : insAll (bs ++ [y]) = if y ∈ insAll bs then insAll bs else ins y (insAll bs) := by unfold insAll; rw [List.foldl_append]; rfl
theorem insAll_spec (bs : List Int) : (insAll bs).Pairwise (· < ·) ∧ (∀ y, y ∈ insAll bs ↔ y ∈ bs) ∧ (insAll bs).length ≤ bs.length := by
  suffices H : ∀ n (bs : List Int), bs.length = n → (insAll bs).Pairwise (· < ·) ∧ (∀ y, y ∈ insAll bs ↔ y ∈ bs) ∧ (insAll bs).length ≤ bs.length from H _ bs rfl
  intro n
  induction n with
  | zero =>
    intro l hl
    have := List.length_eq_zero_iff.1 hl
    subst this
    exact ⟨List.Pairwise.nil, fun y => Iff.rfl, Nat.le_refl _⟩
  | succ n ih =>
    intro l hl
    rcases List.eq_nil_or_concat l with h | ⟨l', y, h⟩
    · subst h; cases hl
    · subst h
      rw [List.concat_eq_append] at hl ⊢
      rw [List.length_append] at hl
      obtain ⟨h1, h2, h3⟩ := ih l' (by simpa using hl)
      rw [insAll_snoc]
      by_cases hy : y ∈ insAll l'
      · rw [if_pos hy]
        refine ⟨h1, fun z => ?_, by rw [List.length_append]; omega⟩
        rw [h2, List.mem_append, List.mem_singleton]
        constructor
        · exact .inl
        · rintro (h | rfl)
          · exact h
          · exact (h2 z).1 hy
      · rw [if_neg hy]
        refine ⟨ins_rise h1 hy, fun z => ?_, by rw [ins_length, List.length_append]; simp; omega⟩
        rw [mem_ins, List.mem_append, List.mem_singleton, h2]
        exact Or.comm
/-- What the list is like. -/
structure GoodN (es : List EqN) : Prop where
  one : (nums es).Nodup
  rise : ∀ e ∈ es, e.rest.Pairwise (· < ·)
theorem GoodN.nil : GoodN [] := ⟨List.nodup_nil, fun e he => by cases he⟩
/-- The graph that a list of equations is. -/
def repN (es : List EqN) : GF := fun x => match es.find? (fun e => decide (e.num = x)) with | some e => some (fun y => decide (y ∈ e.rest)) | none => none
theorem repN_nil : repN [] = fun _ => none := rfl
theorem repN_none {es : List EqN} {x : Int} (h : x ∉ nums es) : repN es x = none := by
  unfold repN
  have : es.find? (fun e => decide (e.num = x)) = none := List.find?_eq_none.2 (fun e he hd => h (List.mem_map.2 ⟨e, he, of_decide_eq_true hd⟩))
  rw [this]
theorem repN_some {es : List EqN} (hg : GoodN es) {e : EqN} (he : e ∈ es) : repN es e.num = some (fun y => decide (y ∈ e.rest)) := by
  have key : ∀ es : List EqN, (nums es).Nodup → e ∈ es → es.find? (fun f => decide (f.num = e.num)) = some e := by
    intro es
    induction es with
    | nil => intro _ h; cases h
    | cons f es ih =>
      intro hn hm
      rw [List.find?_cons]
      rcases List.mem_cons.1 hm with rfl | hm
      · simp
      · have hne : f.num ≠ e.num := fun h => (List.nodup_cons.1 (show (f.num :: nums es).Nodup from hn)).1 (h ▸ List.mem_map.2 ⟨e, hm, rfl⟩)
        rw [decide_eq_false hne]
        exact ih (List.nodup_cons.1 (show (f.num :: nums es).Nodup from hn)).2 hm
  unfold repN
  rw [key es hg.one he]
theorem repN_isSome (es : List EqN) (x : Int) : (repN es x).isSome = decide (x ∈ nums es) := by
  by_cases h : x ∈ nums es
  · obtain ⟨e, he, hx⟩ := List.mem_map.1 h
    have : ∃ f, es.find? (fun e => decide (e.num = x)) = some f := by
      cases hf : es.find? (fun e => decide (e.num = x)) with
      | some f => exact ⟨f, rfl⟩
      | none => exact absurd (decide_eq_true hx) (by simpa using List.find?_eq_none.1 hf e he)
    obtain ⟨f, hf⟩ := this
    unfold repN
    rw [hf, decide_eq_true h]; rfl
  · rw [repN_none h, decide_eq_false h]; rfl
theorem hasF_repN {es : List EqN} (hg : GoodN es) (x y : Int) : hasF (repN es) x y = true ↔ ∃ e ∈ es, e.num = x ∧ y ∈ e.rest := by
  constructor
  · intro h
    by_cases hx : x ∈ nums es
    · obtain ⟨e, he, hx⟩ := List.mem_map.1 hx
      rw [← hx, hasF_some (repN_some hg he)] at h
      exact ⟨e, he, hx, of_decide_eq_true h⟩
    · rw [hasF_none (repN_none hx)] at h; cases h
  · rintro ⟨e, he, rfl, hy⟩
    rw [hasF_some (repN_some hg he)]
    exact decide_eq_true hy
theorem GF.ext_iff {F G : GF} (h1 : ∀ x, (F x).isSome = (G x).isSome) (h2 : ∀ x y, hasF F x y = true ↔ hasF G x y = true) : F = G := GF.ext h1 (fun x y => by rw [Bool.eq_iff_iff]; exact h2 x y)
/-- The reference's Add, Take, Drop, Of, Edges. -/
def addN (es : List EqN) (n : Int) (bs : List Int) : List EqN := es ++ [⟨n, insAll bs⟩]
theorem GoodN.add {es : List EqN} (h : GoodN es) {n : Int} (hn : n ∉ nums es) (bs : List Int) : GoodN (addN es n bs) := by
  refine ⟨?_, fun e he => ?_⟩
  · unfold nums addN
    rw [List.map_append]
    exact nodup_app h.one (by simp) (fun a ha hm => by
      have : a = n := List.mem_singleton.1 hm
      exact hn (this ▸ ha))
  · rcases List.mem_append.1 he with he | he
    · exact h.rise e he
    · rw [List.mem_singleton.1 he]; exact (insAll_spec bs).1
theorem repN_add {es : List EqN} (h : GoodN es) {n : Int} (hn : n ∉ nums es) (bs : List Int) : addK (repN es) n bs = repN (addN es n bs) := by
  refine GF.ext_iff (fun x => ?_) (fun x y => ?_)
  · rw [repN_isSome]
    unfold addK
    by_cases e : x = n
    · rw [e, updF_same]; simp [nums, addN]
    · rw [updF_ne _ _ e, repN_isSome]
      simp [nums, addN, e]
  · rw [hasF_repN (h.add hn bs)]
    unfold addK
    rw [hasF_upd]
    by_cases e : x = n
    · rw [if_pos e, e]
      constructor
      · intro hy
        exact ⟨⟨n, insAll bs⟩, List.mem_append_right _ (List.mem_singleton.2 rfl), rfl, ((insAll_spec bs).2.1 y).2 (of_decide_eq_true hy)⟩
      · rintro ⟨f, hf, h1, h2⟩
        rcases List.mem_append.1 hf with hf | hf
        · exact absurd (List.mem_map.2 ⟨f, hf, h1⟩) hn
        · rw [List.mem_singleton.1 hf] at h2
          exact decide_eq_true (((insAll_spec bs).2.1 y).1 h2)
    · rw [if_neg e, hasF_repN h]
      constructor
      · rintro ⟨f, hf, h1, h2⟩; exact ⟨f, List.mem_append_left _ hf, h1, h2⟩
      · rintro ⟨f, hf, h1, h2⟩
        rcases List.mem_append.1 hf with hf | hf
        · exact ⟨f, hf, h1, h2⟩
        · rw [List.mem_singleton.1 hf] at h1; exact absurd h1.symm e
theorem okN (es : List EqN) (n : Int) (bs : List Int) : okA (repN es) n bs = (!decide (n ∈ nums es) && !bs.isEmpty) := by
  unfold okA
  have := repN_isSome es n
  cases hr : repN es n with
  | none => rw [hr] at this; rw [← this]; rfl
  | some s => rw [hr] at this; rw [← this]; rfl
def withoutN (l : List Int) (b : Int) : List Int := l.filter fun y => !decide (y = b)
def takeN (es : List EqN) (b : Int) : List EqN := es.map fun e => ⟨e.num, withoutN e.rest b⟩
theorem nums_take (es : List EqN) (b : Int) : nums (takeN es b) = nums es := by unfold nums takeN; rw [List.map_map]; rfl
theorem GoodN.take {es : List EqN} (h : GoodN es) (b : Int) : GoodN (takeN es b) := by
  refine ⟨by rw [nums_take]; exact h.one, fun e he => ?_⟩
  obtain ⟨f, hf, rfl⟩ := List.mem_map.1 he
  exact (h.rise f hf).filter _
theorem repN_take {es : List EqN} (h : GoodN es) (b : Int) : takeF (repN es) b = repN (takeN es b) := by
  refine GF.ext_iff (fun x => ?_) (fun x y => ?_)
  · rw [repN_isSome, nums_take, ← repN_isSome]
    unfold takeF
    cases repN es x <;> rfl
  · rw [hasF_take, Bool.and_eq_true, hasF_repN h, hasF_repN (h.take b)]
    constructor
    · rintro ⟨⟨e, he, h1, h2⟩, h3⟩
      exact ⟨⟨e.num, withoutN e.rest b⟩, List.mem_map.2 ⟨e, he, rfl⟩, h1, List.mem_filter.2 ⟨h2, h3⟩⟩
    · rintro ⟨f, hf, h1, h2⟩
      obtain ⟨e, he, rfl⟩ := List.mem_map.1 hf
      exact ⟨⟨e, he, h1, (List.mem_filter.1 h2).1⟩, (List.mem_filter.1 h2).2⟩
def dropN (es : List EqN) (n : Int) : List EqN := es.filter fun e => !decide (e.num = n)
theorem GoodN.drop {es : List EqN} (h : GoodN es) (n : Int) : GoodN (dropN es n) :=
  ⟨List.Sublist.nodup (List.Sublist.map _ (List.filter_sublist)) h.one, fun e he => h.rise e (List.mem_filter.1 he).1⟩
theorem repN_drop {es : List EqN} (h : GoodN es) (n : Int) : updF (repN es) n none = repN (dropN es n) := by
  have hm : ∀ x, x ∈ nums (dropN es n) ↔ x ∈ nums es ∧ x ≠ n := fun x => by
    unfold nums dropN
    rw [List.mem_map, List.mem_map]
    constructor
    · rintro ⟨e, he, rfl⟩
      obtain ⟨h1, h2⟩ := List.mem_filter.1 he
      exact ⟨⟨e, h1, rfl⟩, by simpa using h2⟩
    · rintro ⟨⟨e, he, rfl⟩, h2⟩
      exact ⟨e, List.mem_filter.2 ⟨he, by simpa using h2⟩, rfl⟩
  refine GF.ext_iff (fun x => ?_) (fun x y => ?_)
  · rw [repN_isSome]
    by_cases e : x = n
    · rw [e, updF_same, decide_eq_false (fun hx => ((hm n).1 hx).2 rfl)]; rfl
    · rw [updF_ne _ _ e, repN_isSome, Bool.eq_iff_iff, decide_eq_true_iff, decide_eq_true_iff, hm]
      exact ⟨fun h => ⟨h, e⟩, fun h => h.1⟩
  · rw [hasF_upd_none, Bool.and_eq_true, hasF_repN h, hasF_repN (h.drop n)]
    constructor
    · rintro ⟨h1, e, he, rfl, h2⟩
      exact ⟨e, List.mem_filter.2 ⟨he, h1⟩, rfl, h2⟩
    · rintro ⟨e, he, rfl, h2⟩
      obtain ⟨h3, h4⟩ := List.mem_filter.1 he
      exact ⟨h4, e, h3, rfl, h2⟩
def ofN (es : List EqN) (b : Int) : List Int := es.foldl (fun acc e => if b ∈ e.rest then ins e.num acc else acc) []
theorem ofN_snoc (es : List EqN) (e : EqN) (b : Int) : ofN (es ++ [e]) b = if b ∈ e.rest then ins e.num (ofN es b) else ofN es b := by unfold ofN; rw [List.foldl_append]; rfl
theorem ofN_spec (es : List EqN) (b : Int) (h : (nums es).Nodup) : (ofN es b).Pairwise (· < ·) ∧ (∀ x, x ∈ ofN es b ↔ ∃ e ∈ es, e.num = x ∧ b ∈ e.rest) ∧ (ofN es b).length ≤ es.length := by
  suffices H : ∀ n (es : List EqN), es.length = n → (nums es).Nodup → (ofN es b).Pairwise (· < ·) ∧ (∀ x, x ∈ ofN es b ↔ ∃ e ∈ es, e.num = x ∧ b ∈ e.rest) ∧ (ofN es b).length ≤ es.length from H _ es rfl h
  intro n
  induction n with
  | zero =>
    intro es hl _
    have := List.length_eq_zero_iff.1 hl
    subst this
    exact ⟨List.Pairwise.nil, fun x => by simp [ofN], Nat.le_refl _⟩
  | succ n ih =>
    intro es hl hnd
    rcases List.eq_nil_or_concat es with h | ⟨es', e, h⟩
    · subst h; cases hl
    · subst h
      rw [List.concat_eq_append] at hl hnd ⊢
      rw [List.length_append] at hl
      have hnd' : (nums es' ++ [e.num]).Nodup := by unfold nums at hnd; rw [List.map_append] at hnd; exact hnd
      obtain ⟨hn1, hn2, hn3⟩ := List.nodup_append.1 hnd'
      obtain ⟨h1, h2, h3⟩ := ih es' (by simpa using hl) hn1
      rw [ofN_snoc]
      by_cases hb : b ∈ e.rest
      · rw [if_pos hb]
        have hnew : e.num ∉ ofN es' b := fun hm => by
          obtain ⟨f, hf, h4, _⟩ := (h2 _).1 hm
          exact hn3 f.num (List.mem_map.2 ⟨f, hf, rfl⟩) e.num (List.mem_singleton.2 rfl) h4
        refine ⟨ins_rise h1 hnew, fun x => ?_, by rw [ins_length, List.length_append]; simp; omega⟩
        rw [mem_ins, h2]
        constructor
        · rintro (rfl | ⟨f, hf, h4, h5⟩)
          · exact ⟨e, List.mem_append_right _ (List.mem_singleton.2 rfl), rfl, hb⟩
          · exact ⟨f, List.mem_append_left _ hf, h4, h5⟩
        · rintro ⟨f, hf, h4, h5⟩
          rcases List.mem_append.1 hf with hf | hf
          · exact .inr ⟨f, hf, h4, h5⟩
          · rw [List.mem_singleton.1 hf] at h4; exact .inl h4.symm
      · rw [if_neg hb]
        refine ⟨h1, fun x => ?_, by rw [List.length_append]; omega⟩
        rw [h2]
        constructor
        · rintro ⟨f, hf, h4, h5⟩; exact ⟨f, List.mem_append_left _ hf, h4, h5⟩
        · rintro ⟨f, hf, h4, h5⟩
          rcases List.mem_append.1 hf with hf | hf
          · exact ⟨f, hf, h4, h5⟩
          · rw [List.mem_singleton.1 hf] at h5; exact absurd h5 hb
theorem keys_ofN {es : List EqN} (h : GoodN es) {b : Int} {l : List Int} (hl : KeysOf (fun z => hasF (repN es) z b) l) : l = ofN es b :=
  hl.eq (ofN_spec es b h.one).1 (fun x => by rw [(ofN_spec es b h.one).2.1, hasF_repN h])
theorem keys_rest {es : List EqN} (h : GoodN es) {e : EqN} (he : e ∈ es) {l : List Int} (hl : KeysOf (hasF (repN es) e.num) l) : l = e.rest :=
  hl.eq (h.rise e he) (fun y => by rw [hasF_some (repN_some h he), decide_eq_true_iff])
def edgesN (es : List EqN) : Nat := (es.map fun e => e.rest.length).sum
theorem edgesN_snoc (es : List EqN) (e : EqN) : edgesN (es ++ [e]) = edgesN es + e.rest.length := by unfold edgesN; rw [List.map_append, List.sum_append]; simp
theorem cnt_repN {es : List EqN} (h : GoodN es) : Cnt (repN es) (edgesN es) := by
  refine ⟨es.flatMap fun e => e.rest.map fun y => (e.num, y), ?_, fun x y => ?_, ?_⟩
  · have key : ∀ es : List EqN, (nums es).Nodup → (∀ e ∈ es, e.rest.Nodup) → (es.flatMap fun e => e.rest.map fun y => (e.num, y)).Nodup := by
      intro es
      induction es with
      | nil => intro _ _; exact List.nodup_nil
      | cons e es ih =>
        intro h1 h2
        obtain ⟨h3, h4⟩ := List.nodup_cons.1 (show (e.num :: nums es).Nodup from h1)
        rw [List.flatMap_cons]
        refine nodup_app (nodup_pair_l (h2 e (List.mem_cons_self ..)) e.num) (ih h4 (fun f hf => h2 f (List.mem_cons_of_mem _ hf))) (fun a ha hm => ?_)
        obtain ⟨y, _, rfl⟩ := List.mem_map.1 ha
        obtain ⟨f, hf, hm⟩ := List.mem_flatMap.1 hm
        obtain ⟨z, _, e1⟩ := List.mem_map.1 hm
        injection e1 with e1 _
        exact h3 (e1 ▸ List.mem_map.2 ⟨f, hf, rfl⟩)
    exact key es h.one (fun e he => (h.rise e he).imp (fun h e => by omega))
  · rw [hasF_repN h, List.mem_flatMap]
    constructor
    · rintro ⟨e, he, hm⟩
      obtain ⟨z, hz, e1⟩ := List.mem_map.1 hm
      injection e1 with e1 e2
      exact ⟨e, he, e1, e2 ▸ hz⟩
    · rintro ⟨e, he, rfl, hy⟩
      exact ⟨e, he, List.mem_map.2 ⟨y, hy, rfl⟩⟩
  · rw [List.length_flatMap]
    unfold edgesN
    simp
theorem Cnt.uniq {F : GF} {c d : Int} (h : Cnt F c) (k : Cnt F d) : c = d := by
  obtain ⟨E, h1, h2, h3⟩ := h
  obtain ⟨E', k1, k2, k3⟩ := k
  have := len_same h1 k1 (fun a => by obtain ⟨x, y⟩ := a; rw [h2, k2])
  omega
theorem edgesN_le (es : List EqN) (N : Nat) (h : ∀ e ∈ es, e.rest.length ≤ N) : edgesN es ≤ es.length * N := by
  induction es with
  | nil => simp [edgesN]
  | cons e es ih =>
    have h1 := ih (fun f hf => h f (List.mem_cons_of_mem _ hf))
    have h2 := h e (List.mem_cons_self ..)
    have h3 : edgesN (e :: es) = e.rest.length + edgesN es := by simp [edgesN]
    rw [h3, List.length_cons, Nat.add_mul]
    omega
end Go.Proofs.Ytnoooeeciebhfaa
