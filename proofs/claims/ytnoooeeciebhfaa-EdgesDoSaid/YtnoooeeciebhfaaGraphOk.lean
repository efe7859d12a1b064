/- The graph and how many edges it has: what Add, Take and Drop do to it. Conditions: the graph is small. -/
import Derived.Test.YtnoooeeciebhfaaGraphAdd
set_option linter.unusedVariables false
namespace Go.Proofs.Ytnoooeeciebhfaa
open Go.RowKit Go.ChangeShapes

/-- So many edges. -/
def Cnt (F : GF) (c : Int) : Prop := ∃ E : List (Int × Int), E.Nodup ∧ (∀ x y, (x, y) ∈ E ↔ hasF F x y = true) ∧ (E.length : Int) = c
theorem Cnt.zero : Cnt (fun _ => none) 0 := ⟨[], List.nodup_nil, fun x y => by simp [hasF], rfl⟩
theorem nodup_pair_r {l : List Int} (h : l.Nodup) (b : Int) : (l.map fun x => (x, b)).Nodup := by
  unfold List.Nodup
  rw [List.pairwise_map]
  exact h.imp (fun h e => h (by injection e))
theorem nodup_pair_l {l : List Int} (h : l.Nodup) (x : Int) : (l.map fun y => (x, y)).Nodup := by
  unfold List.Nodup
  rw [List.pairwise_map]
  exact h.imp (fun h e => h (by injection e))
theorem nodup_app {α : Type} {l m : List α} (h1 : l.Nodup) (h2 : m.Nodup) (h : ∀ a ∈ l, a ∉ m) : (l ++ m).Nodup := List.nodup_append.2 ⟨h1, h2, fun a ha b hb e => h a ha (e ▸ hb)⟩
theorem len_same {α : Type} [DecidableEq α] {l m : List α} (h1 : l.Nodup) (h2 : m.Nodup) (h : ∀ a, a ∈ l ↔ a ∈ m) : l.length = m.length := ((List.perm_ext_iff_of_nodup h1 h2).2 h).length_eq
theorem Cnt.take {F : GF} {c b : Int} {l : List Int} (h : Cnt F c) (hl : KeysOf (fun z => hasF F z b) l) : Cnt (takeF F b) (c - l.length) := by
  obtain ⟨E, h1, h2, h3⟩ := h
  have hf : (E.filter fun e => !decide (e.2 = b)).Nodup := List.Pairwise.filter _ h1
  refine ⟨E.filter fun e => !decide (e.2 = b), hf, fun x y => ?_, ?_⟩
  · rw [List.mem_filter, h2, hasF_take, Bool.and_eq_true]
  · have hlen := len_same h1 (nodup_app hf (nodup_pair_r hl.nodup b) (fun e he hm => by
      obtain ⟨x, _, rfl⟩ := List.mem_map.1 hm
      have := (List.mem_filter.1 he).2
      simp at this)) (fun e => by
      obtain ⟨x, y⟩ := e
      rw [List.mem_append, List.mem_filter, List.mem_map, h2]
      constructor
      · intro hx
        by_cases e : y = b
        · exact .inr ⟨x, (hl.mem x).2 (by rw [← e]; exact hx), by rw [e]⟩
        · exact .inl ⟨hx, by simp [e]⟩
      · rintro (⟨hx, _⟩ | ⟨z, hz, e⟩)
        · exact hx
        · injection e with e1 e2
          subst e1 e2
          exact (hl.mem z).1 hz)
    rw [List.length_append, List.length_map] at hlen
    omega
theorem Cnt.take_le {F : GF} {c b : Int} {l : List Int} (h : Cnt F c) (hl : KeysOf (fun z => hasF F z b) l) : (l.length : Int) ≤ c := by
  obtain ⟨E, _, _, h3⟩ := h.take hl
  omega
theorem Cnt.drop {F : GF} {c x : Int} {l : List Int} (h : Cnt F c) (hl : KeysOf (hasF F x) l) : Cnt (updF F x none) (c - l.length) := by
  obtain ⟨E, h1, h2, h3⟩ := h
  have hf : (E.filter fun e => !decide (e.1 = x)).Nodup := List.Pairwise.filter _ h1
  refine ⟨E.filter fun e => !decide (e.1 = x), hf, fun u y => ?_, ?_⟩
  · rw [List.mem_filter, h2, hasF_upd_none, Bool.and_eq_true]
    exact And.comm
  · have hlen := len_same h1 (nodup_app hf (nodup_pair_l hl.nodup x) (fun e he hm => by
      obtain ⟨y, _, rfl⟩ := List.mem_map.1 hm
      have := (List.mem_filter.1 he).2
      simp at this)) (fun e => by
      obtain ⟨u, y⟩ := e
      rw [List.mem_append, List.mem_filter, List.mem_map, h2]
      constructor
      · intro hx
        by_cases e : u = x
        · exact .inr ⟨y, (hl.mem y).2 (by rw [← e]; exact hx), by rw [e]⟩
        · exact .inl ⟨hx, by simp [e]⟩
      · rintro (⟨hx, _⟩ | ⟨z, hz, e⟩)
        · exact hx
        · injection e with e1 e2
          subst e1 e2
          exact (hl.mem z).1 hz)
    rw [List.length_append, List.length_map] at hlen
    omega
theorem Cnt.drop_le {F : GF} {c x : Int} {l : List Int} (h : Cnt F c) (hl : KeysOf (hasF F x) l) : (l.length : Int) ≤ c := by
  obtain ⟨E, _, _, h3⟩ := h.drop hl
  omega
theorem Cnt.add {F : GF} {c x : Int} {bs : List Int} (h : Cnt F c) (hx : F x = none) : Cnt (addK F x bs) (c + cntD bs) := by
  obtain ⟨E, h1, h2, h3⟩ := h
  obtain ⟨hd1, hd2⟩ := distL_spec bs
  refine ⟨E ++ (distL bs).map fun y => (x, y), nodup_app h1 (nodup_pair_l hd1 x) (fun e he hm => ?_), fun u y => ?_, ?_⟩
  · obtain ⟨y, _, rfl⟩ := List.mem_map.1 hm
    rw [h2, hasF_none hx] at he; cases he
  · rw [List.mem_append, h2, List.mem_map]
    unfold addK
    rw [hasF_upd]
    by_cases e : u = x
    · rw [if_pos e, e, hasF_none hx]
      constructor
      · rintro (h | ⟨z, hz, e1⟩)
        · cases h
        · injection e1 with _ e1
          subst e1
          exact decide_eq_true ((hd2 z).1 hz)
      · intro hy
        exact .inr ⟨y, (hd2 y).2 (of_decide_eq_true hy), rfl⟩
    · rw [if_neg e]
      constructor
      · rintro (h | ⟨z, _, e1⟩)
        · exact h
        · injection e1 with e1 _
          exact absurd e1.symm e
      · exact .inl
  · rw [List.length_append, List.length_map]
    unfold cntD
    omega
theorem Cnt.empty {F : GF} {c : Int} (h : Cnt F c) (hf : ∀ x y, hasF F x y = false) : c = 0 := by
  obtain ⟨E, _, h2, h3⟩ := h
  have : E = [] := List.eq_nil_iff_forall_not_mem.2 (fun e he => by
    have := (h2 e.1 e.2).1 he
    rw [hf] at this; cases this)
  rw [this] at h3
  exact h3.symm
structure GOk (w : World) (base gb n : Nat) (F : GF) (c p : Int) : Prop where
  st : GSt w base gb n F c p
  cnt : Cnt F c
  le : c ≤ p
  top : p ≤ n
  small : n ≤ 900000000
theorem GOk.nonneg {w : World} {base gb n : Nat} {F : GF} {c p : Int} (h : GOk w base gb n F c p) : 0 ≤ c := by
  obtain ⟨E, _, _, h3⟩ := h.cnt
  omega
theorem GOk.kept {w w' : World} {base gb n : Nat} {F : GF} {c p : Int} (h : GOk w base gb n F c p) (hk : Keeps NoB w w') : GOk w' base gb n F c p := ⟨h.st.kept hk, h.cnt, h.le, h.top, h.small⟩
theorem GOk.keeps {w w' : World} {base gb n : Nat} {F : GF} {c p : Int} (h : GOk w base gb n F c p) {S : Nat → Prop} (hk : Keeps S w w') (hb : ¬ S gb) (hm : ∀ b, IsMapB w b → ¬ S b) : GOk w' base gb n F c p := ⟨h.st.keeps hk hb hm, h.cnt, h.le, h.top, h.small⟩
/-- 'var g Graph'. -/
theorem GOk.zero (w : World) : GOk (w.alloc (.cells #[.map none, .map none, .int .i64 0, .int .i64 0] 26)) w.heap.size w.heap.size 0 (fun _ => none) 0 0 := ⟨⟨Nat.le_refl _, none, none, heap_alloc_new w _, .inl ⟨rfl, rfl, rfl⟩⟩, Cnt.zero, Int.le_refl _, by omega, by omega⟩
def okA (F : GF) (x : Int) (bs : List Int) : Bool := (F x).isNone && !bs.isEmpty
def addG (F : GF) (x : Int) (bs : List Int) : GF := if okA F x bs then addK F x bs else F
def addC (F : GF) (x : Int) (bs : List Int) (c : Int) : Int := if okA F x bs then c + cntD bs else c
theorem gadd_calls (base gb n : Nat) (F : GF) (c p x : Int) (bs : List Int) (A : Option Addr) (cb : Nat) (w : World) (h : GOk w base gb n F c p) (hx : (Lit.int .i64 x).wf = true) (hat : IntsAt w .i64 A bs) (hwf : ∀ y ∈ bs, (Lit.int .i64 y).wf = true) (hA : ∀ b off, A = some ⟨b, off, none⟩ → 0 < bs.length → b ≠ gb) (hbw : base ≤ w.heap.size) (hn : n + 3 * bs.length + 4 ≤ 900000000) : Calls Try.prog 11 #[.pointer (some ⟨gb, 0, none⟩), .int .i64 x, .slice A bs.length cb] w fun e w' => e = .returned (.bool (okA F x bs)) ∧ GOk w' base gb (n + 3 * bs.length + 1) (addG F x bs) (addC F x bs c) (max p (addC F x bs c)) ∧ GKeep base gb w w' := by
  have h0 := h.nonneg
  have h1 := h.le
  have h2 := h.top
  have h3 := h.small
  unfold addG addC
  cases hok : okA F x bs with
  | false =>
    have hF : (F x).isSome = true ∨ bs = [] := by
      unfold okA at hok
      cases hf : F x with
      | some s => exact .inl rfl
      | none => cases bs with
        | nil => exact .inr rfl
        | cons y l => rw [hf] at hok; cases hok
    refine (add_no base gb n F c p x bs A cb w h.st hx hF (by omega)).mono ?_
    rintro e w' ⟨rfl, hk⟩
    rw [if_neg (by simp), if_neg (by simp), show max p c = p by omega]
    exact ⟨rfl, ⟨(h.st.kept hk).mono (by omega), h.cnt, h.le, by omega, by omega⟩, GKeep.nob hk⟩
  | true =>
    have hF : F x = none ∧ bs ≠ [] := by
      unfold okA at hok
      rw [Bool.and_eq_true] at hok
      refine ⟨by simpa using hok.1, by rintro rfl; cases hok.2⟩
    have hcd := cntD_le bs
    refine (add_yes base gb n F c p x bs A cb w h.st hx hF.1 hF.2 hat hwf (fun b off e => hA b off e (by cases bs with
      | nil => exact absurd rfl hF.2
      | cons y l => simp)) hbw (by omega) (by omega) (by omega) (by omega) (by omega)).mono ?_
    rintro e w' ⟨rfl, hs, hk⟩
    rw [if_pos rfl, if_pos rfl]
    exact ⟨rfl, ⟨hs, h.cnt.add hF.1, by omega, by omega, by omega⟩, hk⟩
theorem gtake_calls (base gb n : Nat) (F : GF) (c p b : Int) (w : World) (h : GOk w base gb n F c p) (hb : (Lit.int .i64 b).wf = true) : Calls Try.prog 14 #[.pointer (some ⟨gb, 0, none⟩), .int .i64 b] w fun e w' => ∃ v l, e = .returned v ∧ OwnInts w' w.heap.size .i64 3 v l ∧ KeysOf (fun z => hasF F z b) l ∧ GOk w' base gb n (takeF F b) (c - l.length) p ∧ GKeep base gb w w' := by
  have h1 := h.le
  have h2 := h.top
  have h3 := h.small
  refine (take_calls base gb n F c p b w h.st hb (by omega) (by omega) (fun l hl => h.cnt.take_le hl)).mono ?_
  rintro e w' ⟨v, l, rfl, ho, hl, hs, hk⟩
  exact ⟨v, l, rfl, ho, hl, ⟨hs, h.cnt.take hl, by omega, h2, h3⟩, hk⟩
theorem gdrop_calls (base gb n : Nat) (F : GF) (c p x : Int) (w : World) (h : GOk w base gb n F c p) (hx : (Lit.int .i64 x).wf = true) : Calls Try.prog 13 #[.pointer (some ⟨gb, 0, none⟩), .int .i64 x] w fun e w' => ∃ l, e = .returned (.bool (F x).isSome) ∧ KeysOf (hasF F x) l ∧ GOk w' base gb n (updF F x none) (c - l.length) p ∧ GKeep base gb w w' := by
  have h1 := h.le
  have h2 := h.top
  have h3 := h.small
  refine (drop_calls base gb n F c p x w h.st hx (by omega) (by omega) (fun l hl => h.cnt.drop_le hl)).mono ?_
  rintro e w' ⟨l, rfl, hl, hs, hk⟩
  exact ⟨l, rfl, hl, ⟨hs, h.cnt.drop hl, by omega, h2, h3⟩, hk⟩
/-- Nothing of what was there ahead of the graph has changed. -/
theorem GKeep.outer {base gb : Nat} {w0 w w' : World} (h : Keeps NoB w0 w) (hk : GKeep base gb w w') (hb : w0.heap.size ≤ base) : Keeps NoB w0 w' := h.then hk (fun i hs hi => by have := hs.1; omega)
end Go.Proofs.Ytnoooeeciebhfaa
