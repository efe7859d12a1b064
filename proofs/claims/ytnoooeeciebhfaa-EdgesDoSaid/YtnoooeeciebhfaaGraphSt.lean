/- The graph of equations and blocks: its maps, as one function. No condition. -/
import Derived.Test.YtnoooeeciebhfaaMapV
set_option linter.unusedVariables false
namespace Go.Proofs.Ytnoooeeciebhfaa
open Go.RowKit Go.Maps

/-- Which map: all equations, all blocks, an equation's, a block's. -/
inductive GKey where
  | rest | of | eq (x : Int) | blk (y : Int)
  deriving DecidableEq
abbrev GF := Int → Option (Int → Bool)
def hasF (F : GF) (x y : Int) : Bool := match F x with | some s => s y | none => false
theorem hasF_some {F : GF} {x : Int} {s : Int → Bool} (h : F x = some s) (y : Int) : hasF F x y = s y := by unfold hasF; rw [h]
theorem hasF_none {F : GF} {x : Int} (h : F x = none) (y : Int) : hasF F x y = false := by unfold hasF; rw [h]
theorem GF.ext {F G : GF} (h1 : ∀ x, (F x).isSome = (G x).isSome) (h2 : ∀ x y, hasF F x y = hasF G x y) : F = G := by
  funext x
  have h1 := h1 x
  have h2 := h2 x
  unfold hasF at h2
  cases hf : F x with
  | none => cases hg : G x with
    | none => rfl
    | some t => rw [hf, hg] at h1; cases h1
  | some s => cases hg : G x with
    | none => rw [hf, hg] at h1; cases h1
    | some t =>
      rw [hf, hg] at h2
      exact congrArg some (funext h2)
def updF (F : GF) (x : Int) (o : Option (Int → Bool)) : GF := fun z => if z = x then o else F z
open Classical in
/-- Of a block its equations. -/
noncomputable def ofF (F : GF) : GF := fun y => if ∃ x, hasF F x y = true then some (fun x => hasF F x y) else none
theorem ofF_some {F : GF} {x y : Int} (h : hasF F x y = true) : ofF F y = some (fun x => hasF F x y) := by unfold ofF; rw [if_pos ⟨x, h⟩]
theorem ofF_none {F : GF} {y : Int} (h : ∀ x, hasF F x y = false) : ofF F y = none := by
  unfold ofF
  rw [if_neg]
  rintro ⟨x, hx⟩
  rw [h x] at hx; cases hx
theorem hasF_of (F : GF) (x y : Int) : hasF (ofF F) y x = hasF F x y := by
  cases h : hasF F x y with
  | true => rw [hasF_some (ofF_some h)]; exact h
  | false =>
    unfold hasF ofF
    by_cases h1 : ∃ x, hasF F x y = true
    · rw [if_pos h1]; exact h
    · rw [if_neg h1]
/-- What each map holds. -/
def gC (β : GKey → Nat) (F O : GF) : GKey → Option (Int → Option Value)
  | .rest => some (fun x => (F x).map fun _ => .map (some (β (.eq x))))
  | .of => some (fun y => (O y).map fun _ => .map (some (β (.blk y))))
  | .eq x => (F x).map setV
  | .blk y => (O y).map setV
def updK (β : GKey → Nat) (k : GKey) (B : Nat) : GKey → Nat := fun j => if j = k then B else β j
theorem updK_same {β : GKey → Nat} {k : GKey} {B : Nat} : updK β k B k = B := if_pos rfl
theorem updK_ne {β : GKey → Nat} {k j : GKey} {B : Nat} (h : j ≠ k) : updK β k B j = β j := if_neg h
def updC (C : GKey → Option (Int → Option Value)) (k : GKey) (f : Int → Option Value) : GKey → Option (Int → Option Value) := fun j => if j = k then some f else C j
theorem updC_same {C : GKey → Option (Int → Option Value)} {k : GKey} {f : Int → Option Value} : updC C k f k = some f := if_pos rfl
theorem updC_ne {C : GKey → Option (Int → Option Value)} {k j : GKey} {f : Int → Option Value} (h : j ≠ k) : updC C k f j = C j := if_neg h
structure MapsAt (w : World) (base n : Nat) (β : GKey → Nat) (C : GKey → Option (Int → Option Value)) : Prop where
  at_ : ∀ k f, C k = some f → MapAt w (β k) n f
  inj : ∀ k k', (C k).isSome = true → (C k').isSome = true → β k = β k' → k = k'
  low : ∀ k, (C k).isSome = true → base ≤ β k
def IsMapB (w : World) (b : Nat) : Prop := ∃ es c, w.heap[b]? = some (.map es c)
theorem MapAt.isMap {w : World} {b n : Nat} {f : Int → Option Value} (h : MapAt w b n f) : IsMapB w b := by
  obtain ⟨D, ⟨es, clock, hb, _⟩, _⟩ := h
  exact ⟨es, clock, hb⟩
section
variable {w w' : World} {base n n' : Nat} {β : GKey → Nat} {C C' : GKey → Option (Int → Option Value)}
theorem MapsAt.keeps (h : MapsAt w base n β C) {S : Nat → Prop} (hk : Keeps S w w') (hn : ∀ b, IsMapB w b → ¬ S b) : MapsAt w' base n β C := ⟨fun k f hf => (h.at_ k f hf).keeps hk (hn _ (h.at_ k f hf).isMap), h.inj, h.low⟩
theorem MapsAt.mono (h : MapsAt w base n β C) (hn : n ≤ n') : MapsAt w base n' β C := ⟨fun k f hf => (h.at_ k f hf).mono hn, h.inj, h.low⟩
theorem MapsAt.write (h : MapsAt w base n β C) {k : GKey} (hk : (C k).isSome = true) {f' : Int → Option Value} (hm : MapAt w' (β k) n' f') (hg : w.grownBy w' (some (β k))) (hn : n ≤ n') (hC : ∀ j, C' j = if j = k then some f' else C j) : MapsAt w' base n' β C' := by
  have hs : ∀ j, (C' j).isSome = true → (C j).isSome = true := fun j hj => by
    rw [hC] at hj
    by_cases e : j = k
    · rw [e]; exact hk
    · rwa [if_neg e] at hj
  refine ⟨fun j f hf => ?_, fun j j' h1 h2 e => h.inj j j' (hs j h1) (hs j' h2) e, fun j hj => h.low j (hs j hj)⟩
  rw [hC] at hf
  by_cases e : j = k
  · rw [if_pos e] at hf
    injection hf with hf
    rw [e, ← hf]; exact hm
  · rw [if_neg e] at hf
    exact ((h.at_ j f hf).keeps (Keeps.ofGrown hg) (fun e1 => e (h.inj j k (by rw [hf]; rfl) hk (by injection e1)))).mono hn
theorem MapsAt.weak (h : MapsAt w base n β C) (hC : ∀ j f, C' j = some f → C j = some f) : MapsAt w base n β C' := by
  have hs : ∀ j, (C' j).isSome = true → (C j).isSome = true := fun j hj => by
    obtain ⟨f, hf⟩ := Option.isSome_iff_exists.1 hj
    rw [hC j f hf]; rfl
  exact ⟨fun j f hf => h.at_ j f (hC j f hf), fun j j' h1 h2 e => h.inj j j' (hs j h1) (hs j' h2) e, fun j hj => h.low j (hs j hj)⟩
theorem MapsAt.lt (h : MapsAt w base n β C) {k : GKey} (hk : (C k).isSome = true) : β k < w.heap.size := by
  obtain ⟨f, hf⟩ := Option.isSome_iff_exists.1 hk
  exact (h.at_ k f hf).lt
/-- One more map, in a block that no other has. -/
theorem MapsAt.fresh (h : MapsAt w base n β C) {k : GKey} (hk : C k = none) (B : Nat) (hB : base ≤ B) (hnew : ∀ j, (C j).isSome = true → β j ≠ B) {f' : Int → Option Value} (hm : MapAt w B n f') {β' : GKey → Nat} (hβ : ∀ j, β' j = if j = k then B else β j) (hC : ∀ j, C' j = if j = k then some f' else C j) : MapsAt w base n β' C' := by
  refine ⟨fun j f hf => ?_, fun j j' h1 h2 e => ?_, fun j hj => ?_⟩
  · rw [hC] at hf
    rw [hβ]
    by_cases e : j = k
    · rw [if_pos e] at hf ⊢
      injection hf with hf
      rw [← hf]; exact hm
    · rw [if_neg e] at hf ⊢
      exact h.at_ j f hf
  · rw [hC] at h1 h2
    rw [hβ, hβ] at e
    by_cases e1 : j = k
    · by_cases e2 : j' = k
      · rw [e1, e2]
      · rw [if_pos e1, if_neg e2] at e
        rw [if_neg e2] at h2
        exact absurd e.symm (hnew j' h2)
    · rw [if_neg e1] at h1 e
      by_cases e2 : j' = k
      · rw [if_pos e2] at e
        exact absurd e (hnew j h1)
      · rw [if_neg e2] at h2 e
        exact h.inj j j' h1 h2 e
  · rw [hC] at hj
    rw [hβ]
    by_cases e : j = k
    · rw [if_pos e]; exact hB
    · rw [if_neg e] at hj ⊢
      exact h.low j hj
end
section
variable {w w' w1 w2 : World} {base n n' : Nat} {β : GKey → Nat} {F O : GF}
abbrev GRaw (w : World) (base n : Nat) (β : GKey → Nat) (F O : GF) : Prop := MapsAt w base n β (gC β F O)
theorem GRaw.restAt (h : GRaw w base n β F O) : MapAt w (β .rest) n (fun x => (F x).map fun _ => .map (some (β (.eq x)))) := h.at_ .rest _ rfl
theorem GRaw.ofAt (h : GRaw w base n β F O) : MapAt w (β .of) n (fun y => (O y).map fun _ => .map (some (β (.blk y)))) := h.at_ .of _ rfl
theorem GRaw.eqAt (h : GRaw w base n β F O) {x : Int} {s : Int → Bool} (hf : F x = some s) : MapAt w (β (.eq x)) n (setV s) := h.at_ (.eq x) _ (by show (F x).map setV = _; rw [hf]; rfl)
theorem GRaw.blkAt (h : GRaw w base n β F O) {y : Int} {s : Int → Bool} (hf : O y = some s) : MapAt w (β (.blk y)) n (setV s) := h.at_ (.blk y) _ (by show (O y).map setV = _; rw [hf]; rfl)
theorem GRaw.set_eq (h : GRaw w base n β F O) {x : Int} {s s' : Int → Bool} (hf : F x = some s) (hm : MapAt w' (β (.eq x)) n' (setV s')) (hg : w.grownBy w' (some (β (.eq x)))) (hn : n ≤ n') : GRaw w' base n' β (updF F x (some s')) O :=
  MapsAt.write h (k := .eq x) (by show ((F x).map setV).isSome = true; rw [hf]; rfl) hm hg hn (fun j => by
    cases j with
    | rest =>
      rw [if_neg (by intro e; cases e)]
      show some _ = some _
      congr 1; funext z
      unfold updF
      by_cases e : z = x
      · rw [if_pos e, e, hf]; rfl
      · rw [if_neg e]
    | of => rw [if_neg (by intro e; cases e)]; rfl
    | eq z =>
      show (updF F x (some s') z).map setV = _
      unfold updF
      by_cases e : z = x
      · rw [if_pos e, if_pos (by rw [e])]; rfl
      · rw [if_neg e, if_neg (by intro e1; injection e1 with e1; exact e e1)]; rfl
    | blk z => rw [if_neg (by intro e; cases e)]; rfl)
theorem GRaw.set_blk (h : GRaw w base n β F O) {y : Int} {s s' : Int → Bool} (hf : O y = some s) (hm : MapAt w' (β (.blk y)) n' (setV s')) (hg : w.grownBy w' (some (β (.blk y)))) (hn : n ≤ n') : GRaw w' base n' β F (updF O y (some s')) :=
  MapsAt.write h (k := .blk y) (by show ((O y).map setV).isSome = true; rw [hf]; rfl) hm hg hn (fun j => by
    cases j with
    | rest => rw [if_neg (by intro e; cases e)]; rfl
    | of =>
      rw [if_neg (by intro e; cases e)]
      show some _ = some _
      congr 1; funext z
      unfold updF
      by_cases e : z = y
      · rw [if_pos e, e, hf]; rfl
      · rw [if_neg e]
    | eq z => rw [if_neg (by intro e; cases e)]; rfl
    | blk z =>
      show (updF O y (some s') z).map setV = _
      unfold updF
      by_cases e : z = y
      · rw [if_pos e, if_pos (by rw [e])]; rfl
      · rw [if_neg e, if_neg (by intro e1; injection e1 with e1; exact e e1)]; rfl)
theorem GRaw.del_rest (h : GRaw w base n β F O) {x : Int} (hm : MapAt w' (β .rest) n (fun z => if z = x then none else (F z).map fun _ => .map (some (β (.eq z))))) (hg : w.grownBy w' (some (β .rest))) : GRaw w' base n β (updF F x none) O := by
  have h1 := MapsAt.write (C' := fun j => if j = .rest then some (fun z => if z = x then none else (F z).map fun _ => .map (some (β (.eq z)))) else gC β F O j) h (k := .rest) rfl hm hg (Nat.le_refl _) (fun j => rfl)
  refine h1.weak (fun j f hf => ?_)
  show (if j = .rest then _ else _) = _
  cases j with
  | rest =>
    rw [if_pos rfl, ← hf]
    show some _ = some _
    congr 1; funext z
    unfold updF
    by_cases e : z = x
    · rw [if_pos e, if_pos e]; rfl
    · rw [if_neg e, if_neg e]
  | of => rw [if_neg (by intro e; cases e), ← hf]; rfl
  | eq z =>
    rw [if_neg (by intro e; cases e), ← hf]
    have hf : (updF F x none z).map setV = some f := hf
    show (F z).map setV = (updF F x none z).map setV
    unfold updF at hf ⊢
    by_cases e : z = x
    · rw [if_pos e] at hf; cases hf
    · rw [if_neg e]
  | blk z => rw [if_neg (by intro e; cases e), ← hf]; rfl
theorem GRaw.del_of (h : GRaw w base n β F O) {y : Int} (hm : MapAt w' (β .of) n (fun z => if z = y then none else (O z).map fun _ => .map (some (β (.blk z))))) (hg : w.grownBy w' (some (β .of))) : GRaw w' base n β F (updF O y none) := by
  have h1 := MapsAt.write (C' := fun j => if j = .of then some (fun z => if z = y then none else (O z).map fun _ => .map (some (β (.blk z)))) else gC β F O j) h (k := .of) rfl hm hg (Nat.le_refl _) (fun j => rfl)
  refine h1.weak (fun j f hf => ?_)
  show (if j = .of then _ else _) = _
  cases j with
  | of =>
    rw [if_pos rfl, ← hf]
    show some _ = some _
    congr 1; funext z
    unfold updF
    by_cases e : z = y
    · rw [if_pos e, if_pos e]; rfl
    · rw [if_neg e, if_neg e]
  | rest => rw [if_neg (by intro e; cases e), ← hf]; rfl
  | blk z =>
    rw [if_neg (by intro e; cases e), ← hf]
    have hf : (updF O y none z).map setV = some f := hf
    show (O z).map setV = (updF O y none z).map setV
    unfold updF at hf ⊢
    by_cases e : z = y
    · rw [if_pos e] at hf; cases hf
    · rw [if_neg e]
  | eq z => rw [if_neg (by intro e; cases e), ← hf]; rfl
/-- An equation more, without blocks: its map is made, and put. -/
theorem GRaw.new_eq (h : GRaw w base n β F O) {x : Int} (hf : F x = none) (hb : base ≤ w.heap.size) (hn : n ≤ n') (hm : MapAt w2 (β .rest) n' (fun z => if z = x then some (.map (some w.heap.size)) else (F z).map fun _ => .map (some (β (.eq z))))) (hg : (w.alloc (.map #[] 0)).grownBy w2 (some (β .rest))) : ∃ β', β' .rest = β .rest ∧ β' .of = β .of ∧ GRaw w2 base n' β' (updF F x (some fun _ => false)) O := by
  have nr : GKey.rest ≠ .eq x := fun e => by cases e
  have no : GKey.of ≠ .eq x := fun e => by cases e
  refine ⟨updK β (.eq x) w.heap.size, updK_ne (fun e => by cases e), updK_ne (fun e => by cases e), ?_⟩
  have h1 : MapsAt (w.alloc (.map #[] 0)) base n β (gC β F O) := MapsAt.keeps h ((Keeps.refl NoB w).alloc _) (fun _ _ h => h)
  have h2 := h1.fresh (C' := updC (gC β F O) (.eq x) (fun _ => none)) (k := .eq x) (by show (F x).map setV = none; rw [hf]; rfl) w.heap.size hb (fun j hj => by have := MapsAt.lt h hj; omega) ((MapAt.made w).mono (Nat.zero_le n)) (β' := updK β (.eq x) w.heap.size) (fun j => rfl) (fun j => rfl)
  refine MapsAt.write h2 (k := .rest) (f' := fun z => if z = x then some (.map (some w.heap.size)) else (F z).map fun _ => .map (some (β (.eq z)))) (by rw [updC_ne nr]; rfl) (by rw [updK_ne nr]; exact hm) (by rw [updK_ne nr]; exact hg) hn (fun j => ?_)
  cases j with
  | rest =>
    rw [if_pos rfl]
    show some _ = some _
    congr 1; funext z
    unfold updF
    by_cases e : z = x
    · rw [if_pos e, if_pos e, e, updK_same]; rfl
    · rw [if_neg e, if_neg e, updK_ne (fun e1 => e (by injection e1))]
  | of =>
    rw [if_neg (fun e => by cases e), updC_ne no]
    show some _ = some _
    congr 1
  | eq z =>
    rw [if_neg (fun e => by cases e)]
    show (updF F x (some fun _ => false) z).map setV = _
    unfold updF
    by_cases e : z = x
    · rw [if_pos e, e, updC_same]; rfl
    · rw [if_neg e, updC_ne (fun e1 => e (by injection e1))]; rfl
  | blk z => rw [if_neg (fun e => by cases e), updC_ne (fun e => by cases e)]; rfl
/-- A block more, without equations. -/
theorem GRaw.new_blk (h : GRaw w base n β F O) {y : Int} (hf : O y = none) (hb : base ≤ w.heap.size) (hn : n ≤ n') (hm : MapAt w2 (β .of) n' (fun z => if z = y then some (.map (some w.heap.size)) else (O z).map fun _ => .map (some (β (.blk z))))) (hg : (w.alloc (.map #[] 0)).grownBy w2 (some (β .of))) : ∃ β', β' .rest = β .rest ∧ β' .of = β .of ∧ GRaw w2 base n' β' F (updF O y (some fun _ => false)) := by
  have nr : GKey.of ≠ .blk y := fun e => by cases e
  have no : GKey.rest ≠ .blk y := fun e => by cases e
  refine ⟨updK β (.blk y) w.heap.size, updK_ne (fun e => by cases e), updK_ne (fun e => by cases e), ?_⟩
  have h1 : MapsAt (w.alloc (.map #[] 0)) base n β (gC β F O) := MapsAt.keeps h ((Keeps.refl NoB w).alloc _) (fun _ _ h => h)
  have h2 := h1.fresh (C' := updC (gC β F O) (.blk y) (fun _ => none)) (k := .blk y) (by show (O y).map setV = none; rw [hf]; rfl) w.heap.size hb (fun j hj => by have := MapsAt.lt h hj; omega) ((MapAt.made w).mono (Nat.zero_le n)) (β' := updK β (.blk y) w.heap.size) (fun j => rfl) (fun j => rfl)
  refine MapsAt.write h2 (k := .of) (f' := fun z => if z = y then some (.map (some w.heap.size)) else (O z).map fun _ => .map (some (β (.blk z)))) (by rw [updC_ne nr]; rfl) (by rw [updK_ne nr]; exact hm) (by rw [updK_ne nr]; exact hg) hn (fun j => ?_)
  cases j with
  | of =>
    rw [if_pos rfl]
    show some _ = some _
    congr 1; funext z
    unfold updF
    by_cases e : z = y
    · rw [if_pos e, if_pos e, e, updK_same]; rfl
    · rw [if_neg e, if_neg e, updK_ne (fun e1 => e (by injection e1))]
  | rest =>
    rw [if_neg (fun e => by cases e), updC_ne no]
    show some _ = some _
    congr 1
  | blk z =>
    rw [if_neg (fun e => by cases e)]
    show (updF O y (some fun _ => false) z).map setV = _
    unfold updF
    by_cases e : z = y
    · rw [if_pos e, e, updC_same]; rfl
    · rw [if_neg e, updC_ne (fun e1 => e (by injection e1))]; rfl
  | eq z => rw [if_neg (fun e => by cases e), updC_ne (fun e => by cases e)]; rfl
/-- Both maps, made. -/
theorem GRaw.both (w : World) (hb : base ≤ w.heap.size) : ∃ β : GKey → Nat, β .rest = w.heap.size ∧ β .of = w.heap.size + 1 ∧ GRaw ((w.alloc (.map #[] 0)).alloc (.map #[] 0)) base n β (fun _ => none) (fun _ => none) := by
  refine ⟨fun j => match j with | .rest => w.heap.size | .of => w.heap.size + 1 | _ => 0, rfl, rfl, ?_⟩
  have h0 := (MapAt.made w).keeps ((Keeps.refl NoB (w.alloc (.map #[] 0))).alloc (.map #[] 0)) (fun h => h)
  have h1 := MapAt.made (w.alloc (.map #[] 0))
  have hs : (w.alloc (.map #[] 0)).heap.size = w.heap.size + 1 := by simp
  rw [hs] at h1
  refine ⟨fun j f hf => ?_, fun j j' h2 h3 e => ?_, fun j hj => ?_⟩
  · cases j with
    | rest => injection hf with hf; rw [← hf]; exact h0.mono (Nat.zero_le _)
    | of => injection hf with hf; rw [← hf]; exact h1.mono (Nat.zero_le _)
    | eq x => cases hf
    | blk x => cases hf
  · cases j with
    | rest => cases j' with
      | rest => rfl
      | of => exact absurd e (by show ¬ (w.heap.size = w.heap.size + 1); omega)
      | eq x => cases h3
      | blk x => cases h3
    | of => cases j' with
      | of => rfl
      | rest => exact absurd e (by show ¬ (w.heap.size + 1 = w.heap.size); omega)
      | eq x => cases h3
      | blk x => cases h3
    | eq x => cases h2
    | blk x => cases h2
  · cases j with
    | rest => exact hb
    | of => show base ≤ w.heap.size + 1; omega
    | eq x => cases hj
    | blk x => cases hj
end
/-- The graph's box. -/
def GBox (w : World) (gb : Nat) (ρ ω : Option Nat) (c p : Int) : Prop := w.heap[gb]? = some (.cells #[.map ρ, .map ω, .int .i64 c, .int .i64 p] 26 (0, 0))
/-- The graph: its box, and its maps. -/
def GSt (w : World) (base gb n : Nat) (F : GF) (c p : Int) : Prop := base ≤ gb ∧ ∃ ρ ω, GBox w gb ρ ω c p ∧ ((ρ = none ∧ ω = none ∧ F = fun _ => none) ∨ ∃ β, ρ = some (β .rest) ∧ ω = some (β .of) ∧ GRaw w base n β F (ofF F))
/-- What may change. -/
def GKeep (base gb : Nat) (w w' : World) : Prop := Keeps (fun b => base ≤ b ∧ (b = gb ∨ IsMapB w b)) w w'
end Go.Proofs.Ytnoooeeciebhfaa
