/- Two lists of the call's own that grow side by side in a region that draws its order: what stays. No condition. -/
import Derived.Test.YtnoooeeciebhfaaEqAdd
import Derived.Test.YtnoooeeciebhfaaStep
set_option linter.unusedVariables false
namespace Go.Proofs.Ytnoooeeciebhfaa
open Go.RowKit

theorem OwnRows.snocK {R : Nat → Prop} {w w1 : World} {base g cap n : Nat} {v u : Value} {ls : List (List UInt8)} {l : List UInt8} {us : List Value} (hn : ls.length = n) (hu : RowIn (fun b => R b ∧ v.ownBlock ≠ some b) w u l)
    (hl : us.length = n) (h3 : ∀ (j : Nat) (u : Value), us[j]? = some u → RowIn (fun b => R b ∧ v.ownBlock ≠ some b) w u (gr ls j))
    (hown : w1.ownsRow base 66 1 (.slice (some ⟨g, 0, none⟩) (n + 1) cap) (n + 1) (us ++ [u])) (hk : Keeps (fun k => some k = v.ownBlock) w w1) (hat : v.ownBlock = some g ∨ w.heap.size ≤ g) :
    OwnRows R w1 base (.slice (some ⟨g, 0, none⟩) (n + 1) cap) (ls ++ [l]) := by
  subst hn
  have key : ∀ (x : Value) (m : List UInt8), RowIn (fun b => R b ∧ v.ownBlock ≠ some b) w x m → RowIn (fun b => R b ∧ (Value.slice (some ⟨g, 0, none⟩) (ls.length + 1) cap).ownBlock ≠ some b) w1 x m := fun x m hx => by
    have hlt : RowIn (fun b => (R b ∧ v.ownBlock ≠ some b) ∧ b < w.heap.size) w x m := hx.mono (fun b h1 h2 => ⟨h2, h1⟩)
    refine (hlt.keeps hk (fun b hb e => hb.1.2 e.symm)).mono (fun b _ hb => ⟨hb.1.1, fun e => ?_⟩)
    have : g = b := by simpa [Value.ownBlock] using e
    subst this
    rcases hat with h | h
    · exact hb.1.2 h
    · have := hb.2; omega
  refine ⟨us ++ [u], by simp [hl], by rw [List.length_append]; exact hown, fun j x hx => ?_⟩
  have hgr2 : gr (ls ++ [l]) j = if j = ls.length then l else gr ls j := by
    unfold gr
    rw [List.getD_eq_getElem?_getD, List.getD_eq_getElem?_getD]
    by_cases hj : j < ls.length
    · rw [List.getElem?_append_left hj, if_neg (by omega)]
    · rw [List.getElem?_append_right (by omega)]
      by_cases e : j = ls.length
      · rw [if_pos e, e]; simp
      · rw [if_neg e, List.getElem?_eq_none (by simp; omega), List.getElem?_eq_none (by omega)]
  rw [hgr2]
  by_cases hj : j < us.length
  · rw [List.getElem?_append_left hj] at hx
    rw [if_neg (by omega)]
    exact key x _ (h3 j x hx)
  · rw [List.getElem?_append_right (by omega)] at hx
    have e : j = us.length := by
      refine Nat.le_antisymm (Nat.le_of_not_lt (fun hc => ?_)) (by omega)
      rw [List.getElem?_eq_none (by simp; omega)] at hx; cases hx
    rw [if_pos (by omega)]
    rw [e, Nat.sub_self] at hx
    cases hx
    exact key _ l hu
theorem own_not_box {w : World} {base : Nat} {e T : TypeId} {v : Value} {n b : Nat} {xs : List Value} {cs : Array Value} {fr : Nat × Nat} (h : w.ownsRow base e 1 v n xs) (hb : w.heap[b]? = some (.cells cs T fr)) (hT : T ≠ e) : v.ownBlock ≠ some b := by
  intro e1
  rcases h.2 with ⟨rfl, _⟩ | ⟨g, cap, cur, rfl, _, hg, _⟩
  · simp [Value.ownBlock] at e1
  · have e2 : g = b := by simpa [Value.ownBlock] using e1
    subst e2
    rw [hg] at hb
    injection hb with hb
    injection hb with _ h2 _
    exact hT h2.symm
structure AddSt (R : Nat → Prop) (w0 : World) (base bb : Nat) (cs : Array Value) (T : TypeId) (v5 : Value) (ys : List Int) (v6 : Value) (vs : List (List UInt8)) (cur : World) : Prop where
  o : OwnInts cur base .i64 3 v5 ys
  r : OwnRows R cur base v6 vs
  k : Keeps NoB w0 cur
  b : cur.heap[bb]? = some (.cells cs T (0, 0))
  lo : w0.heap.size ≤ base
  hi : base ≤ cur.heap.size
  R0 : ∀ b, R b → b < w0.heap.size
  T1 : T ≠ 3
  T2 : T ≠ 66
theorem AddSt.keep {R : Nat → Prop} {w0 cur W : World} {base bb : Nat} {cs : Array Value} {T : TypeId} {v5 v6 : Value} {ys : List Int} {vs : List (List UInt8)} (h : AddSt R w0 base bb cs T v5 ys v6 vs cur) (hk : Keeps NoB cur W) : AddSt R w0 base bb cs T v5 ys v6 vs W :=
  ⟨h.o.kept hk, h.r.kept hk, h.k.fresh hk, hk.heap h.b (fun h => h), h.lo, Nat.le_trans h.hi hk.size, h.R0, h.T1, h.T2⟩
theorem AddSt.ints {R : Nat → Prop} {w0 W w5 : World} {base bb : Nat} {cs : Array Value} {T : TypeId} {v5 v5' v6 : Value} {ys ys' : List Int} {vs : List (List UInt8)} (h : AddSt R w0 base bb cs T v5 ys v6 vs W) (hown : OwnInts w5 base .i64 3 v5' ys') (hgr : W.grownBy w5 v5.ownBlock) : AddSt R w0 base bb cs T v5' ys' v6 vs w5 := by
  obtain ⟨us, hus⟩ := h.r.row
  have hk := Keeps.ofGrown hgr
  refine ⟨hown, h.r.keeps hk (fun b hb e => ?_) (fun b hb e => own_apart hus h.o (by decide) b hb e.symm), h.k.own h.o hgr h.lo, hk.heap h.b (fun e => own_not_box h.o h.b h.T1 e.symm), h.lo, Nat.le_trans h.hi hk.size, h.R0, h.T1, h.T2⟩
  have h1 := (h.o.base_le b e.symm).1
  have h2 := h.R0 b hb
  have h3 := h.lo
  omega
theorem AddSt.rows {R : Nat → Prop} {w0 W w4 : World} {base bb g cap n : Nat} {cs : Array Value} {T : TypeId} {v5 v6 u : Value} {ys : List Int} {vs : List (List UInt8)} {l : List UInt8} {us : List Value} (h : AddSt R w0 base bb cs T v5 ys v6 vs W) (hn : vs.length = n) (hu : RowIn R w0 u l)
    (hl : us.length = n) (hus : W.ownsRow base 66 1 v6 n us) (h3 : ∀ (j : Nat) (u : Value), us[j]? = some u → RowIn (fun b => R b ∧ v6.ownBlock ≠ some b) W u (gr vs j))
    (hown : w4.ownsRow base 66 1 (.slice (some ⟨g, 0, none⟩) (n + 1) cap) (n + 1) (us ++ [u])) (hgr : W.grownBy w4 v6.ownBlock) (hat : v6.ownBlock = some g ∨ g = W.heap.size) :
    AddSt R w0 base bb cs T v5 ys (.slice (some ⟨g, 0, none⟩) (n + 1) cap) (vs ++ [l]) w4 := by
  have hk := Keeps.ofGrown hgr
  have hu2 : RowIn (fun b => R b ∧ v6.ownBlock ≠ some b) W u l := (hu.keeps h.k (fun _ _ h => h)).mono (fun b _ hb => ⟨hb, fun e => by
    have h1 := (World.ownsRow.lt hus b e).1
    have h2 := h.R0 b hb
    have h4 := h.lo
    omega⟩)
  refine ⟨h.o.keeps hk (fun b hb e => own_apart h.o hus (by decide) b hb e.symm), OwnRows.snocK hn hu2 hl h3 hown hk (hat.imp id (fun e => by omega)), ?_, hk.heap h.b (fun e => own_not_box hus h.b h.T2 e.symm), h.lo, Nat.le_trans h.hi hk.size, h.R0, h.T1, h.T2⟩
  exact h.k.grown hgr (fun i e hlt => by have h1 := (World.ownsRow.lt hus i e.symm).1; have := h.lo; omega)
end Go.Proofs.Ytnoooeeciebhfaa
