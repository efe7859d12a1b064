/- A graph and the reference's list of its equations beside it. No condition. -/
import Derived.Test.YtnoooeeciebhfaaSame19
import Derived.Test.YtnoooeeciebhfaaBothSt
set_option linter.unusedVariables false
namespace Go.Proofs.Ytnoooeeciebhfaa
open Go.RowKit

theorem notMap_cell {w : World} {b : Nat} {a : Addr} {u : Value} (hb : a.block = b) (h : w.cell? a = some u) : ¬ IsMapB w b := by
  rintro ⟨em, cl, hm⟩
  subst hb
  simp [World.cell?, hm] at h
theorem NumsIn.notMap {R : Nat → Prop} {w : World} {u : Value} {l : List Int} (h : NumsIn R w u l) : NumsIn (fun b => R b ∧ ¬ IsMapB w b) w u l := by
  obtain ⟨A, c, h1, h2, h3, h4, h5⟩ := h
  refine ⟨A, c, h1, h2, h3, h4, fun b off e h0 => ⟨h5 b off e h0, ?_⟩⟩
  obtain ⟨b', off', e', hc⟩ := h4.get h0
  have e2 := e.symm.trans e'
  injection e2 with e2
  injection e2 with e2 _ _
  subst e2
  exact notMap_cell rfl (hc 0 h0)
theorem EqsN.notMap {R : Nat → Prop} {w : World} {A : Option Addr} {es : List EqN} (h : EqsN R w A es) : EqsN (fun b => R b ∧ ¬ IsMapB w b) w A es := ⟨h.1, fun h0 => by
  obtain ⟨b, off, e, hb, hc⟩ := h.2 h0
  obtain ⟨u1, u2, h1, _⟩ := hc 0 h0
  refine ⟨b, off, e, ⟨hb, notMap_cell rfl h1⟩, fun j hj => ?_⟩
  obtain ⟨u1, u2, h1, h2, h3, h4⟩ := hc j hj
  exact ⟨u1, u2, h1, h2, h3, h4.notMap⟩⟩
theorem EqsN.gkept {R : Nat → Prop} {w w' : World} {A : Option Addr} {es : List EqN} {base gb : Nat} (h : EqsN R w A es) (hk : GKeep base gb w w') (hR : ∀ b, R b → b ≠ gb) : EqsN R w' A es :=
  ((h.notMap.keeps hk (fun b hb hs => by
    rcases hs.2 with h1 | h1
    · exact hR b hb.1 h1
    · exact hb.2 h1))).mono (fun b _ hb => hb.1)
/-- The state of the law's loop behind k acts. -/
structure DoSt (w : World) (G k : Nat) (es : List EqN) (c p : Int) (A : Option Addr) (d : Nat) (cur : World) : Prop where
  g : GOk cur G G (91 * k) (repN es) c p
  good : GoodN es
  l : EqsN (fun b => G < b) cur A es
  z : A = none → d = 0
  len : es.length ≤ k
  rest : ∀ e ∈ es, e.rest.length ≤ 30
  wf : ∀ e ∈ es, (Lit.int .i64 e.num).wf = true
  k : Keeps NoB w cur
  hi : G + 1 ≤ cur.heap.size
  lo : w.heap.size ≤ G
variable {w cur W : World} {G k n : Nat} {es : List EqN} {c p : Int} {A : Option Addr} {d : Nat}
theorem DoSt.kept (h : DoSt w G k es c p A d cur) (hk : Keeps NoB cur W) : DoSt w G k es c p A d W :=
  ⟨h.g.kept hk, h.good, h.l.kept hk, h.z, h.len, h.rest, h.wf, h.k.fresh hk, Nat.le_trans h.hi hk.size, h.lo⟩
theorem DoSt.step {es' : List EqN} {c' p' : Int} {A' : Option Addr} {d' n' : Nat} (h : DoSt w G k es c p A d cur) (hk : k ≤ 150) (hg : GOk W G G n' (repN es') c' p') (hn : n' ≤ 91 * (k + 1)) (hp : p' = max p c') (hgood : GoodN es') (hl : EqsN (fun b => G < b) W A' es') (hz : A' = none → d' = 0) (hlen : es'.length ≤ k + 1) (hr : ∀ e ∈ es', e.rest.length ≤ 30) (hw : ∀ e ∈ es', (Lit.int .i64 e.num).wf = true) (hkk : Keeps NoB w W) (hi : G + 1 ≤ W.heap.size) : DoSt w G (k + 1) es' c' (max p c') A' d' W :=
  ⟨by rw [← hp]; exact hg.mono hn (by omega), hgood, hl, hz, hlen, hr, hw, hkk, hi, h.lo⟩
theorem box_gkept {bb : Nat} {xs : Array Value} {T : TypeId} (hx : cur.heap[bb]? = some (.cells xs T (0, 0))) (hk : GKeep G G cur W) (hb : bb ≠ G) : W.heap[bb]? = some (.cells xs T (0, 0)) := hk.heap hx (fun hs => by
  rcases hs.2 with h1 | ⟨em, cl, h1⟩
  · exact hb h1
  · rw [hx] at h1; cases h1)
theorem DoSt.edges (h : DoSt w G k es c p A d cur) : c = (edgesN es : Int) := h.g.cnt.uniq (cnt_repN h.good)
theorem rest_take {es : List EqN} (h : ∀ e ∈ es, e.rest.length ≤ 30) (b : Int) : ∀ e ∈ takeN es b, e.rest.length ≤ 30 := fun e he => by
  obtain ⟨f, hf, rfl⟩ := List.mem_map.1 he
  exact Nat.le_trans (List.length_filter_le _ _) (h f hf)
theorem wf_takeN {es : List EqN} (h : ∀ e ∈ es, (Lit.int .i64 e.num).wf = true) (b : Int) : ∀ e ∈ takeN es b, (Lit.int .i64 e.num).wf = true := fun e he => by
  obtain ⟨f, hf, rfl⟩ := List.mem_map.1 he
  exact h f hf
theorem rest_add {es : List EqN} (h : ∀ e ∈ es, e.rest.length ≤ 30) {n : Int} {bs : List Int} (hb : bs.length ≤ 30) : ∀ e ∈ addR es n bs, e.rest.length ≤ 30 := fun e he => by
  unfold addR at he
  by_cases hk : okR es n bs = true
  · rw [if_pos hk] at he
    rcases List.mem_append.1 he with he | he
    · exact h e he
    · rw [List.mem_singleton.1 he]; exact Nat.le_trans (insAll_spec bs).2.2 hb
  · rw [if_neg hk] at he; exact h e he
theorem wf_addR {es : List EqN} (h : ∀ e ∈ es, (Lit.int .i64 e.num).wf = true) {n : Int} {bs : List Int} (hn : (Lit.int .i64 n).wf = true) : ∀ e ∈ addR es n bs, (Lit.int .i64 e.num).wf = true := fun e he => by
  unfold addR at he
  by_cases hk : okR es n bs = true
  · rw [if_pos hk] at he
    rcases List.mem_append.1 he with he | he
    · exact h e he
    · rw [List.mem_singleton.1 he]; exact hn
  · rw [if_neg hk] at he; exact h e he
theorem len_addR (es : List EqN) (n : Int) (bs : List Int) : (addR es n bs).length ≤ es.length + 1 := by
  unfold addR
  by_cases hk : okR es n bs = true
  · rw [if_pos hk]; unfold addN; rw [List.length_append]; simp
  · rw [if_neg hk]; omega
theorem good_addR {es : List EqN} (h : GoodN es) (n : Int) (bs : List Int) : GoodN (addR es n bs) ∧ addG (repN es) n bs = repN (addR es n bs) := by
  unfold addR addG
  rw [okN]
  show GoodN (if okR es n bs = true then _ else _) ∧ (if okR es n bs = true then _ else _) = repN (if okR es n bs = true then _ else _)
  by_cases hk : okR es n bs = true
  · rw [if_pos hk, if_pos hk]
    have hn : n ∉ nums es := by
      unfold okR at hk
      rw [Bool.and_eq_true] at hk
      simpa using hk.1
    exact ⟨h.add hn bs, repN_add h hn bs⟩
  · rw [if_neg hk, if_neg hk]
    exact ⟨h, rfl⟩
end Go.Proofs.Ytnoooeeciebhfaa
