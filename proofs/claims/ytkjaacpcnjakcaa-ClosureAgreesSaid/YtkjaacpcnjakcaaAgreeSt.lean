/- closure.Agrees' memory: the equations in steps, in a map by their heads. No condition. -/
import Derived.Test.YtkjaacpcnjakcaaMapAt
import Derived.Test.YtkjaacpcnjakcaaNRows
import Derived.Test.YtkjaacpcnjakcaaAgreeMath
set_option linter.unusedVariables false
namespace Go.Proofs.Ytkjaacpcnjakcaa
open Go.RowKit

def Any : Nat → Prop := fun _ => True
theorem IntsIn.setBox {w : World} {A : Option Addr} {xs : List Int} {b : Nat} {A0 A1 : Option Addr} {n0 c0 n1 c1 : Nat} {T : TypeId} {fr : Nat × Nat} (h : IntsIn Any w A xs) (hb : w.heap[b]? = some (.cells #[.slice A0 n0 c0, .slice A1 n1 c1] T fr)) (x y : Value) : IntsIn Any ((w.setCell ⟨b, 0, none⟩ x).setCell ⟨b, 1, none⟩ y) A xs :=
  ⟨h.1.setBox hb x y, h.2⟩
theorem PairIn.setBox {w : World} {u1 u2 : Value} {e : EqV} {b : Nat} {A0 A1 : Option Addr} {n0 c0 n1 c1 : Nat} {T : TypeId} {fr : Nat × Nat} (h : PairIn Any w u1 u2 e) (hb : w.heap[b]? = some (.cells #[.slice A0 n0 c0, .slice A1 n1 c1] T fr)) (x y : Value) : PairIn Any ((w.setCell ⟨b, 0, none⟩ x).setCell ⟨b, 1, none⟩ y) u1 u2 e := by
  obtain ⟨⟨A, c, h1, h2, h3, h4⟩, ⟨B, d, g1, g2, g3, g4⟩⟩ := h
  exact ⟨⟨A, c, h1, h2, h3, h4.setBox hb x y⟩, ⟨B, d, g1, g2, g3, g4.1.setBox hb x y, g4.2⟩⟩
theorem PairIn.any {R : Nat → Prop} {w : World} {u1 u2 : Value} {e : EqV} (h : PairIn R w u1 u2 e) : PairIn Any w u1 u2 e := h.mono (fun _ _ _ => trivial)
theorem PairIn.form {R : Nat → Prop} {w : World} {u1 u2 : Value} {e : EqV} (h : PairIn R w u1 u2 e) : ∃ A c B d, u1 = .slice A e.of.length c ∧ u2 = .slice B e.val.length d ∧ IntsAt w .i64 A e.of ∧ BytesIn R w B e.val ∧ (B = none → d = 0) := by
  obtain ⟨⟨A, c, h1, h2, h3, h4⟩, ⟨B, d, g1, g2, g3, g4⟩⟩ := h
  exact ⟨A, c, B, d, h1, g1, h4.1, g4, g3⟩
/-- The equations in steps, by their heads. -/
def TabAt (w : World) (b n : Nat) (tab : List EqV) : Prop := ∃ g, MapAt w b n g ∧ (∀ x, (g x).isSome = true ↔ ∃ t ∈ tab, gi t.of 0 = x) ∧ ∀ t ∈ tab, ∃ v1 v2, g (gi t.of 0) = some (.agg #[v1, v2]) ∧ PairIn Any w v1 v2 t
theorem TabAt.kept {w w1 : World} {b n : Nat} {tab : List EqV} (h : TabAt w b n tab) (hk : Keeps NoB w w1) : TabAt w1 b n tab := by
  obtain ⟨g, h1, h2, h3⟩ := h
  refine ⟨g, h1.keeps hk (fun h => h), h2, fun t ht => ?_⟩
  obtain ⟨v1, v2, h4, h5⟩ := h3 t ht
  exact ⟨v1, v2, h4, h5.kept hk⟩
theorem TabAt.setBox {w : World} {b n : Nat} {tab : List EqV} (h : TabAt w b n tab) {p : Nat} {A0 A1 : Option Addr} {n0 c0 n1 c1 : Nat} {T : TypeId} {fr : Nat × Nat} (hb : w.heap[p]? = some (.cells #[.slice A0 n0 c0, .slice A1 n1 c1] T fr)) (x y : Value) : TabAt ((w.setCell ⟨p, 0, none⟩ x).setCell ⟨p, 1, none⟩ y) b n tab := by
  obtain ⟨g, h1, h2, h3⟩ := h
  have hne := h1.ne_cells hb
  have hk : Keeps (· = p) w ((w.setCell ⟨p, 0, none⟩ x).setCell ⟨p, 1, none⟩ y) := ((Keeps.refl (· = p) w).setCell (p := ⟨p, 0, none⟩) (fun _ => rfl) x).setCell (p := ⟨p, 1, none⟩) (fun _ => rfl) y
  refine ⟨g, h1.keeps hk (fun e => hne e.symm), h2, fun t ht => ?_⟩
  obtain ⟨v1, v2, h4, h5⟩ := h3 t ht
  exact ⟨v1, v2, h4, h5.setBox hb x y⟩
theorem TabAt.made (w : World) : TabAt (w.alloc (.map #[] 0)) w.heap.size 0 [] := ⟨_, MapAt.made w, fun x => by simp, fun t ht => by simp at ht⟩
/-- What lies in blocks of cells stays while a map is written. -/
theorem PairIn.map_put {w w1 : World} {b n : Nat} {f : Int → Option Value} {u1 u2 : Value} {e : EqV} (h : PairIn Any w u1 u2 e) (hm : MapAt w b n f) (hg : w.grownBy w1 (some b)) : PairIn Any w1 u1 u2 e := by
  have key : ∀ {k : IntKind} {A : Option Addr} {xs : List Int}, IntsAt w k A xs → IntsAt w1 k A xs := by
    intro k A xs hx
    refine hx.keeps (Keeps.ofGrown hg) (fun c off eA h0 eb => ?_)
    obtain ⟨c', off', e', hc⟩ := hx.2 h0
    obtain ⟨rfl, rfl⟩ : c' = c ∧ off' = off := by rw [e'] at eA; simpa using eA
    injection eb with eb
    subst eb
    obtain ⟨D, ⟨es, clock, hb, _⟩, _⟩ := hm
    have := hc 0 h0
    unfold World.cell? at this
    rw [hb] at this
    cases this
  obtain ⟨⟨A, c, h1, h2, h3, h4⟩, ⟨B, d, g1, g2, g3, g4⟩⟩ := h
  exact ⟨⟨A, c, h1, h2, h3, key h4.1, h4.2⟩, ⟨B, d, g1, g2, g3, key g4.1, g4.2⟩⟩
theorem TabAt.has {w : World} {b n : Nat} {tab : List EqV} (h : TabAt w b n tab) : ∃ g, MapAt w b n g ∧ (∀ x, (g x).isSome = true ↔ ∃ t ∈ tab, gi t.of 0 = x) ∧ ∀ t ∈ tab, ∃ v1 v2, g (gi t.of 0) = some (.agg #[v1, v2]) ∧ PairIn Any w v1 v2 t := h
theorem TabAt.put {w w1 : World} {b n : Nat} {tab : List EqV} {g : Int → Option Value} {e : EqV} {v1 v2 : Value} (h1 : MapAt w b n g) (h2 : ∀ x, (g x).isSome = true ↔ ∃ t ∈ tab, gi t.of 0 = x) (h3 : ∀ t ∈ tab, ∃ v1 v2, g (gi t.of 0) = some (.agg #[v1, v2]) ∧ PairIn Any w v1 v2 t)
    (hp : PairIn Any w v1 v2 e) (hn : ∀ t ∈ tab, gi t.of 0 ≠ gi e.of 0) (hm : MapAt w1 b (n + 1) (fun y => if y = gi e.of 0 then some (.agg #[v1, v2]) else g y)) (hg : w.grownBy w1 (some b)) : TabAt w1 b (n + 1) (tab ++ [e]) := by
  refine ⟨_, hm, fun x => ?_, fun t ht => ?_⟩
  · by_cases ex : x = gi e.of 0
    · rw [if_pos ex]
      constructor
      · intro _; exact ⟨e, by simp, ex.symm⟩
      · intro _; rfl
    · rw [if_neg ex, h2 x]
      constructor
      · rintro ⟨t, ht, e2⟩; exact ⟨t, List.mem_append_left _ ht, e2⟩
      · rintro ⟨t, ht, e2⟩
        rcases List.mem_append.1 ht with ht | ht
        · exact ⟨t, ht, e2⟩
        · rw [List.mem_singleton.1 ht] at e2; exact absurd e2.symm ex
  · rcases List.mem_append.1 ht with ht | ht
    · obtain ⟨u1, u2, h4, h5⟩ := h3 t ht
      exact ⟨u1, u2, by rw [if_neg (hn t ht)]; exact h4, h5.map_put h1 hg⟩
    · rw [List.mem_singleton.1 ht]
      exact ⟨v1, v2, by rw [if_pos rfl], hp.map_put h1 hg⟩
/-- Two equations, laid one behind the other. -/
theorem eqs_pair {w : World} {u1 u2 p1 p2 : Value} {e p : EqV} {T : TypeId} (h : PairIn Any w u1 u2 e) (k : PairIn Any w p1 p2 p) : EqsIn Any (w.alloc (.cells #[u1, u2, p1, p2] T)) (some ⟨w.heap.size, 0, none⟩) [e, p] := by
  have hk := (Keeps.refl NoB w).alloc (.cells #[u1, u2, p1, p2] T)
  refine ⟨by simp, fun _ => ⟨w.heap.size, 0, rfl, trivial, fun j hj => ?_⟩⟩
  have hh := heap_alloc_new w (.cells #[u1, u2, p1, p2] T)
  match j, hj with
  | 0, _ => exact ⟨u1, u2, by unfold World.cell?; rw [hh]; rfl, by unfold World.cell?; rw [hh]; rfl, (h.kept hk).1, (h.kept hk).2⟩
  | 1, _ => exact ⟨p1, p2, by unfold World.cell?; rw [hh]; rfl, by unfold World.cell?; rw [hh]; rfl, (k.kept hk).1, (k.kept hk).2⟩
end Go.Proofs.Ytkjaacpcnjakcaa
