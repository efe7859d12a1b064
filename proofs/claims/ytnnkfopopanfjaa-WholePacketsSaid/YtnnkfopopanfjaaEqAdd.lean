/- Equations, put upon each other: the program's walk. Conditions: lengths are small; what is read lies below. -/
import Derived.Test.YtnnkfopopanfjaaEqHolds
import Derived.Test.YtnnkfopopanfjaaOdd
import Derived.Laws.Rows
set_option linter.unusedVariables false
namespace Go.Proofs.Ytnnkfopopanfjaa
open Go.RowKit

/-- An equation's parts. -/
structure EqV where
  of : List Int
  val : List UInt8
/-- Numbers that are read at an address, in a block of some. -/
def IntsIn (R : Nat → Prop) (w : World) (A : Option Addr) (l : List Int) : Prop := IntsAt w .i64 A l ∧ ∀ b off, A = some ⟨b, off, none⟩ → 0 < l.length → R b
theorem IntsIn.keeps {R S : Nat → Prop} {w w1 : World} {A : Option Addr} {l : List Int} (h : IntsIn R w A l) (hk : Keeps S w w1) (hn : ∀ b, R b → ¬ S b) : IntsIn R w1 A l :=
  ⟨h.1.keeps hk (fun b off e h0 => hn b (h.2 b off e h0)), h.2⟩
theorem IntsIn.mono {R R' : Nat → Prop} {w : World} {A : Option Addr} {l : List Int} (h : IntsIn R w A l) (hr : ∀ b, b < w.heap.size → R b → R' b) : IntsIn R' w A l :=
  ⟨h.1, fun b off e h0 => hr b (h.1.lt b off e h0) (h.2 b off e h0)⟩
def NumsIn (R : Nat → Prop) (w : World) (u : Value) (l : List Int) : Prop := ∃ A c, u = .slice A l.length c ∧ l.length ≤ c ∧ (A = none → c = 0) ∧ IntsIn R w A l
theorem NumsIn.keeps {R S : Nat → Prop} {w w1 : World} {u : Value} {l : List Int} (h : NumsIn R w u l) (hk : Keeps S w w1) (hn : ∀ b, R b → ¬ S b) : NumsIn R w1 u l := by
  obtain ⟨A, c, h1, h2, h3, h4⟩ := h
  exact ⟨A, c, h1, h2, h3, h4.keeps hk hn⟩
theorem NumsIn.mono {R R' : Nat → Prop} {w : World} {u : Value} {l : List Int} (h : NumsIn R w u l) (hr : ∀ b, b < w.heap.size → R b → R' b) : NumsIn R' w u l := by
  obtain ⟨A, c, h1, h2, h3, h4⟩ := h
  exact ⟨A, c, h1, h2, h3, h4.mono hr⟩
def ge (es : List EqV) (j : Nat) : EqV := es.getD j ⟨[], []⟩
theorem ge_eq (es : List EqV) (j : Nat) (h : j < es.length) : ge es j = es[j] := by simp [ge, h]
theorem ge_mem (es : List EqV) (j : Nat) (h : j < es.length) : ge es j ∈ es := by rw [ge_eq es j h]; exact List.getElem_mem h
/-- Equations that are read at an address, all in blocks of some. -/
def EqsIn (R : Nat → Prop) (w : World) (A : Option Addr) (es : List EqV) : Prop :=
  es.length ≤ 4611686018427387903 ∧ (0 < es.length → ∃ b off, A = some ⟨b, off, none⟩ ∧ R b ∧ ∀ j, j < es.length → ∃ u1 u2, w.cell? ⟨b, off + j * 2, none⟩ = some u1 ∧ w.cell? ⟨b, off + j * 2 + 1, none⟩ = some u2 ∧ NumsIn R w u1 (ge es j).of ∧ RowIn R w u2 (ge es j).val)
theorem EqsIn.keeps {R S : Nat → Prop} {w w1 : World} {A : Option Addr} {es : List EqV} (h : EqsIn R w A es) (hk : Keeps S w w1) (hn : ∀ b, R b → ¬ S b) : EqsIn R w1 A es :=
  ⟨h.1, fun h0 => by
    obtain ⟨b, off, e, hb, hc⟩ := h.2 h0
    refine ⟨b, off, e, hb, fun j hj => ?_⟩
    obtain ⟨u1, u2, h1, h2, h3, h4⟩ := hc j hj
    exact ⟨u1, u2, hk.cell h1 (hn b hb), hk.cell h2 (hn b hb), h3.keeps hk hn, h4.keeps hk hn⟩⟩
theorem EqsIn.mono {R R' : Nat → Prop} {w : World} {A : Option Addr} {es : List EqV} (h : EqsIn R w A es) (hr : ∀ b, b < w.heap.size → R b → R' b) : EqsIn R' w A es :=
  ⟨h.1, fun h0 => by
    obtain ⟨b, off, e, hb, hc⟩ := h.2 h0
    obtain ⟨u1, u2, h1, _⟩ := hc 0 h0
    refine ⟨b, off, e, hr b (World.block_lt_of_cell? w _ h1) hb, fun j hj => ?_⟩
    obtain ⟨u1, u2, h1, h2, h3, h4⟩ := hc j hj
    exact ⟨u1, u2, h1, h2, h3.mono hr, h4.mono hr⟩⟩
theorem EqsIn.lt {R : Nat → Prop} {w : World} {A : Option Addr} {es : List EqV} (h : EqsIn R w A es) : EqsIn (fun b => R b ∧ b < w.heap.size) w A es := h.mono (fun b h1 h2 => ⟨h2, h1⟩)
/-- All numbers of some equations, one behind the other. -/
def ofsE (es : List EqV) : List Int := es.flatMap EqV.of
def valsE (es : List EqV) : List (List UInt8) := es.map EqV.val
theorem ofsE_snoc (es : List EqV) (e : EqV) : ofsE (es ++ [e]) = ofsE es ++ e.of := by simp [ofsE]
theorem valsE_snoc (es : List EqV) (e : EqV) : valsE (es ++ [e]) = valsE es ++ [e.val] := by simp [valsE]
theorem take_ge (es : List EqV) (k : Nat) (h : k < es.length) : es.take (k + 1) = es.take k ++ [ge es k] := by rw [List.take_succ_eq_append_getElem h, ge_eq es k h]
theorem ofsE_take_le (es : List EqV) (k : Nat) : (ofsE (es.take k)).length ≤ (ofsE es).length := by
  have : ofsE es = ofsE (es.take k) ++ ofsE (es.drop k) := by rw [ofsE, ofsE, ofsE, ← List.flatMap_append, List.take_append_drop]
  rw [this, List.length_append]; omega
/-- Two results, the first in a cell of its own. -/
theorem results_cell_then {P : Program} {fn : Func} {p q : Tmp} {ty : TypeId} (h : fn.results = #[.cell p ty, .tmp q]) (tmps : Array Value) (w : World) (g : Nat) (t : TypeId) (cs : Array Value) (fr : Nat × Nat) (d : TypeDesc)
    (hp : tmps.getD p undef = .pointer (some ⟨g, 0, none⟩)) (hg : w.heap[g]? = some (.cells cs t fr))
    (hu : P.underlying ty = some d) (hd : (match d with | .struct _ | .array _ _ => true | _ => false) = true) (hi : (P.info? ty).map (·.size) = some cs.size) :
    (results fn tmps).run P w = .ok (.tuple #[.agg cs, tmps.getD q undef]) w := by
  have hp' : tmps[p]?.getD undef = .pointer (some ⟨g, 0, none⟩) := by simpa using hp
  simp [results, h, hp', asAddr, run_loadVar_row w g t ty cs fr d hg hu hd hi]
theorem OwnRows.row {R : Nat → Prop} {w : World} {base : Nat} {v : Value} {ls : List (List UInt8)} (h : OwnRows R w base v ls) : ∃ us, w.ownsRow base 25 1 v ls.length us := by
  obtain ⟨us, _, h2, _⟩ := h
  exact ⟨us, h2⟩
theorem heap_put {w : World} {g o : Nat} {cells : Array Value} {T : TypeId} {fr : Nat × Nat} (h : w.heap[g]? = some (.cells cells T fr)) (u : Value) : (w.setCell ⟨g, o, none⟩ u).heap[g]? = some (.cells (cells.setIfInBounds o u) T fr) := by
  show (w.heap.modify g _)[g]? = _
  rw [Array.getElem?_modify, if_pos rfl, h]; rfl
theorem put_two {w : World} {b : Nat} {a0 a1 : Value} {T : TypeId} {fr : Nat × Nat} (h : w.heap[b]? = some (.cells #[a0, a1] T fr)) (x y : Value) : ((w.setCell ⟨b, 0, none⟩ x).setCell ⟨b, 1, none⟩ y).heap[b]? = some (.cells #[x, y] T fr) := heap_put (heap_put h x) y
theorem cells2 {w : World} {b : Nat} {x y : Value} {T : TypeId} {fr : Nat × Nat} (h : w.heap[b]? = some (.cells #[x, y] T fr)) : w.cell? ⟨b, 0, none⟩ = some x ∧ w.cell? ⟨b, 1, none⟩ = some y := by simp [World.cell?, h]
/-- Two rows of unlike kinds lie in two blocks. -/
theorem own_apart {w : World} {base base' : Nat} {e e' : TypeId} {v v' : Value} {n n' : Nat} {xs xs' : List Value} (h : w.ownsRow base e 1 v n xs) (h' : w.ownsRow base' e' 1 v' n' xs') (he : e ≠ e') : ∀ b, v.ownBlock = some b → v'.ownBlock ≠ some b := by
  intro b hb hb'
  rcases h.2 with ⟨rfl, _⟩ | ⟨g, cap, cur, rfl, _, hg, _⟩
  · simp [Value.ownBlock] at hb
  · rcases h'.2 with ⟨rfl, _⟩ | ⟨g', cap', cur', rfl, _, hg', _⟩
    · simp [Value.ownBlock] at hb'
    · have e1 : g = b := by simpa [Value.ownBlock] using hb
      have e2 : g' = b := by simpa [Value.ownBlock] using hb'
      subst e1; subst e2
      rw [hg] at hg'
      injection hg' with h1
      injection h1 with _ h2
      exact he h2
theorem bsum_no (n : Int) (ls : List (List UInt8)) (A : Option Addr) (c : Nat) (R : Nat → Prop) (w : World) (hn0 : -9223372036854775808 ≤ n) (hn : n ≤ 1073741824) (hb : RowsIn R w A ls) (hfit : fitN n ls = false) :
    Calls Try.prog 19 #[.int .i64 n, .slice A ls.length c] w fun e w' => e = .returned (.tuple #[.slice none 0 0, .bool false]) ∧ Keeps NoB w w' := by
  by_cases h0 : n < 0
  · exact bsum_neg n ls.length A c w h0 hn0
  · obtain ⟨m, rfl⟩ : ∃ m : Nat, n = (m : Int) := ⟨n.toNat, by omega⟩
    refine bsum_unfit m ls A c R w (by omega) hb ?_
    unfold fitN at hfit
    rw [decide_eq_true (by omega : (0 : Int) ≤ (m : Int)), Bool.true_and] at hfit
    exact hfit
end Go.Proofs.Ytnnkfopopanfjaa
