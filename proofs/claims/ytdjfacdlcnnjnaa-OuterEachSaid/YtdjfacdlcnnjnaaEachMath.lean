/- Each message block is in as many auxiliary ones as it is to be, and whoever has it is whom it is in: the plain law; and a map that counts pairs. Conditions: parameters that may be. -/
import Derived.Test.YtdjfacdlcnnjnaaOuterNew
import Derived.Maps.OwnOps
import Derived.Maps.OwnSet
import Derived.WideKeyEntry
import Derived.WideKeyPair
import Derived.DeepKeys4
set_option linter.unusedVariables false
namespace Go.Proofs.Ytdjfacdlcnnjnaa
open Go.RowKit

theorem mem_putAt (h : List (List Int)) (i j : Int) (hj : j.toNat < h.length) (x : Int) (k : Nat) : x ∈ gl (putAt h i j) k ↔ x ∈ gl h k ∨ (x = i ∧ k = j.toNat) := by
  unfold putAt
  rw [gl_set]
  split
  · rename_i hc
    obtain ⟨rfl, _⟩ := hc
    simp
  · rename_i hc
    constructor
    · exact fun h => .inl h
    · rintro (h | ⟨_, h⟩)
      · exact h
      · exact absurd ⟨h, hj⟩ hc
theorem mem_putAll (i : Int) (l : List Int) : ∀ (h : List (List Int)), (∀ j ∈ l, 0 ≤ j ∧ j.toNat < h.length) → ∀ (x : Int) (k : Nat), x ∈ gl (putAll h i l) k ↔ x ∈ gl h k ∨ (x = i ∧ (k : Int) ∈ l) := by
  induction l with
  | nil => intro h _ x k; simp [putAll]
  | cons j r ih =>
    intro h hl x k
    show x ∈ gl (putAll (putAt h i j) i r) k ↔ _
    have hj := hl j (List.mem_cons_self ..)
    rw [ih (putAt h i j) (fun y hy => by rw [putAt_length]; exact hl y (List.mem_cons_of_mem _ hy)), mem_putAt h i j hj.2]
    have : k = j.toNat ↔ (k : Int) = j := by omega
    rw [List.mem_cons, this]
    constructor
    · rintro ((h1 | ⟨h1, h2⟩) | ⟨h1, h2⟩)
      · exact .inl h1
      · exact .inr ⟨h1, .inl h2⟩
      · exact .inr ⟨h1, .inr h2⟩
    · rintro (h1 | ⟨h1, h2 | h2⟩)
      · exact .inl (.inl h1)
      · exact .inl (.inr ⟨h1, h2⟩)
      · exact .inr ⟨h1, h2⟩
theorem mem_hasN (p : Par) (session : Nat) (hp : p.may) (n : Nat) (x : Int) (k : Nat) : x ∈ gl (hasN p session n) k ↔ ∃ i : Nat, i < n ∧ x = (i : Int) ∧ (k : Int) ∈ ofN p session i := by
  induction n with
  | zero =>
    have : gl (hasN p session 0) k = [] := by unfold gl hasN; rw [List.getD_eq_getElem?_getD, List.getElem?_replicate]; split <;> rfl
    rw [this]; simp
  | succ n ih =>
    show x ∈ gl (putAll _ _ _) k ↔ _
    rw [mem_putAll _ _ _ (fun j hj => by rw [hasN_length]; exact ofN_in p session n hp j hj), ih]
    constructor
    · rintro (⟨i, h1, h2, h3⟩ | ⟨h1, h2⟩)
      · exact ⟨i, by omega, h2, h3⟩
      · exact ⟨n, by omega, h1, h2⟩
    · rintro ⟨i, h1, h2, h3⟩
      by_cases he : i = n
      · subst he; exact .inr ⟨h2, h3⟩
      · exact .inl ⟨i, by omega, h2, h3⟩
/-- How many all of some lists have together. -/
def sumL (ls : List (List Int)) : Nat := (ls.map List.length).sum
theorem sumL_take (ls : List (List Int)) (k : Nat) (h : k < ls.length) : sumL (ls.take (k + 1)) = sumL (ls.take k) + (gl ls k).length := by
  unfold sumL
  rw [List.take_succ_eq_append_getElem h, List.map_append, List.sum_append, gl_eq ls k h]; simp
theorem sumL_set : ∀ (ls : List (List Int)) (j : Nat) (x : Int), j < ls.length → sumL (ls.set j (gl ls j ++ [x])) = sumL ls + 1
  | [], j, x, h => by simp at h
  | l :: r, 0, x, h => by simp [sumL, gl]; omega
  | l :: r, j + 1, x, h => by
    have := sumL_set r j x (by simpa using h)
    simp [sumL, gl] at this ⊢
    omega
theorem sumL_putAll (i : Int) (l : List Int) : ∀ (h : List (List Int)), (∀ j ∈ l, 0 ≤ j ∧ j.toNat < h.length) → sumL (putAll h i l) = sumL h + l.length := by
  induction l with
  | nil => intro h _; rfl
  | cons j r ih =>
    intro h hl
    show sumL (putAll (putAt h i j) i r) = _
    rw [ih _ (fun y hy => by rw [putAt_length]; exact hl y (List.mem_cons_of_mem _ hy))]
    unfold putAt
    rw [sumL_set _ _ _ (hl j (List.mem_cons_self ..)).2, List.length_cons]; omega
theorem ofN_len (p : Par) (session i : Nat) (hp : p.may) : ((ofN p session i).length : Int) = p.q := by
  unfold ofN
  rw [someN_length]
  obtain ⟨h1, h2, h3, h4, h5, h6, h7, h8, _⟩ := hp
  have : p.q ≤ auxN p := by unfold auxN; omega
  unfold cntN; rw [if_neg (by omega)]; omega
theorem sumL_hasN (p : Par) (session : Nat) (hp : p.may) (n : Nat) : (sumL (hasN p session n) : Int) = (n : Int) * p.q := by
  induction n with
  | zero =>
    have : ∀ a, sumL (List.replicate a ([] : List Int)) = 0 := by intro a; induction a with | zero => rfl | succ a ih => simp [sumL, List.replicate_succ] at ih ⊢
    show (sumL (List.replicate _ []) : Int) = _
    rw [this]; simp
  | succ n ih =>
    show (sumL (putAll _ _ _) : Int) = _
    rw [sumL_putAll _ _ _ (fun j hj => by rw [hasN_length]; exact ofN_in p session n hp j hj)]
    have := ofN_len p session n hp
    rw [Int.natCast_add, ih, this, Int.natCast_add, Int.add_mul]; simp

/-- How often a pair has been counted: all of the first i rows, and k of the next one. -/
def inN (row : Nat → List Int) (i k : Nat) (x y : Int) : Int := if (0 ≤ x ∧ x < (i : Int) ∧ y ∈ row x.toNat) ∨ (x = (i : Int) ∧ y ∈ (row i).take k) then 1 else 0
theorem inN_next (row : Nat → List Int) (i : Nat) : inN row i (row i).length = inN row (i + 1) 0 := by
  funext x y
  unfold inN
  rw [List.take_length]
  simp only [List.take_zero, List.not_mem_nil, and_false, or_false]
  by_cases h : x = (i : Int)
  · subst h
    simp
    congr 1
    rw [eq_iff_iff]
    constructor
    · intro h; exact ⟨by omega, h⟩
    · exact fun h => h.2
  · have : (x < (i : Int) ↔ x < ((i + 1 : Nat) : Int)) := by omega
    simp only [h, false_and, or_false, this]
theorem inN_old (row : Nat → List Int) (i k : Nat) (hr : (row i).Pairwise (· < ·)) (hk : k < (row i).length) : inN row i k (i : Int) (gi (row i) k) = 0 := by
  unfold inN
  rw [if_neg]
  rintro (⟨_, h, _⟩ | ⟨_, h⟩)
  · omega
  · obtain ⟨j, hj, e⟩ := List.getElem_of_mem h
    rw [List.length_take] at hj
    rw [List.getElem_take, gi_eq _ _ hk] at e
    have := List.pairwise_iff_getElem.1 hr j k (by omega) hk (by omega)
    omega
theorem inN_step (row : Nat → List Int) (i k : Nat) (hk : k < (row i).length) (x y : Int) : inN row i (k + 1) x y = if x = (i : Int) ∧ y = gi (row i) k then 1 else inN row i k x y := by
  unfold inN
  rw [List.take_succ_eq_append_getElem hk, ← gi_eq _ _ hk]
  by_cases h : x = (i : Int) ∧ y = gi (row i) k
  · rw [if_pos h, if_pos]
    exact .inr ⟨h.1, by rw [h.2]; simp⟩
  · rw [if_neg h]
    congr 1
    rw [eq_iff_iff, List.mem_append, List.mem_singleton]
    constructor
    · rintro (h1 | ⟨h1, h2 | h2⟩)
      · exact .inl h1
      · exact .inr ⟨h1, h2⟩
      · exact absurd ⟨h1, h2⟩ h
    · rintro (h1 | ⟨h1, h2⟩)
      · exact .inl h1
      · exact .inr ⟨h1, .inl h2⟩
theorem inN_one (row : Nat → List Int) (n i : Nat) (y : Int) (hi : i < n) (hy : y ∈ row i) : inN row n 0 (i : Int) y = 1 := by
  unfold inN
  rw [if_pos]
  exact .inl ⟨by omega, by omega, by simpa using hy⟩

/-! A map whose keys are pairs of numbers. -/
theorem pair_arr : WideMaps.ArrKey Try.prog 78 3 2 := ⟨Try.underlying78, by kernel_rfl, by kernel_rfl, by kernel_rfl⟩
theorem pair_law : WideMaps.KeyLaw Try.prog 78 := deep_law_laid (by kernel_rfl : laidOutB Try.prog = true) (m := 2) (by omega) (of_decide_eq_true (by kernel_rfl)) (by kernel_rfl) (by rw [Try.underlying78])
theorem pair_keyed : Maps.Keyed Try.prog 78 := Maps.Keyed.of_law pair_law
theorem zero_int (w : World) : (zeroValue 3).run Try.prog w = .ok (.int .i64 0) w := by kernel_rfl
noncomputable def pairKey (x y : Int) : Lit := .string (keyBytes [.int .i64 x, .int .i64 y])
theorem key_pair {x y : Int} (hx : (Lit.int .i64 x).wf = true) (hy : (Lit.int .i64 y).wf = true) : keyOf Try.prog 78 (.agg #[.int .i64 x, .int .i64 y]) = some (pairKey x y) :=
  WideMaps.keyOf_pair pair_arr Try.underlying3 ⟨Try.prog.types.size - 1, by kernel_rfl⟩ hx hy
/-- A map that tells how often a pair was counted. -/
def CntAt (w : World) (b n : Nat) (f : Int → Int → Int) : Prop :=
  ∃ D, w.ownsMap (H := Unit) Try.prog 78 (plainElem Try.prog 3) b n D ∧ ∀ x y, (Lit.int .i64 x).wf = true → (Lit.int .i64 y).wf = true → D.atKey (pairKey x y) (.lit (.int .i64 0)) = .lit (.int .i64 (f x y))
theorem CntAt.keeps {w w1 : World} {b n : Nat} {f : Int → Int → Int} (h : CntAt w b n f) {S : Nat → Prop} (hk : Keeps S w w1) (hn : ¬ S b) : CntAt w1 b n f := by
  obtain ⟨D, ⟨es, clock, hb, r⟩, hf⟩ := h
  exact ⟨D, ⟨es, clock, hk.heap hb hn, r⟩, hf⟩
theorem CntAt.made (w : World) (row : Nat → List Int) : CntAt (w.alloc (.map #[] 0)) w.heap.size 0 (inN row 0 0) := by
  refine ⟨_, World.ownsMap_made w _ _ _, fun x y _ _ => ?_⟩
  have : inN row 0 0 x y = 0 := by unfold inN; rw [if_neg]; rintro (⟨h1, h2, _⟩ | ⟨_, h⟩) <;> simp at * <;> omega
  rw [this]; rfl
/-- What is asked. -/
theorem CntAt.ask {w : World} {b n : Nat} {f : Int → Int → Int} (h : CntAt w b n f) {x y : Int} (hx : (Lit.int .i64 x).wf = true) (hy : (Lit.int .i64 y).wf = true) :
    (Instr.lookup 77 (.map (some b)) (.agg #[.int .i64 x, .int .i64 y]) false).run Try.prog w = .ok (.int .i64 (f x y)) w ∧ (Lit.int .i64 (f x y)).wf = true := by
  obtain ⟨D, hown, hf⟩ := h
  obtain ⟨c, hrun, hat, hwf⟩ := hown.lookup_int pair_keyed Try.underlying77 Try.underlying3 (zero_int w) (key_pair hx hy)
  rw [hf x y hx hy] at hat
  obtain rfl : f x y = c := by simpa using hat
  exact ⟨hrun, hwf⟩
/-- An entry that is asked for lies where a store of what it holds would lay it. -/
theorem entry_as_update {H : Type} {P : Program} {w : World} {t k e : TypeId} {R : Value → Option (DataW H × List MemPlace)} {b : Nat} {es : Array MapEntry} {clock : Nat} (K : WideMaps.KeyLaw P k) (ht : P.underlying t = some (.map k e)) {z : Value} (hz : ∀ u : World, (zeroValue e).run P u = .ok z u)
    (hb : w.heap[b]? = some (.map es clock)) (F : WideElems.Fit P k R es clock) {key : Value} {kl : Lit} (hkey : keyOf P k key = some kl) {v0 s : Value} {w1 : World} (h : (Instr.mapEntry t (.map (some b)) key).run P w = .ok (.tuple #[v0, s]) w1) :
    (Instr.mapUpdate t (.map (some b)) key v0).run P w = .ok () w1 ∧ (Instr.lookup t (.map (some b)) key false).run P w = .ok v0 w := by
  rcases K.find w hkey es.toList F.keys with ⟨h1, h2⟩ | ⟨j, e0, h1, h2, h3⟩
  · simp [Instr.mapEntry, run_underlying ht, MapKept.run_getObj_map hb, K.check w false hkey, h1, hz, MapKept.run_setObj_map _ hb, Result.andThen] at h
    obtain ⟨⟨rfl, _⟩, rfl⟩ := h
    refine ⟨?_, by simp [Instr.lookup, run_underlying ht, MapKept.run_getObj_map hb, K.check w es.isEmpty hkey, h1, hz, Result.andThen]⟩
    simp [Instr.mapUpdate, run_underlying ht, MapKept.run_getObj_map hb, K.check w false hkey, h1, MapKept.run_setObj_map _ hb, Result.andThen]
  · have hj : es[j]? = some e0 := by simpa using h2
    simp [Instr.mapEntry, run_underlying ht, MapKept.run_getObj_map hb, K.check w false hkey, h1, hj, h3, K.stays w hkey, MapKept.run_setObj_map _ hb, Result.andThen] at h
    obtain ⟨⟨rfl, _⟩, rfl⟩ := h
    refine ⟨?_, by simp [Instr.lookup, run_underlying ht, MapKept.run_getObj_map hb, K.check w es.isEmpty hkey, h1, Result.andThen]⟩
    simp [Instr.mapUpdate, run_underlying ht, MapKept.run_getObj_map hb, K.check w false hkey, h1, hj, h3, K.stays w hkey, MapKept.run_setObj_map _ hb, Result.andThen]
    congr 2
    apply Array.ext'
    rw [Array.toList_modify, Array.toList_modify, ChangeMaps.modify_eq_set _ _ _ _ h2, ChangeMaps.modify_eq_set _ _ _ _ h2]
theorem pairKey_key (x y : Int) : WideAt.IsKeyLit (pairKey x y) := trivial
/-- What is counted: the entry, and its value, in two steps. -/
theorem CntAt.put {w : World} {b n : Nat} {f : Int → Int → Int} (h : CntAt w b n f) {x y : Int} (hx : (Lit.int .i64 x).wf = true) (hy : (Lit.int .i64 y).wf = true) (hn : n < maxLen) (c : Int) (hc : (Lit.int .i64 c).wf = true) :
    ∃ (v0 : Value) (st : Nat) (w1 : World), (Instr.mapEntry 77 (.map (some b)) (.agg #[.int .i64 x, .int .i64 y])).run Try.prog w = .ok (.tuple #[v0, goInt st]) w1 ∧
      (Instr.lookup 77 (.map (some b)) (.agg #[.int .i64 x, .int .i64 y]) false).run Try.prog w1 = .ok (.int .i64 (f x y)) w1 ∧
      ∃ w2, (Instr.entryStore 77 (.map (some b)) (goInt st) (.int .i64 c)).run Try.prog w1 = .ok () w2 ∧ Keeps (· = b) w w2 ∧ CntAt w2 b (n + 1) (fun x' y' => if x' = x ∧ y' = y then c else f x' y') := by
  obtain ⟨hask, hwf⟩ := h.ask hx hy
  obtain ⟨D, hown, hf⟩ := h
  have hmap := hown.isMap
  have hown0 := hown
  obtain ⟨w', hup', hown', hg⟩ := hown.update (t := 77) (e := 3) pair_keyed Try.underlying77 hn (val := .int .i64 c) (key_pair hx hy) (plainElem_int Try.underlying3 hc)
  obtain ⟨es, clock, hb, F, hs, hD⟩ := hown
  obtain ⟨v0, st, es1, clock1, hrun, hv0, hst⟩ := WideElems.entry_then_store pair_law Try.underlying77 (fun u => zero_int u) hb F (key_pair hx hy)
  obtain ⟨es', clock', hst1, hup⟩ := hst (ChangeMaps.setBlock w b (.map es1 clock1)) (.int .i64 c) (ChangeMaps.heap_setBlock_same hb _)
  have he : w' = ChangeMaps.setBlock w b (.map es' clock') := by
    exact ((Result.ok.inj (hup.symm.trans hup')).2).symm
  have hb1 := ChangeMaps.heap_setBlock_same hb (.map es1 clock1)
  have hsz : (ChangeMaps.setBlock w b (.map es1 clock1)).heap.size = w.heap.size := by simp [ChangeMaps.setBlock]
  have hsz2 : (ChangeMaps.setBlock (ChangeMaps.setBlock w b (.map es1 clock1)) b (.map es' clock')).heap.size = w.heap.size := by simp [ChangeMaps.setBlock]
  obtain ⟨hent, hlook⟩ := entry_as_update pair_law Try.underlying77 (fun u => zero_int u) hb F (key_pair hx hy) hrun
  obtain rfl : v0 = .int .i64 (f x y) := (Result.ok.inj (hlook.symm.trans hask)).1
  obtain ⟨w1', hup1, hown1, _⟩ := hown0.update (t := 77) (e := 3) pair_keyed Try.underlying77 hn (val := .int .i64 (f x y)) (key_pair hx hy) (plainElem_int Try.underlying3 hwf)
  obtain rfl := (Result.ok.inj (hent.symm.trans hup1)).2
  obtain ⟨c1, hl1, hat1, _⟩ := hown1.lookup_int pair_keyed Try.underlying77 Try.underlying3 (zero_int _) (key_pair hx hy)
  rw [Maps.atKey_put_same hmap (pairKey_key _ _)] at hat1
  obtain rfl : f x y = c1 := by simpa using hat1
  refine ⟨_, st, _, hrun, hl1, _, hst1, ⟨rfl, rfl, rfl, by omega, fun k hk hnb => ?_⟩, ?_⟩
  · rw [ChangeMaps.heap_setBlock_other hb1 _ hnb, ChangeMaps.heap_setBlock_other hb _ hnb]
  · refine ⟨D.put (pairKey x y) (.lit (.int .i64 c)), ?_, fun x' y' hx' hy' => ?_⟩
    · subst he
      obtain ⟨es2, clock2, hb2, r⟩ := hown'
      rw [ChangeMaps.heap_setBlock_same hb] at hb2
      exact ⟨es2, clock2, (ChangeMaps.heap_setBlock_same hb1 _).trans hb2, r⟩
    · show _ = DataW.lit (Lit.int IntKind.i64 (if x' = x ∧ y' = y then c else f x' y'))
      by_cases h : x' = x ∧ y' = y
      · obtain ⟨rfl, rfl⟩ := h
        rw [if_pos ⟨rfl, rfl⟩, Maps.atKey_put_same hmap (pairKey_key _ _)]
      · rw [if_neg h, Maps.atKey_put_other, hf x' y' hx' hy']
        intro e
        have k1 := key_pair hx' hy'
        rw [e] at k1
        have := pair_keyed.inj k1 (key_pair hx hy)
        simp at this
        exact h this
end Go.Proofs.Ytdjfacdlcnnjnaa
