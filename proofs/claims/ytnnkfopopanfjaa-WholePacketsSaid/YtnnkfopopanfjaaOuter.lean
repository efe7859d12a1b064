/- Which message blocks are in which auxiliary ones: the walks of package outer. Conditions: numbers are of their kinds; parameters that may be. -/
import Derived.Test.YtnnkfopopanfjaaG1
import Derived.Test.YtnnkfopopanfjaaParams
import Derived.Test.YtnnkfopopanfjaaG2
import Derived.Deep.RegionHeld3
import Derived.Deep.AppendLies
import Derived.Deep.DrawnRows
set_option linter.unusedVariables false
namespace Go.Proofs.Ytnnkfopopanfjaa
open Go.RowKit

/-- A graph that is made: which auxiliary blocks each message block is in, and which message blocks each auxiliary one has. -/
def GraphAt (w : World) (g : Nat) (ofs has : List (List Int)) : Prop :=
  ∃ Ao co Ah ch, w.heap[g]? = some (.cells #[.slice Ao ofs.length co, .slice Ah has.length ch] 123 (0, 0)) ∧ RowsAt w Ao ofs ∧ RowsAt w Ah has ∧ ofs.length ≤ 1073741824 ∧ has.length ≤ 1073741824 ∧ (∀ l ∈ ofs, l.length ≤ 1073741824) ∧ ∀ l ∈ has, l.length ≤ 1073741824
theorem GraphAt.same {w w' : World} {g : Nat} {ofs has : List (List Int)} (h : GraphAt w g ofs has) (hw : ∀ k, k < w.heap.size → w'.heap[k]? = w.heap[k]?) : GraphAt w' g ofs has := by
  obtain ⟨Ao, co, Ah, ch, h1, h2, h3, h4⟩ := h
  exact ⟨Ao, co, Ah, ch, (hw g (lt_of_heap h1)).trans h1, h2.same hw, h3.same hw, h4⟩
theorem GraphAt.stays {w : World} {g : Nat} {ofs has : List (List Int)} (h : GraphAt w g ofs has) : Stays w.heap.size w (fun w => GraphAt w g ofs has) := ⟨Nat.le_refl _, fun _ hw => h.same hw⟩
theorem GraphAt.kept {w w' : World} {g : Nat} {ofs has : List (List Int)} (h : GraphAt w g ofs has) (hk : Keeps NoB w w') : GraphAt w' g ofs has := h.same (fun k hl => hk.block k hl (fun h => h))

/-- One of some lists; none where there is none such. -/
def getN (ls : List (List Int)) (i : Int) : List Int := if 0 ≤ i ∧ i < ls.length then gl ls i.toNat else []
theorem getN_pos {ls : List (List Int)} {i : Int} (h0 : 0 ≤ i) (h1 : i < ls.length) : getN ls i = gl ls i.toNat := if_pos ⟨h0, h1⟩
theorem getN_neg {ls : List (List Int)} {i : Int} (h : ¬ (0 ≤ i ∧ i < ls.length)) : getN ls i = [] := if_neg h
theorem getN_nat {ls : List (List Int)} {i : Nat} (h1 : i < ls.length) : getN ls (i : Int) = gl ls i := by rw [getN_pos (by omega) (by omega)]; simp
theorem gl_len {ls : List (List Int)} {B : Nat} (h : ∀ l ∈ ls, l.length ≤ B) (j : Nat) (hj : j < ls.length) : (gl ls j).length ≤ B := by rw [gl_eq ls j hj]; exact h _ (List.getElem_mem hj)
set_option maxHeartbeats 800000 in
set_option maxRecDepth 20000 in
theorem get_calls (ls : List (List Int)) (i : Int) (A : Option Addr) (c : Nat) (w : World) (h : RowsAt w A ls) (hB : ∀ l ∈ ls, l.length ≤ 1073741824) (hi0 : -9223372036854775808 ≤ i) (hi1 : i ≤ 9223372036854775807) :
    Calls Try.prog 65 #[.slice A ls.length c, .int .i64 i] w fun e w' => ∃ v, e = .returned v ∧ OwnInts w' w.heap.size .i64 3 v (getN ls i) ∧ Keeps NoB w w' := by
  have hlen := h.1
  by_cases h0 : 0 ≤ i
  · by_cases h1 : i < ls.length
    · obtain ⟨b, off, rfl, hc⟩ := h.2 (by omega)
      obtain ⟨u, hu, A1, c1, rfl, hlc, hA1, hat⟩ := hc i.toNat (by omega)
      have hg := hid (getN_pos h0 h1)
      have hl := gl_len hB i.toNat (by omega)
      have HA := hid hat
      have HA1 := hid hA1
      have d0 : decide (i < 0) = false := decide_eq_false (by omega)
      have d1 : decide ((ls.length : Int) ≤ i) = false := decide_eq_false (by omega)
      have hun := Try.underlying76
      clear hc hat h hA1
      generalize gl ls i.toNat = l at *
      go_enter Try.func65, Try.ntmps65
      go_wp2_with (at_builtin; go_must (refine wpList_appInts _ rfl _ _ 76 rfl w.heap.size 3 .i64 8 hun info_int _ _ rfl (OwnInts.nil _ _ _ _) A1 c1 l rfl HA1.out HA.out (by simp; omega) (by simp; omega) (Nat.le_refl _) ?_); intro v1 w1 hown1 hgr1)
      go_ret
      refine ⟨v1, rfl, ?_, (Keeps.refl NoB w).grown hgr1 (fun i e => by cases e)⟩
      rw [hg.out]
      exact hown1
    · have hg := hid (getN_neg (ls := ls) (i := i) (fun h => h1 h.2))
      have d0 : decide (i < 0) = false := decide_eq_false (by omega)
      have d1 : decide ((ls.length : Int) ≤ i) = true := decide_eq_true (by omega)
      go_enter Try.func65, Try.ntmps65
      go_wp2_with fail
      go_ret
      refine ⟨_, rfl, ?_, Keeps.refl _ _⟩
      rw [hg.out]; exact OwnInts.nil _ _ _ _
  · have hg := hid (getN_neg (ls := ls) (i := i) (fun h => h0 h.1))
    have d0 : decide (i < 0) = true := decide_eq_true (by omega)
    go_enter Try.func65, Try.ntmps65
    go_wp2_with fail
    go_ret
    refine ⟨_, rfl, ?_, Keeps.refl _ _⟩
    rw [hg.out]; exact OwnInts.nil _ _ _ _
set_option maxHeartbeats 400000 in
theorem gHas_calls (g : Nat) (ofs has : List (List Int)) (i : Int) (w : World) (h : GraphAt w g ofs has) (hi0 : -9223372036854775808 ≤ i) (hi1 : i ≤ 9223372036854775807) :
    Calls Try.prog 41 #[.pointer (some ⟨g, 0, none⟩), .int .i64 i] w fun e w' => ∃ v, e = .returned v ∧ OwnInts w' w.heap.size .i64 3 v (getN has i) ∧ Keeps NoB w w' := by
  obtain ⟨Ao, co, Ah, ch, h1, h2, h3, h4, h5, h6, h7⟩ := h
  have c0 : w.cell? ⟨g, 1, none⟩ = some (.slice Ah has.length ch) := by simp [World.cell?, h1]
  have HR := hid h3
  have HL := hid h7
  clear h1 h2 h3 h4 h5 h6 h7
  go_enter Try.func41, Try.ntmps41
  go_wp2_with fail
  refine (get_calls has i _ _ _ HR.out HL.out hi0 hi1).mono ?_
  rintro e w' ⟨v, rfl, hown, HK⟩
  go_wp2_with fail
  go_ret
  exact ⟨v, rfl, hown, HK⟩
set_option maxHeartbeats 400000 in
theorem gAuxiliary_calls (g : Nat) (ofs has : List (List Int)) (w : World) (h : GraphAt w g ofs has) :
    Calls Try.prog 39 #[.pointer (some ⟨g, 0, none⟩)] w fun e w' => e = .returned (.int .i64 (has.length : Nat)) ∧ w' = w := by
  obtain ⟨Ao, co, Ah, ch, h1, h2, h3, h4, h5, h6, h7⟩ := h
  have c0 : w.cell? ⟨g, 1, none⟩ = some (.slice Ah has.length ch) := by simp [World.cell?, h1]
  clear h1 h2 h3 h6 h7
  go_enter Try.func39, Try.ntmps39
  go_wp2_with fail
  go_ret
  exact ⟨rfl, rfl⟩
/-- All blocks of an auxiliary one's equation. -/
def eqN (ofs has : List (List Int)) (i : Int) : List Int := if 0 ≤ i ∧ i < has.length then gl has i.toNat ++ [(ofs.length : Int) + i] else []
attribute [local go_sem ↓] Go.wp_at_zero Go.wp_at_succ
end Go.Proofs.Ytnnkfopopanfjaa
