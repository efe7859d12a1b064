/- A sample, as the program draws it: its walk. Conditions: the numbers are of their kinds; below is at most 2^30. -/
import Derived.Test.YtnoooeeciebhfaaRefSome
import Derived.Test.YtnoooeeciebhfaaSort
import Derived.Maps.OwnSet
set_option linter.unusedVariables false
namespace Go.Proofs.Ytnoooeeciebhfaa
open Go.RowKit

theorem key_law : Maps.Keyed Try.prog 3 := Maps.int_keyed Try.underlying3
theorem zero_unit (w : World) : (zeroValue 73).run Try.prog w = .ok (.agg #[]) w := by kernel_rfl
/-- A set of numbers, by its keys in the order in which they were put. -/
def SetAt (w : World) (b n : Nat) (l : List Int) : Prop := w.ownsMap (H := Unit) Try.prog 3 unitElem b n (Maps.setOf (.agg []) (l.map (Lit.int .i64)))
theorem same_key_int (a b : Int) : (Lit.int .i64 a).sameKey (.int .i64 b) = decide (a = b) := by
  by_cases h : a = b
  · subst h; rw [WideAt.sameKey_self (a := .int .i64 a) trivial]; simp
  · rw [Maps.sameKey_ne (fun e => h (by injection e))]; simp [h]
theorem set_has (l : List Int) (x : Int) : Maps.has (Maps.setOf (H := Unit) (.agg []) (l.map (Lit.int .i64))) (.int .i64 x) = decide (x ∈ l) := by
  rw [Maps.has_setOf _ _ _ (fun y hy => by obtain ⟨a, _, rfl⟩ := List.mem_map.1 hy; trivial), List.any_map]
  rw [Bool.eq_iff_iff, List.any_eq_true, decide_eq_true_eq]
  constructor
  · rintro ⟨y, hy, h⟩
    rw [Function.comp_apply, same_key_int, decide_eq_true_eq] at h
    exact h ▸ hy
  · intro h
    exact ⟨x, h, by rw [Function.comp_apply, same_key_int]; simp⟩
theorem cnt_cast (below many : Int) : min (max many 0) (max below 0) = ((cntN below many : Nat) : Int) := by
  unfold cntN; split <;> omega
theorem cnt_le (below many : Int) : cntN below many ≤ below.toNat := by unfold cntN; split <;> omega
theorem ne_own {H : Type} {k : TypeId} {R : Value → Option (DataW H × List MemPlace)} {P : Program} {w : World} {b n : Nat} {D : DataW H} {base : Nat} {q : IntKind} {e : TypeId} {v : Value} {xs : List Int} (hm : w.ownsMap P k R b n D) (h : OwnInts w base q e v xs) : some b ≠ v.ownBlock := by
  obtain ⟨es, clock, hb, _⟩ := hm
  rcases h.2 with ⟨rfl, _⟩ | ⟨g, cap, cur, rfl, _, hg, _⟩
  · simp [Value.ownBlock]
  · intro e1
    have : b = g := by simpa [Value.ownBlock] using e1
    subst this
    rw [hb] at hg; cases hg
theorem SetAt.keeps {w w1 : World} {b n : Nat} {l : List Int} (h : SetAt w b n l) {S : Nat → Prop} (hk : Keeps S w w1) (hn : ¬ S b) : SetAt w1 b n l := by
  obtain ⟨es, clock, hb, r⟩ := h
  exact ⟨es, clock, hk.heap hb hn, r⟩
theorem SetAt.lt {w : World} {b n : Nat} {l : List Int} (h : SetAt w b n l) : b < w.heap.size := World.ownsMap.lt h
end Go.Proofs.Ytnoooeeciebhfaa
