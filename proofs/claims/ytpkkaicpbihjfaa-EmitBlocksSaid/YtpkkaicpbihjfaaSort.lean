/- The library's sort and search, as they are laid for this program, in this seat's words. No condition but on lengths. -/
import Derived.Test.YtpkkaicpbihjfaaShelf
import Derived.Test.YtpkkaicpbihjfaaLib
import Derived.Sort.Grow
set_option linter.unusedVariables false
namespace Go.Proofs.Ytpkkaicpbihjfaa
open Go.RowKit Go.Sort

def srtM (l : List Int) : List Int := l.mergeSort (fun x y => decide (x ≤ y))
theorem srtM_length (l : List Int) : (srtM l).length = l.length := by unfold srtM; exact List.length_mergeSort l
theorem putRow_block {w : World} {g n : Nat} {os : Array Obj} {cur : Array Value} {e : TypeId} (d : List Int) (hb : w.heap[g]? = some (.cells cur e (0, 0))) :
    (grow (putRow (Value.int .i64) (Sort.ahead w n) g 0 d.toArray) os).heap[g]? = some (.cells (putCells (Value.int .i64) 0 d.toArray cur) e (0, 0)) := by
  have hg : g < w.heap.size := (Array.getElem?_eq_some_iff.1 hb).1
  rw [heap_grow_old _ _ (by simpa using hg)]
  simp [putRow, mapBlock, Sort.ahead, Array.getElem?_modify, hb, onCells]
theorem putRow_grown {w : World} {g n : Nat} {os : Array Obj} (d : List Int) : w.grownBy (grow (putRow (Value.int .i64) (Sort.ahead w n) g 0 d.toArray) os) (some g) := by
  refine ⟨rfl, rfl, rfl, by simp, fun k hk hne => ?_⟩
  rw [heap_grow_old _ _ (by simpa using hk)]
  have : g ≠ k := fun e => hne (by rw [e])
  simp [putRow, mapBlock, Sort.ahead, Array.getElem?_modify, this]
theorem take_putInts (cur : Array Value) (ts : List Int) (h : ts.length ≤ cur.size) : (putCells (Value.int .i64) 0 ts.toArray cur).toList.take ts.length = ts.map (Value.int .i64) := by
  apply List.ext_getElem?
  intro j
  by_cases hj : j < ts.length
  · rw [List.getElem?_take_of_lt hj, Array.getElem?_toList]
    simp [putCells, hj, show j < cur.size by omega]
  · rw [List.getElem?_take_eq_none (by omega), List.getElem?_eq_none (by simp; omega)]
theorem sort_calls (v : Value) (l : List Int) (base : Nat) (w : World) (h : OwnInts w base .i64 3 v l) (hl : l.length ≤ 1073741824) :
    Calls Try.prog 75 #[v] w fun e w' => e = .returned (.tuple #[]) ∧ OwnInts w' base .i64 3 v (srtM l) ∧ w.grownBy w' v.ownBlock := by
  rcases h.2 with ⟨rfl, h0⟩ | ⟨g, cap, cur, rfl, hb, hg, h1, h2, h3, h4⟩
  · obtain rfl : l = [] := List.length_eq_zero_iff.1 h0
    refine (Try.slices_Sort_int_none none 0 w).mono ?_
    rintro e w' ⟨rfl, rfl⟩
    exact ⟨rfl, by simp [srtM]; exact OwnInts.nil _ _ _ _, ⟨rfl, rfl, rfl, Nat.le_refl _, fun _ _ _ => rfl⟩⟩
  · have hh : Holds (Value.int .i64) w g 0 l.toArray := by
      intro j hj
      have hj' : j < l.length := by simpa using hj
      refine ⟨?_, by simp [World.frozen?, hg]⟩
      have e1 : (cur.toList.take l.length)[j]? = (l.map (Value.int .i64))[j]? := by rw [← h4, Nat.mul_one]
      rw [List.getElem?_take_of_lt hj'] at e1
      simp only [World.cell?, hg, Nat.zero_add]
      simp only [Option.isSome_none, Bool.false_eq_true, if_false]
      rw [← Array.getElem?_toList, e1]
      simp [hj']
    refine (Try.slices_Sort_int g 0 cap l w hh (lt_of_heap hg) (by omega)).mono ?_
    rintro e w' ⟨rfl, n, os, rfl⟩
    refine ⟨rfl, ?_, putRow_grown _⟩
    refine ⟨by simp, .inr ⟨g, cap, _, by rw [srtM_length], hb, putRow_block (srtM l) hg, by rw [srtM_length]; exact h1, h2, by simp [putCells, h3], ?_⟩⟩
    rw [Nat.mul_one]
    exact take_putInts cur _ (by rw [srtM_length]; omega)
theorem search_calls (xs : List Int) (x : Int) (A : Option Addr) (c : Nat) (w : World) (h : IntsAt w .i64 A xs) (hs : xs.Pairwise (· ≤ ·)) (hl : xs.length ≤ 4611686018427387903) :
    Calls Try.prog 102 #[.slice A xs.length c, .int .i64 x] w fun e w' => e = .returned (.tuple #[.int .i64 (xs.countP (· < x) : Nat), .bool (decide (x ∈ xs))]) ∧ ∃ q, w' = w.drewN q := by
  rcases Nat.eq_zero_or_pos xs.length with h0 | h0
  · obtain rfl : xs = [] := List.length_eq_zero_iff.1 h0
    refine (Try.slices_BinarySearch_int_empty A c x w).mono ?_
    rintro e w' ⟨rfl, rfl⟩
    exact ⟨rfl, 0, rfl⟩
  · obtain ⟨b, off, rfl, hc⟩ := h.get h0
    refine (Try.slices_BinarySearch_int b off xs.length c xs x w (Nat.le_refl _) (by omega) hc (by rw [List.take_length]; exact hs)).mono ?_
    rintro e w' ⟨rfl, hq⟩
    refine ⟨?_, hq⟩
    rw [List.take_length]
    have e1 : xs.contains x = decide (x ∈ xs) := by rw [Bool.eq_iff_iff, List.contains_iff_mem, decide_eq_true_eq]
    rw [e1]
end Go.Proofs.Ytpkkaicpbihjfaa
