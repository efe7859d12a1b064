/- The first words of the laws of edges: the walk of almonrylaw19.speaks. No condition. -/
import Derived.Test.YtnoooeeciebhfaaGraphOk
import Derived.Test.YtnoooeeciebhfaaSame
set_option linter.unusedVariables false
namespace Go.Proofs.Ytnoooeeciebhfaa
open Go.RowKit Go.ChangeShapes

theorem ints_ofBlock {w : World} {b : Nat} {e : TypeId} {fr : Nat × Nat} (l : List Int) (h : w.heap[b]? = some (.cells (l.map (Value.int .i64)).toArray e fr)) (hl : l.length ≤ 9223372036854775807) : IntsAt w .i64 (some ⟨b, 0, none⟩) l := by
  refine ⟨hl, fun _ => ⟨b, 0, rfl, fun j hj => ?_⟩⟩
  unfold World.cell?
  rw [h]
  simp [gi, hj]
def gF19 : GF := addK (fun _ => none) 7 [1, 2]
theorem g19_has (z y : Int) : hasF gF19 z y = (decide (z = 7) && decide (y ∈ ([1, 2] : List Int))) := by
  unfold gF19 addK
  rw [hasF_upd]
  by_cases e : z = 7
  · rw [if_pos e]; simp [e]
  · rw [if_neg e]; simp [e, hasF]
theorem g19_a (z : Int) : z ∈ ([7] : List Int) ↔ hasF gF19 z 1 = true := by rw [g19_has]; simp
theorem g19_b (y : Int) : y ∈ ([2] : List Int) ↔ hasF (takeF gF19 1) 7 y = true := by
  rw [hasF_take, g19_has]
  simp
  omega
theorem g19_c (x : Int) : x ∈ ([7] : List Int) ↔ (takeF gF19 1 x).isSome = true := by
  have h1 : (takeF gF19 1 x).isSome = (gF19 x).isSome := by unfold takeF; cases gF19 x <;> rfl
  rw [h1]
  unfold gF19 addK updF
  by_cases e : x = 7
  · rw [if_pos e]; simp [e]
  · rw [if_neg e]; simp [e]
set_option maxHeartbeats 3200000 in
set_option maxRecDepth 20000 in
theorem speaks19_calls (w : World) : Calls Try.prog 10 #[] w fun e w' => e = .returned (.bool true) ∧ Keeps NoB w w' := by
  go_enter Try.func10, Try.ntmps10
  go_wp2_with fail
  have HK0 := hid ((Keeps.refl NoB w).alloc (.cells #[.map none, .map none, .int .i64 0, .int .i64 0] 26))
  have HG0 := hid (GOk.zero w)
  have hs0 : (w.alloc (.cells #[.map none, .map none, .int .i64 0, .int .i64 0] 26)).heap.size = w.heap.size + 1 := by simp
  generalize hw0 : w.alloc (.cells #[.map none, .map none, .int .i64 0, .int .i64 0] 26) = w0 at *
  clear hw0
  have HK1 := hid (HK0.out.alloc (.cells #[.int .i64 1, .int .i64 2] 3))
  have HG1 := hid (HG0.out.kept ((Keeps.refl NoB w0).alloc (.cells #[.int .i64 1, .int .i64 2] 3)))
  have hl1 := ints_ofBlock [1, 2] (heap_alloc_new w0 (.cells #[.int .i64 1, .int .i64 2] 3)) (by simp)
  rw [hs0] at hl1
  have HL1 := hid hl1
  clear hl1
  generalize hw1 : w0.alloc (.cells #[.int .i64 1, .int .i64 2] 3) = w1 at *
  clear hw1 HK0 HG0
  refine (gadd_calls w.heap.size w.heap.size 0 (fun _ => none) 0 0 7 [1, 2] (some ⟨w.heap.size + 1, 0, none⟩) 2 w1 HG1.out rfl HL1.out (by decide) (fun b off e _ => by injection e with e; injection e with e _ _; omega) HK1.out.size (by simp)).mono ?_
  rintro e w2 ⟨he, hg, hk⟩
  have he : e = .returned (.bool true) := he
  subst he
  have HG2 := hid (show GOk w2 w.heap.size w.heap.size 7 gF19 2 2 from hg)
  have HK2 := hid (GKeep.outer HK1.out hk (Nat.le_refl _))
  have hs2 := HK2.out.size
  clear hg hk HG1 HK1 HL1 hs0
  go_wp2_with fail
  have HK3 := hid (HK2.out.alloc (.cells #[.int .i64 3] 3))
  have HG3 := hid (HG2.out.kept ((Keeps.refl NoB w2).alloc (.cells #[.int .i64 3] 3)))
  have HL3 := hid (ints_ofBlock [3] (heap_alloc_new w2 (.cells #[.int .i64 3] 3)) (by simp))
  have hs3 := hs2
  refine (gadd_calls w.heap.size w.heap.size 7 gF19 2 2 7 [3] (some ⟨w2.heap.size, 0, none⟩) 1 _ HG3.out rfl HL3.out (by decide) (fun b off e _ => by have := HG2.out.st.lt; injection e with e; injection e with e _ _; omega) HK3.out.size (by simp)).mono ?_
  rintro e w4 ⟨he, hg, hk⟩
  have he : e = .returned (.bool false) := he
  subst he
  have HG4 := hid (show GOk w4 w.heap.size w.heap.size 11 gF19 2 2 from hg)
  have HK4 := hid (GKeep.outer HK3.out hk (Nat.le_refl _))
  clear hg hk HG2 HK2 HG3 HK3 HL3 hs2 hs3
  go_wp2_with fail
  refine (gtake_calls w.heap.size w.heap.size 11 gF19 2 2 1 w4 HG4.out rfl).mono ?_
  rintro e w5 ⟨v, l, rfl, ho, hl, hg, hk⟩
  obtain rfl : l = [7] := hl.eq (by simp) g19_a
  obtain ⟨A5, c5, hv5, _, hat5⟩ := ho.reads
  subst hv5
  have HG5 := hid (show GOk w5 w.heap.size w.heap.size 11 (takeF gF19 1) 1 2 from hg)
  have HK5 := hid (GKeep.outer HK4.out hk (Nat.le_refl _))
  have HAT5 := hid hat5
  clear hg hk HG4 HK4 hl ho hat5
  go_wp2_with fail
  have HK6 := hid (HK5.out.alloc (.cells #[.int .i64 7] 3))
  have HG6 := hid (HG5.out.kept ((Keeps.refl NoB w5).alloc (.cells #[.int .i64 7] 3)))
  have HL6 := hid (ints_ofBlock [7] (heap_alloc_new w5 (.cells #[.int .i64 7] 3)) (by simp))
  refine (same_calls [7] [7] A5 (some ⟨w5.heap.size, 0, none⟩) c5 1 _ (HAT5.out.kept ((Keeps.refl NoB w5).alloc _)) HL6.out).mono ?_
  rintro e w7 ⟨he, hk⟩
  have he : e = .returned (.int .i64 1) := he
  subst he
  have HG7 := hid (HG6.out.kept hk)
  have HK7 := hid (HK6.out.fresh hk)
  clear hk HG5 HK5 HG6 HK6 HL6 HAT5
  go_wp2_with fail
  refine (grest_calls w.heap.size w.heap.size 11 (takeF gF19 1) 1 2 7 w7 HG7.out.st rfl (by omega)).mono ?_
  rintro e w8 ⟨v, l, rfl, ho, hl, hk⟩
  obtain rfl : l = [2] := hl.eq (by simp) g19_b
  obtain ⟨A8, c8, hv8, _, hat8⟩ := ho.reads
  subst hv8
  have HG8 := hid (HG7.out.kept hk)
  have HK8 := hid (HK7.out.fresh hk)
  have HAT8 := hid hat8
  clear hk HG7 HK7 hl ho hat8
  go_wp2_with fail
  have HK9 := hid (HK8.out.alloc (.cells #[.int .i64 2] 3))
  have HG9 := hid (HG8.out.kept ((Keeps.refl NoB w8).alloc (.cells #[.int .i64 2] 3)))
  have HL9 := hid (ints_ofBlock [2] (heap_alloc_new w8 (.cells #[.int .i64 2] 3)) (by simp))
  refine (same_calls [2] [2] A8 (some ⟨w8.heap.size, 0, none⟩) c8 1 _ (HAT8.out.kept ((Keeps.refl NoB w8).alloc _)) HL9.out).mono ?_
  rintro e wa ⟨he, hk⟩
  have he : e = .returned (.int .i64 1) := he
  subst he
  have HGa := hid (HG9.out.kept hk)
  have HKa := hid (HK9.out.fresh hk)
  clear hk HG8 HK8 HG9 HK9 HL9 HAT8
  go_wp2_with fail
  refine (gedges_calls w.heap.size w.heap.size 11 (takeF gF19 1) 1 2 wa HGa.out.st).mono ?_
  rintro e wb ⟨rfl, hk⟩
  have HGb := hid (HGa.out.kept hk)
  have HKb := hid (HKa.out.fresh hk)
  clear hk HGa HKa
  go_wp2_with fail
  refine (gmost_calls w.heap.size w.heap.size 11 (takeF gF19 1) 1 2 wb HGb.out.st).mono ?_
  rintro e wc ⟨rfl, hk⟩
  have HGc := hid (HGb.out.kept hk)
  have HKc := hid (HKb.out.fresh hk)
  clear hk HGb HKb
  go_wp2_with fail
  refine (gequations_calls w.heap.size w.heap.size 11 (takeF gF19 1) 1 2 wc HGc.out.st [7] (by simp) g19_c).mono ?_
  rintro e wd ⟨he, hk⟩
  have he : e = .returned (.int .i64 1) := he
  subst he
  have HKd := hid (HKc.out.fresh hk)
  clear hk HGc HKc
  go_wp2_with fail
  go_ret
  exact ⟨rfl, HKd.out⟩
end Go.Proofs.Ytnoooeeciebhfaa
