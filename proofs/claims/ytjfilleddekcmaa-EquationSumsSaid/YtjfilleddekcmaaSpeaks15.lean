/- The first words of the laws of equations: the walk of almonrylaw15.speaks. No condition. -/
import Derived.Test.YtjfilleddekcmaaEqSame
import Derived.Test.YtjfilleddekcmaaEqLeft
set_option linter.unusedVariables false
namespace Go.Proofs.Ytjfilleddekcmaa
open Go.RowKit

theorem BytesIn.ofCells {R : Nat → Prop} {w : World} {b : Nat} {e : TypeId} {fr : Nat × Nat} (l : List UInt8) (h : w.heap[b]? = some (.cells ((enc8 l).map (Value.int .u8)).toArray e fr)) (hl : l.length ≤ 9223372036854775807) (hR : R b) : BytesIn R w (some ⟨b, 0, none⟩) l :=
  ⟨IntsAt.ofBlock (enc8 l) h (by rw [enc8_length]; exact hl), fun b' off e' _ => by injection e' with e'; injection e' with e' _; subst e'; exact hR⟩
theorem IntsIn.ofCells {R : Nat → Prop} {w : World} {b : Nat} {e : TypeId} {fr : Nat × Nat} (l : List Int) (h : w.heap[b]? = some (.cells (l.map (Value.int .i64)).toArray e fr)) (hl : l.length ≤ 9223372036854775807) (hR : R b) : IntsIn R w (some ⟨b, 0, none⟩) l :=
  ⟨IntsAt.ofBlock l h hl, fun b' off e' _ => by injection e' with e'; injection e' with e' _; subst e'; exact hR⟩
theorem odd_15 : oddN [3, 1, 3, 2] = [1, 2] := by decide
theorem sum_15 : sumB 1 [[5], [6]] = [3] := by decide
theorem heap_allocs (os : List Obj) : ∀ (w : World) (i : Nat), i < os.length → (os.foldl World.alloc w).heap[w.heap.size + i]? = os[i]? := by
  have keep : ∀ (os : List Obj) (w : World) (k : Nat), k < w.heap.size → (os.foldl World.alloc w).heap[k]? = w.heap[k]? := by
    intro os
    induction os with
    | nil => intro w k _; rfl
    | cons o os ih =>
      intro w k hk
      show (os.foldl World.alloc (w.alloc o)).heap[k]? = _
      rw [ih _ _ (by simp; omega)]
      exact Below.heap_alloc _ _ _ hk
  induction os with
  | nil => intro w i hi; simp at hi
  | cons o os ih =>
    intro w i hi
    show (os.foldl World.alloc (w.alloc o)).heap[w.heap.size + i]? = _
    cases i with
    | zero => rw [keep os _ _ (by simp)]; exact heap_alloc_new w o
    | succ i =>
      have := ih (w.alloc o) i (by simpa using hi)
      rw [World.size_alloc] at this
      rw [show w.heap.size + (i + 1) = w.heap.size + 1 + i by omega, this]; rfl
theorem keeps_allocs (os : List Obj) : ∀ w : World, Keeps NoB w (os.foldl World.alloc w) := by
  induction os with
  | nil => intro w; exact Keeps.refl _ _
  | cons o os ih => intro w; exact ((Keeps.refl NoB w).alloc o).fresh (ih _)
theorem rows_three (w : World) (b b0 b1 b2 : Nat) (l0 l1 l2 : List UInt8) (T : TypeId) (h : w.heap[b]? = some (.cells #[.slice (some ⟨b0, 0, none⟩) l0.length l0.length, .slice (some ⟨b1, 0, none⟩) l1.length l1.length, .slice (some ⟨b2, 0, none⟩) l2.length l2.length] T (0, 0)))
    (h0 : BytesIn (fun _ => True) w (some ⟨b0, 0, none⟩) l0) (h1 : BytesIn (fun _ => True) w (some ⟨b1, 0, none⟩) l1) (h2 : BytesIn (fun _ => True) w (some ⟨b2, 0, none⟩) l2) : RowsIn (fun _ => True) w (some ⟨b, 0, none⟩) [l0, l1, l2] := by
  refine ⟨by simp, fun _ => ⟨b, 0, rfl, trivial, fun j hj => ?_⟩⟩
  match j, hj with
  | 0, _ => exact ⟨.slice (some ⟨b0, 0, none⟩) l0.length l0.length, by simp [World.cell?, h], ⟨_, _, rfl, Nat.le_refl _, (fun e => by cases e), h0⟩⟩
  | 1, _ => exact ⟨.slice (some ⟨b1, 0, none⟩) l1.length l1.length, by simp [World.cell?, h], ⟨_, _, rfl, Nat.le_refl _, (fun e => by cases e), h1⟩⟩
  | 2, _ => exact ⟨.slice (some ⟨b2, 0, none⟩) l2.length l2.length, by simp [World.cell?, h], ⟨_, _, rfl, Nat.le_refl _, (fun e => by cases e), h2⟩⟩
theorem eqs_two (R : Nat → Prop) (w : World) (b b0 b1 b2 b3 : Nat) (x y : EqV) (T : TypeId) (hR : ∀ k, R k) (h : w.heap[b]? = some (.cells #[.slice (some ⟨b0, 0, none⟩) x.of.length x.of.length, .slice (some ⟨b1, 0, none⟩) x.val.length x.val.length, .slice (some ⟨b2, 0, none⟩) y.of.length y.of.length, .slice (some ⟨b3, 0, none⟩) y.val.length y.val.length] T (0, 0)))
    (h0 : IntsIn R w (some ⟨b0, 0, none⟩) x.of) (h1 : BytesIn R w (some ⟨b1, 0, none⟩) x.val) (h2 : IntsIn R w (some ⟨b2, 0, none⟩) y.of) (h3 : BytesIn R w (some ⟨b3, 0, none⟩) y.val) : EqsIn R w (some ⟨b, 0, none⟩) [x, y] := by
  refine ⟨by simp, fun _ => ⟨b, 0, rfl, hR b, fun j hj => ?_⟩⟩
  match j, hj with
  | 0, _ => exact ⟨.slice (some ⟨b0, 0, none⟩) x.of.length x.of.length, .slice (some ⟨b1, 0, none⟩) x.val.length x.val.length, by simp [World.cell?, h], by simp [World.cell?, h], ⟨_, _, rfl, Nat.le_refl _, (fun e => by cases e), h0⟩, ⟨_, _, rfl, Nat.le_refl _, (fun e => by cases e), h1⟩⟩
  | 1, _ => exact ⟨.slice (some ⟨b2, 0, none⟩) y.of.length y.of.length, .slice (some ⟨b3, 0, none⟩) y.val.length y.val.length, by simp [World.cell?, h], by simp [World.cell?, h], ⟨_, _, rfl, Nat.le_refl _, (fun e => by cases e), h2⟩, ⟨_, _, rfl, Nat.le_refl _, (fun e => by cases e), h3⟩⟩
set_option maxHeartbeats 1600000 in
set_option maxRecDepth 20000 in
theorem speaks15_calls (w : World) : Calls Try.prog 15 #[] w fun e w' => e = .returned (.bool true) ∧ Keeps NoB w w' := by
  go_enter Try.func15, Try.ntmps15
  go_wp2_with fail
  obtain ⟨os, hos⟩ : ∃ os : List Obj, os = [.cells #[.int .i64 3, .int .i64 1] 3, .cells #[.int .u8 5] 5, .cells #[.int .i64 3, .int .i64 2] 3, .cells #[.int .u8 6] 5, .cells #[.slice (some ⟨w.heap.size, 0, none⟩) 2 2, .slice (some ⟨w.heap.size + 1, 0, none⟩) 1 1, .slice (some ⟨w.heap.size + 1 + 1, 0, none⟩) 2 2, .slice (some ⟨w.heap.size + 1 + 1 + 1, 0, none⟩) 1 1] 29] := ⟨_, rfl⟩
  have HK5 := keeps_allocs os w
  have hh := heap_allocs os w
  have g0 := hh 0 (by rw [hos]; simp)
  have g1 := hh 1 (by rw [hos]; simp)
  have g2 := hh 2 (by rw [hos]; simp)
  have g3 := hh 3 (by rw [hos]; simp)
  have g4 := hh 4 (by rw [hos]; simp)
  clear hh
  subst hos
  simp only [List.foldl_cons, List.foldl_nil, List.getElem?_cons_zero, List.getElem?_cons_succ, Nat.add_zero] at g0 g1 g2 g3 g4 HK5
  generalize (World.alloc _ _ : World) = w5 at *
  have HE := hid (eqs_two (fun _ => True) w5 (w.heap.size + 4) (w.heap.size) (w.heap.size + 1) (w.heap.size + 2) (w.heap.size + 3) ⟨[3, 1], [5]⟩ ⟨[3, 2], [6]⟩ 29 (fun _ => trivial) g4 (IntsIn.ofCells [3, 1] g0 (by simp) trivial) (BytesIn.ofCells [5] g1 (by simp) trivial) (IntsIn.ofCells [3, 2] g2 (by simp) trivial) (BytesIn.ofCells [6] g3 (by simp) trivial))
  have HK5 := hid HK5
  clear g0 g1 g2 g3 g4
  refine (eadd_yes 1 [⟨[3, 1], [5]⟩, ⟨[3, 2], [6]⟩] _ 2 _ w5 (by omega) HE.out (by simp) (by decide) (by decide)).mono ?_
  rintro e w6 ⟨v1, v2, rfl, ho1, ho2, hk6⟩
  rw [show ofsE [⟨[3, 1], [5]⟩, ⟨[3, 2], [6]⟩] = [3, 1, 3, 2] from rfl, odd_15] at ho1
  rw [show valsE [⟨[3, 1], [5]⟩, ⟨[3, 2], [6]⟩] = [[5], [6]] from rfl, sum_15] at ho2
  obtain ⟨A1, c1, rfl, _, hat1⟩ := ho1.reads
  obtain ⟨A2, c2, rfl, _, hA2, hat2⟩ := OwnB.reads ho2
  have HA1 := hid hat1
  have HA2 := hid hat2
  have hA2 := hid hA2
  have HK6 := hid (HK5.out.fresh hk6)
  clear ho1 ho2 hat1 hat2 hk6
  go_wp2_with fail
  obtain ⟨os, hos⟩ : ∃ os : List Obj, os = [.cells #[.slice A1 2 c1, .slice A2 1 c2] 29, .cells #[.int .i64 1, .int .i64 2] 3, .cells #[.int .u8 3] 5] := ⟨_, rfl⟩
  have hk7 := keeps_allocs os w6
  have hh := heap_allocs os w6
  have g0 := hh 0 (by rw [hos]; simp)
  have g1 := hh 1 (by rw [hos]; simp)
  have g2 := hh 2 (by rw [hos]; simp)
  clear hh
  subst hos
  simp only [List.foldl_cons, List.foldl_nil, List.getElem?_cons_zero, List.getElem?_cons_succ, Nat.add_zero] at g0 g1 g2 hk7
  generalize (World.alloc _ _ : World) = w7 at *
  have H1 := hid (HA1.out.kept hk7)
  have H2 := hid (HA2.out.kept hk7)
  have H3 := hid (IntsAt.ofBlock [1, 2] g1 (by simp))
  have H4 := hid (BytesIn.ofCells (R := fun _ => True) [3] g2 (by simp) trivial)
  have HB := hid g0
  have HK7 := hid (HK6.out.fresh hk7)
  clear g0 g1 g2 hk7
  refine (esame_calls ⟨[1, 2], [3]⟩ ⟨[1, 2], [3]⟩ A1 A2 _ _ c1 c2 2 1 (fun _ => True) w7 H1.out (H2.out.mono (fun _ _ _ => trivial)) H3.out H4.out).mono ?_
  rintro e w8 ⟨rfl, hk8⟩
  rw [show sameE ⟨[1, 2], [3]⟩ ⟨[1, 2], [3]⟩ = true by decide]
  have HB := hid (hk8.heap HB.out (fun h => h))
  have HK8 := hid (HK7.out.fresh hk8)
  have H1 := hid (H1.out.kept hk8)
  have H2 := hid (H2.out.kept hk8)
  have e0 := (cells2 HB.out).1
  have e1 := (cells2 HB.out).2
  clear hk8
  go_wp2_with fail
  obtain ⟨os, hos⟩ : ∃ os : List Obj, os = [.cells #[.int .u8 9] 5, .cells #[.int .u8 1] 5, .cells #[.int .u8 2] 5, .cells #[.slice (some ⟨w8.heap.size, 0, none⟩) 1 1, .slice (some ⟨w8.heap.size + 1, 0, none⟩) 1 1, .slice (some ⟨w8.heap.size + 1 + 1, 0, none⟩) 1 1] 27] := ⟨_, rfl⟩
  have hk9 := keeps_allocs os w8
  have hh := heap_allocs os w8
  have g0 := hh 0 (by rw [hos]; simp)
  have g1 := hh 1 (by rw [hos]; simp)
  have g2 := hh 2 (by rw [hos]; simp)
  have g3 := hh 3 (by rw [hos]; simp)
  clear hh
  subst hos
  simp only [List.foldl_cons, List.foldl_nil, List.getElem?_cons_zero, List.getElem?_cons_succ, Nat.add_zero] at g0 g1 g2 g3 hk9
  generalize (World.alloc _ _ : World) = w9 at *
  have HR := hid (rows_three w9 (w8.heap.size + 3) w8.heap.size (w8.heap.size + 1) (w8.heap.size + 2) [9] [1] [2] 27 g3 (BytesIn.ofCells [9] g0 (by simp) trivial) (BytesIn.ofCells [1] g1 (by simp) trivial) (BytesIn.ofCells [2] g2 (by simp) trivial))
  have HB := hid (hk9.heap HB.out (fun h => h))
  have HK8 := hid (HK8.out.fresh hk9)
  have H1 := hid (H1.out.kept hk9)
  have H2 := hid (H2.out.kept hk9)
  clear g0 g1 g2 g3 hk9 e0 e1
  refine (eholds_calls [1, 2] [3] [[9], [1], [2]] A1 A2 _ c1 c2 3 (fun _ => True) w9 H1.out hA2.out (H2.out.mono (fun _ _ _ => trivial)) HR.out (by simp) (by simp)).mono ?_
  rintro e w10 ⟨rfl, hk8⟩
  rw [show holdsE [1, 2] [3] [[9], [1], [2]] = true by decide]
  have HB := hid (hk8.heap HB.out (fun h => h))
  have HK8 := hid (HK8.out.fresh hk8)
  have H1 := hid (H1.out.kept hk8)
  have H2 := hid (H2.out.kept hk8)
  have e0 := (cells2 HB.out).1
  have e1 := (cells2 HB.out).2
  clear hk8
  go_wp2_with fail
  obtain ⟨os, hos⟩ : ∃ os : List Obj, os = [.cells #[.int .u8 9] 5, .cells #[.int .u8 1] 5, .cells #[.int .u8 1] 5, .cells #[.slice (some ⟨w10.heap.size, 0, none⟩) 1 1, .slice (some ⟨w10.heap.size + 1, 0, none⟩) 1 1, .slice (some ⟨w10.heap.size + 1 + 1, 0, none⟩) 1 1] 27] := ⟨_, rfl⟩
  have hk9 := keeps_allocs os w10
  have hh := heap_allocs os w10
  have g0 := hh 0 (by rw [hos]; simp)
  have g1 := hh 1 (by rw [hos]; simp)
  have g2 := hh 2 (by rw [hos]; simp)
  have g3 := hh 3 (by rw [hos]; simp)
  clear hh
  subst hos
  simp only [List.foldl_cons, List.foldl_nil, List.getElem?_cons_zero, List.getElem?_cons_succ, Nat.add_zero] at g0 g1 g2 g3 hk9
  generalize (World.alloc _ _ : World) = w11 at *
  have HR := hid (rows_three w11 (w10.heap.size + 3) w10.heap.size (w10.heap.size + 1) (w10.heap.size + 2) [9] [1] [1] 27 g3 (BytesIn.ofCells [9] g0 (by simp) trivial) (BytesIn.ofCells [1] g1 (by simp) trivial) (BytesIn.ofCells [1] g2 (by simp) trivial))
  have HB := hid (hk9.heap HB.out (fun h => h))
  have HK8 := hid (HK8.out.fresh hk9)
  have H1 := hid (H1.out.kept hk9)
  have H2 := hid (H2.out.kept hk9)
  clear g0 g1 g2 g3 hk9 e0 e1
  refine (eholds_calls [1, 2] [3] [[9], [1], [1]] A1 A2 _ c1 c2 3 (fun _ => True) w11 H1.out hA2.out (H2.out.mono (fun _ _ _ => trivial)) HR.out (by simp) (by simp)).mono ?_
  rintro e w12 ⟨rfl, hk8⟩
  rw [show holdsE [1, 2] [3] [[9], [1], [1]] = false by decide]
  have HB := hid (hk8.heap HB.out (fun h => h))
  have HK8 := hid (HK8.out.fresh hk8)
  have H1 := hid (H1.out.kept hk8)
  have H2 := hid (H2.out.kept hk8)
  have e0 := (cells2 HB.out).1
  have e1 := (cells2 HB.out).2
  clear hk8
  go_wp2_with fail
  go_ret
  exact ⟨rfl, HK8.out⟩
end Go.Proofs.Ytjfilleddekcmaa
