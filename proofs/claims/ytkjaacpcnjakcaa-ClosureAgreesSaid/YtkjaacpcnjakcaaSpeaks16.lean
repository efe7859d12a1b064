/- The first words of the laws of closure: the walk of almonrylaw16.speaks. No condition. -/
import Derived.Test.YtkjaacpcnjakcaaSpeaks16Math
import Derived.Test.YtkjaacpcnjakcaaSpeaks15
import Derived.Test.YtkjaacpcnjakcaaAgrees
import Derived.Test.YtkjaacpcnjakcaaEqsOwnG
import Derived.Test.YtkjaacpcnjakcaaSame
set_option linter.unusedVariables false
namespace Go.Proofs.Ytkjaacpcnjakcaa
open Go.RowKit

theorem rows3 (w : World) (b b0 b1 b2 : Nat) (l0 l1 l2 : List Int) (T : TypeId) (h : w.heap[b]? = some (.cells #[.slice (some ⟨b0, 0, none⟩) l0.length l0.length, .slice (some ⟨b1, 0, none⟩) l1.length l1.length, .slice (some ⟨b2, 0, none⟩) l2.length l2.length] T (0, 0)))
    (h0 : IntsAt w .i64 (some ⟨b0, 0, none⟩) l0) (h1 : IntsAt w .i64 (some ⟨b1, 0, none⟩) l1) (h2 : IntsAt w .i64 (some ⟨b2, 0, none⟩) l2) : RowsAt w (some ⟨b, 0, none⟩) [l0, l1, l2] := by
  refine ⟨by simp, fun _ => ⟨b, 0, rfl, fun j hj => ?_⟩⟩
  match j, hj with
  | 0, _ => exact ⟨.slice (some ⟨b0, 0, none⟩) l0.length l0.length, by simp [World.cell?, h], ⟨_, _, rfl, Nat.le_refl _, (fun e => by cases e), h0⟩⟩
  | 1, _ => exact ⟨.slice (some ⟨b1, 0, none⟩) l1.length l1.length, by simp [World.cell?, h], ⟨_, _, rfl, Nat.le_refl _, (fun e => by cases e), h1⟩⟩
  | 2, _ => exact ⟨.slice (some ⟨b2, 0, none⟩) l2.length l2.length, by simp [World.cell?, h], ⟨_, _, rfl, Nat.le_refl _, (fun e => by cases e), h2⟩⟩
theorem own_three {w : World} {b b0 b1 b2 b3 b4 b5 : Nat} {x y z : EqV} (h : w.heap[b]? = some (.cells #[.slice (some ⟨b0, 0, none⟩) x.of.length x.of.length, .slice (some ⟨b1, 0, none⟩) x.val.length x.val.length, .slice (some ⟨b2, 0, none⟩) y.of.length y.of.length, .slice (some ⟨b3, 0, none⟩) y.val.length y.val.length, .slice (some ⟨b4, 0, none⟩) z.of.length z.of.length, .slice (some ⟨b5, 0, none⟩) z.val.length z.val.length] 69 (0, 0)))
    (h0 : IntsIn (fun k => k ≠ b) w (some ⟨b0, 0, none⟩) x.of) (h1 : BytesIn (fun k => k ≠ b) w (some ⟨b1, 0, none⟩) x.val) (h2 : IntsIn (fun k => k ≠ b) w (some ⟨b2, 0, none⟩) y.of) (h3 : BytesIn (fun k => k ≠ b) w (some ⟨b3, 0, none⟩) y.val) (h4 : IntsIn (fun k => k ≠ b) w (some ⟨b4, 0, none⟩) z.of) (h5 : BytesIn (fun k => k ≠ b) w (some ⟨b5, 0, none⟩) z.val) (base : Nat) (hb : base ≤ b) :
    OwnEqs (fun _ => True) w base (.slice (some ⟨b, 0, none⟩) 3 3) [x, y, z] := by
  refine ⟨_, ⟨rfl, .inr ⟨b, 3, _, rfl, hb, h, Nat.le_refl _, by unfold maxLen; omega, rfl, rfl⟩⟩, rfl, fun j hj => ?_⟩
  have key : ∀ k, k ≠ b → (True ∧ (Value.slice (some ⟨b, 0, none⟩) 3 3).ownBlock ≠ some k) := fun k hk => ⟨trivial, fun e => hk (by simpa [Value.ownBlock] using e.symm)⟩
  have kn : ∀ {A : Option Addr} {l : List Int}, IntsIn (fun k => k ≠ b) w A l → NumsIn (fun k => True ∧ (Value.slice (some ⟨b, 0, none⟩) 3 3).ownBlock ≠ some k) w (.slice A l.length l.length) l ∨ A = none := fun {A l} hx => by
    cases A with
    | none => exact .inr rfl
    | some a => exact .inl ⟨_, _, rfl, Nat.le_refl _, (fun e => by cases e), hx.mono (fun k _ hk => key k hk)⟩
  have kb : ∀ {A : Option Addr} {l : List UInt8}, BytesIn (fun k => k ≠ b) w A l → RowIn (fun k => True ∧ (Value.slice (some ⟨b, 0, none⟩) 3 3).ownBlock ≠ some k) w (.slice A l.length l.length) l ∨ A = none := fun {A l} hx => by
    cases A with
    | none => exact .inr rfl
    | some a => exact .inl ⟨_, _, rfl, Nat.le_refl _, (fun e => by cases e), hx.mono (fun k _ hk => key k hk)⟩
  match j, hj with
  | 0, _ => exact ⟨_, _, rfl, rfl, (kn h0).resolve_right (by simp), (kb h1).resolve_right (by simp)⟩
  | 1, _ => exact ⟨_, _, rfl, rfl, (kn h2).resolve_right (by simp), (kb h3).resolve_right (by simp)⟩
  | 2, _ => exact ⟨_, _, rfl, rfl, (kn h4).resolve_right (by simp), (kb h5).resolve_right (by simp)⟩
set_option maxHeartbeats 3200000 in
set_option maxRecDepth 20000 in
theorem speaks16_calls (w : World) : Calls Try.prog 28 #[] w fun e w' => e = .returned (.bool true) ∧ Keeps NoB w w' := by
  go_enter Try.func28, Try.ntmps28
  go_wp2_with fail
  obtain ⟨os, hos⟩ : ∃ os : List Obj, os = [.cells #[.int .i64 0] 3, .cells #[.int .u8 1] 5, .cells #[.int .i64 0, .int .i64 1] 3, .cells #[.int .u8 3] 5, .cells #[.int .i64 1] 3, .cells #[.int .u8 2] 5, .cells #[.slice (some ⟨w.heap.size, 0, none⟩) 1 1, .slice (some ⟨w.heap.size + 1, 0, none⟩) 1 1, .slice (some ⟨w.heap.size + 1 + 1, 0, none⟩) 2 2, .slice (some ⟨w.heap.size + 1 + 1 + 1, 0, none⟩) 1 1, .slice (some ⟨w.heap.size + 1 + 1 + 1 + 1, 0, none⟩) 1 1, .slice (some ⟨w.heap.size + 1 + 1 + 1 + 1 + 1, 0, none⟩) 1 1] 69, .cells #[.int .i64 0] 3, .cells #[.int .i64 0, .int .i64 1] 3, .cells #[.int .i64 1, .int .i64 2, .int .i64 3] 3, .cells #[.slice (some ⟨w.heap.size + 1 + 1 + 1 + 1 + 1 + 1 + 1, 0, none⟩) 1 1, .slice (some ⟨w.heap.size + 1 + 1 + 1 + 1 + 1 + 1 + 1 + 1, 0, none⟩) 2 2, .slice (some ⟨w.heap.size + 1 + 1 + 1 + 1 + 1 + 1 + 1 + 1 + 1, 0, none⟩) 3 3] 27] := ⟨_, rfl⟩
  have hk := keeps_allocs os w
  have hh := heap_allocs os w
  have g0 := hh 0 (by rw [hos]; simp)
  have g1 := hh 1 (by rw [hos]; simp)
  have g2 := hh 2 (by rw [hos]; simp)
  have g3 := hh 3 (by rw [hos]; simp)
  have g4 := hh 4 (by rw [hos]; simp)
  have g5 := hh 5 (by rw [hos]; simp)
  have g6 := hh 6 (by rw [hos]; simp)
  have g7 := hh 7 (by rw [hos]; simp)
  have g8 := hh 8 (by rw [hos]; simp)
  have g9 := hh 9 (by rw [hos]; simp)
  have g10 := hh 10 (by rw [hos]; simp)
  clear hh
  subst hos
  simp only [List.foldl_cons, List.foldl_nil, List.getElem?_cons_zero, List.getElem?_cons_succ, Nat.add_zero] at g0 g1 g2 g3 g4 g5 g6 g7 g8 g9 g10 hk
  generalize (World.alloc _ _ : World) = w1 at *
  have HK1 := hid hk
  have HR := hid (rows3 w1 (w.heap.size + 10) (w.heap.size + 7) (w.heap.size + 8) (w.heap.size + 9) [0] [0, 1] [1, 2, 3] 27 g10 (IntsAt.ofBlock [0] g7 (by simp)) (IntsAt.ofBlock [0, 1] g8 (by simp)) (IntsAt.ofBlock [1, 2, 3] g9 (by simp)))
  have HOE := hid (own_three (x := ⟨[0], [1]⟩) (y := ⟨[0, 1], [3]⟩) (z := ⟨[1], [2]⟩) g6 (IntsIn.ofCells [0] g0 (by simp) (by omega)) (BytesIn.ofCells [1] g1 (by simp) (by omega)) (IntsIn.ofCells [0, 1] g2 (by simp) (by omega)) (BytesIn.ofCells [3] g3 (by simp) (by omega)) (IntsIn.ofCells [1] g4 (by simp) (by omega)) (BytesIn.ofCells [2] g5 (by simp) (by omega)) w.heap.size (by omega))
  clear hk g0 g1 g2 g3 g4 g5 g6 g7 g8 g9 g10
  refine (reach_calls 4 [[0], [0, 1], [1, 2, 3]] _ 3 w1 HR.out (by decide) (by decide) (by decide) (by decide)).mono ?_
  rintro e w2 ⟨v2, rfl, ho2, hk2⟩
  rw [reach_16] at ho2
  obtain ⟨A2, c2, rfl, _, hat2⟩ := ho2.reads
  have HA2 := hid hat2
  have HK2 := hid (HK1.out.fresh hk2)
  have HOE := hid (HOE.out.kept hk2)
  clear ho2 hat2 hk2
  have HS := hid (same_calls [0, 1] [0, 1] A2 (some ⟨w2.heap.size, 0, none⟩) c2 2 (w2.alloc (.cells #[.int .i64 0, .int .i64 1] 3)) (HA2.out.kept ((Keeps.refl NoB w2).alloc _)) (IntsAt.ofBlock [0, 1] (heap_alloc_new w2 _) (by simp)))
  rw [show sameN [0, 1] [0, 1] = 1 by decide] at HS
  go_wp2_with fail
  refine HS.out.mono ?_
  rintro e w3 ⟨rfl, hk3⟩
  have HK23 := hid (((Keeps.refl NoB w2).alloc (.cells #[.int .i64 0, .int .i64 1] 3)).fresh hk3)
  have HOE := hid (HOE.out.kept HK23.out)
  have HK3 := hid (HK2.out.fresh HK23.out)
  have HAG := hid (agrees_calls 4 1 eqs16 _ 3 _ w3 (HOE.out.eqs (by simp)) (by omega) (by decide) (by decide) (by omega) (by decide))
  rw [agree_16] at HAG
  clear hk3
  go_wp2_with fail
  refine HAG.out.mono ?_
  rintro e w4 ⟨rfl, hk4⟩
  have HOE := hid (HOE.out.kept hk4)
  have HK4 := hid (HK3.out.fresh hk4)
  have HKA := hid ((((Keeps.refl NoB w4).alloc (.cells #[.int .i64 1] 3)).alloc (.cells #[.int .u8 3] 5)).alloc (.cells #[.slice (some ⟨w4.heap.size, 0, none⟩) 1 1, .slice (some ⟨w4.heap.size + 1, 0, none⟩) 1 1] 69))
  obtain ⟨os, hos⟩ : ∃ os : List Obj, os = [.cells #[.int .i64 1] 3, .cells #[.int .u8 3] 5, .cells #[.slice (some ⟨w4.heap.size, 0, none⟩) 1 1, .slice (some ⟨w4.heap.size + 1, 0, none⟩) 1 1] 69] := ⟨_, rfl⟩
  have hh := heap_allocs os w4
  have g0 := hh 0 (by rw [hos]; simp)
  have g1 := hh 1 (by rw [hos]; simp)
  have g2 := hh 2 (by rw [hos]; simp)
  clear hh
  subst hos
  simp only [List.foldl_cons, List.foldl_nil, List.getElem?_cons_zero, List.getElem?_cons_succ, Nat.add_zero] at g0 g1 g2
  obtain ⟨w5, hw5⟩ : ∃ w5, ((w4.alloc (.cells #[.int .i64 1] 3)).alloc (.cells #[.int .u8 3] 5)).alloc (.cells #[.slice (some ⟨w4.heap.size, 0, none⟩) 1 1, .slice (some ⟨w4.heap.size + 1, 0, none⟩) 1 1] 69) = w5 := ⟨_, rfl⟩
  rw [hw5] at g0 g1 g2
  have hlt := HOE.out.base_le _ rfl
  have HP := hid (show PairIn (fun b => (Value.slice (some ⟨w.heap.size + 6, 0, none⟩) 3 3).ownBlock ≠ some b) w5 (.slice (some ⟨w4.heap.size, 0, none⟩) 1 1) (.slice (some ⟨w4.heap.size + 1, 0, none⟩) 1 1) ⟨[1], [3]⟩ from
    ⟨⟨_, _, rfl, Nat.le_refl _, (fun e => by cases e), IntsIn.ofCells [1] g0 (by simp) (by intro e; injection e with e; omega)⟩, ⟨_, _, rfl, Nat.le_refl _, (fun e => by cases e), BytesIn.ofCells [3] g1 (by simp) (by intro e; injection e with e; omega)⟩⟩)
  have hcc := cells2 g2
  have HC1 := hid hcc.1
  have HC2 := hid hcc.2
  have hsz5 := HK4.out.size
  clear hcc g0 g1 g2 hlt
  subst hw5
  have huq := Try.underlying60
  go_wp2_with (at_builtin; go_must (refine wpList_app1EqG (by simp [Region.wanted, yielded]) _ _ 60 rfl w.heap.size huq _ eqs16 rfl (HOE.out.kept HKA.out) _ _ _ _ ⟨[1], [3]⟩ rfl HC1.out HC2.out HP.out 3 rfl (by omega) (by simp; omega) ?_); intro A6 c6 w6 hown6 hgr6 hb6)
  have HO6 := hid hown6
  have HK6 := hid ((HK4.out.fresh HKA.out).grown hgr6 (fun i e hi => by have := hb6 i e; omega))
  have HAG2 := hid (agrees_calls 4 1 (eqs16 ++ [⟨[1], [3]⟩]) A6 c6 _ w6 (HO6.out.eqs (by simp [eqs16])) (by omega) (by decide) (by decide) (by omega) (by decide))
  rw [agree_16no] at HAG2
  clear hown6 hgr6 hb6
  refine HAG2.out.mono ?_
  rintro e w7 ⟨rfl, hk7⟩
  have HK7 := hid (HK6.out.fresh hk7)
  clear hk7
  go_wp2_with fail
  go_ret
  exact ⟨rfl, HK7.out⟩
end Go.Proofs.Ytkjaacpcnjakcaa
