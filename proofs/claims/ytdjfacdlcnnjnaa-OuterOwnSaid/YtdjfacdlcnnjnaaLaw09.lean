/- The laws of layer 9: what they speak, and their walks. -/
import Derived.Test.YtdjfacdlcnnjnaaSame
set_option linter.unusedVariables false
namespace Go.Proofs.Ytdjfacdlcnnjnaa
open Go.RowKit
theorem NatsAt.ofBlock {w : World} {b : Nat} {e : TypeId} {fr : Nat × Nat} (xs : List Nat) (h : w.heap[b]? = some (.cells ((xs.map (fun n : Nat => (n : Int))).map (Value.int .u64)).toArray e fr)) (hl : xs.length ≤ 9223372036854775807) (hx : ∀ x ∈ xs, x < 18446744073709551616) : NatsAt w (some ⟨b, 0, none⟩) xs :=
  ⟨IntsAt.ofBlock _ h (by simpa using hl), hx⟩
theorem someN_none (s : Nat) (below many : Int) (h : many ≤ 0 ∨ below ≤ 0) : someN s below many = [] := by
  apply List.length_eq_zero_iff.1
  rw [someN_length]; unfold cntN; split <;> omega
set_option maxHeartbeats 400000 in
set_option maxRecDepth 20000 in
theorem speaks09_calls (w : World) :
    Calls Try.prog 31 #[] w fun e w' => e = .returned (.bool true) ∧ Keeps NoB w w' := by
  go_enter Try.func31, Try.ntmps31
  go_wp2_with fail
  refine (new_calls [5] _ _ _ (NatsAt.ofBlock [5] (heap_alloc_new w _) (by decide) (by simp))).mono ?_
  rintro e w1 ⟨g, rfl, hg, hr1, HK1⟩
  have HK1 := hid (((Keeps.refl NoB w).alloc _).fresh HK1)
  have hg := hid (Nat.le_trans (show w.heap.size ≤ (w.alloc (.cells #[.int .u64 5] 52)).heap.size by simp) hg)
  have hr1 := hid hr1
  go_wp2_with fail
  refine (some_calls g (seedN [5]) 3 3 _ hr1.out (by omega) (by omega) (by omega) (by omega)).mono ?_
  rintro e w2 ⟨v, rfl, hown2, hr2, HK2⟩
  obtain ⟨A, c, rfl, hc2, hat2⟩ := hown2.reads
  have HK2 := hid (HK1.out.then HK2 (fun i (e : i = g) hi => by have := hg.out; omega))
  have e2 : someN (seedN [5]) 3 3 = [0, 1, 2] := someN_all _ 3
  rw [e2] at hat2 ⊢
  clear hown2 hc2 e2
  have hat2 := hid hat2
  have hr2 := hid hr2
  go_wp2_with fail
  refine (same_calls [0, 1, 2] [0, 1, 2] A _ c _ _ (hat2.out.kept ((Keeps.refl NoB w2).alloc _)) (IntsAt.ofBlock [0, 1, 2] (heap_alloc_new w2 _) (by decide))).mono ?_
  rintro e w3 ⟨rfl, HK3⟩
  have HK3' := hid (((Keeps.refl NoB w2).alloc (.cells #[.int .i64 0, .int .i64 1, .int .i64 2] 3)).fresh HK3)
  have hr3 := hid (hr2.out.keeps HK3'.out (fun h => h))
  have HK3 := hid (HK2.out.fresh HK3'.out)
  have es : sameN [0, 1, 2] [0, 1, 2] = 1 := rfl
  rw [es]
  clear es
  go_wp2_with fail
  refine (some_calls g _ 0 4 _ hr3.out (by omega) (by omega) (by omega) (by omega)).mono ?_
  rintro e w4 ⟨v4, rfl, hown4, hr4, HK4⟩
  have e4 : someN (someS (seedN [5]) 3 3) 0 4 = [] := someN_none _ _ _ (.inr (by omega))
  rw [e4] at hown4
  obtain ⟨A4, c4, rfl, _, _⟩ := hown4.reads
  have HK4 := hid (HK3.out.then HK4 (fun i (e : i = g) hi => by have := hg.out; omega))
  clear hown4 e4
  go_wp2_with fail
  refine (shas_calls [2, 5] 5 _ _ _ (IntsAt.ofBlock [2, 5] (heap_alloc_new w4 _) (by decide)) (by decide) (by decide)).mono ?_
  rintro e w5 ⟨rfl, HK5⟩
  have HK5 := hid ((HK4.out.alloc _).fresh HK5)
  have e5 : decide ((5 : Int) ∈ [2, 5]) = true := by decide
  rw [e5]
  clear e5
  go_wp2_with fail
  refine (shas_calls [2, 5] 3 _ _ _ (IntsAt.ofBlock [2, 5] (heap_alloc_new w5 _) (by decide)) (by decide) (by decide)).mono ?_
  rintro e w6 ⟨rfl, HK6⟩
  have HK6 := hid ((HK5.out.alloc _).fresh HK6)
  have e6 : decide ((3 : Int) ∈ [2, 5]) = false := by decide
  rw [e6]
  clear e6
  go_wp2_with fail
  go_ret
  exact ⟨rfl, HK6.out⟩
end Go.Proofs.Ytdjfacdlcnnjnaa
