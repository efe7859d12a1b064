/- The document's answer for layer 10: the walks of almonryref10. Conditions: numbers are of their kinds; parameters that may be. -/
import Derived.Test.YtnnkfopopanfjaaBox5
import Derived.Deep.RegionLaw
set_option linter.unusedVariables false
namespace Go.Proofs.Ytnnkfopopanfjaa
open Go.RowKit
attribute [local go_sem ↓] Go.wp_at_zero Go.wp_at_succ

set_option maxHeartbeats 2000000 in
set_option maxRecDepth 20000 in
theorem rOf_calls (p : Par) (session i : Nat) (w : World) (hm : p.may) (hs : session < 18446744073709551616) (hi : i ≤ 1048576) :
    Calls Try.prog 53 #[p.val, .int .u64 (session : Int), .int .i64 (i : Int)] w fun e w' => ∃ A c, e = .returned (.slice A (ofN p session i).length c) ∧ IntsAt w' .i64 A (ofN p session i) ∧ Keeps NoB w w' := by
  have hu := Try.underlying23
  have hab := auxN_bounds hm
  have hq : 1 ≤ p.q ∧ p.q ≤ 8 := by unfold Par.may at hm; omega
  have HM := hid hm
  clear hm
  have hx3 := hid (show ∀ x ∈ [session, 1, i], x < 18446744073709551616 by simp; omega)
  have hwk : IntKind.u64.wrap (i : Int) = (i : Int) := by rw [IntKind.wrap_u64]; omega
  obtain ⟨a, ha⟩ : ∃ a, auxN p = a := ⟨_, rfl⟩
  rw [ha] at hab
  have hof := hid (show someN (seedN [session, 1, i]) a p.q = ofN p session i by unfold ofN; rw [ha])
  have ha := hid ha
  have hbA := hid (heap_alloc_new w (.cells #[.int .i64 p.n, .int .i64 p.b, .int .i64 p.q, .int .i64 p.eps, .int .i64 p.f] 23))
  have hSall := hid (show ∀ w', Keeps NoB (w.alloc (.cells #[.int .i64 p.n, .int .i64 p.b, .int .i64 p.q, .int .i64 p.eps, .int .i64 p.f] 23)) w' → (w'.cell? ⟨w.heap.size, 0, none⟩ = some (.int .i64 p.n) ∧ w'.cell? ⟨w.heap.size, 1, none⟩ = some (.int .i64 p.b) ∧ w'.cell? ⟨w.heap.size, 2, none⟩ = some (.int .i64 p.q) ∧ w'.cell? ⟨w.heap.size, 3, none⟩ = some (.int .i64 p.eps) ∧ w'.cell? ⟨w.heap.size, 4, none⟩ = some (.int .i64 p.f)) from fun w' hk => cells5 (hk.heap hbA.out (fun h => h)))
  have HKr := hid (Keeps.refl NoB (w.alloc (.cells #[.int .i64 p.n, .int .i64 p.b, .int .i64 p.q, .int .i64 p.eps, .int .i64 p.f] 23)))
  obtain ⟨a0, a1, a2, a3, a4⟩ := hSall.out _ HKr.out
  unfold Par.val
  go_enter Try.func53, Try.ntmps53
  go_wp2_with fail
  go_region_held3 (fun w' => w'.cell? ⟨w.heap.size, 0, none⟩ = some (.int .i64 p.n) ∧ w'.cell? ⟨w.heap.size, 1, none⟩ = some (.int .i64 p.b) ∧ w'.cell? ⟨w.heap.size, 2, none⟩ = some (.int .i64 p.q) ∧ w'.cell? ⟨w.heap.size, 3, none⟩ = some (.int .i64 p.eps) ∧ w'.cell? ⟨w.heap.size, 4, none⟩ = some (.int .i64 p.f)) (first | (exact hSall.out _ HKr.out) | (exact hSall.out _ HKr.out.drew) | (exact hSall.out _ (HKr.out.alloc _).drew) | go_keep) (first
    | (go_at_call 71; refine (rseed_calls [session, 1, i] _ 3 _ (by exact NatsAt.ofBlock [session, 1, i] (heap_alloc2_new w _ _) (by simp) hx3.out)).mono ?_; rintro e w4 ⟨rfl, HK4⟩; have HKr := hid (show Keeps NoB (w.alloc (.cells #[.int .i64 p.n, .int .i64 p.b, .int .i64 p.q, .int .i64 p.eps, .int .i64 p.f] 23)) w4 from ((HKr.out.alloc (.cells #[.int .u64 (session : Int), .int .u64 1, .int .u64 (i : Int)] 24)).drew.fresh HK4)))
    | (go_at_call 52; refine (raux_calls p _ HM.out).mono ?_; rintro e w4 ⟨rfl, HK4⟩; rw [ha.out]; have HKr := hid (show Keeps NoB (w.alloc (.cells #[.int .i64 p.n, .int .i64 p.b, .int .i64 p.q, .int .i64 p.eps, .int .i64 p.f] 23)) w4 by first | exact HKr.out.fresh HK4 | exact HKr.out.drew.fresh HK4))
    | (go_at_call 70; refine (rsome_calls (seedN [session, 1, i]) a p.q _ (seedN_lt _) (by omega) (by omega) (by omega)).mono ?_; rintro e w4 ⟨A4, c4, rfl, hc4, hat4, HK4⟩; have HKr := hid (show Keeps NoB (w.alloc (.cells #[.int .i64 p.n, .int .i64 p.b, .int .i64 p.q, .int .i64 p.eps, .int .i64 p.f] 23)) w4 by first | exact HKr.out.fresh HK4 | exact HKr.out.drew.fresh HK4)))
  all_goals go_wp2_with fail
  all_goals go_ret
  all_goals rw [hof.out] at hat4 ⊢
  all_goals exact ⟨A4, c4, rfl, hat4, ((Keeps.refl NoB w).alloc _).fresh HKr.out⟩
end Go.Proofs.Ytnnkfopopanfjaa
