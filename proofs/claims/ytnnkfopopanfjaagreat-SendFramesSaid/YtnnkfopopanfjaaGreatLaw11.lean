/- The walks of the laws of layer 11: inner. No condition but that numbers are of their kinds. -/
import Derived.Test.YtnnkfopopanfjaaGreatInner
import Derived.Test.YtnnkfopopanfjaaGreatG2
import Derived.Test.YtnnkfopopanfjaaGreatG1
set_option linter.unusedVariables false
namespace Go.Proofs.YtnnkfopopanfjaaGreat
open Go.RowKit
attribute [local go_sem ↓] Go.wp_at_zero Go.wp_at_succ

theorem blkN_length {p : Par} (hm : p.may) (session id : Nat) : 1 ≤ (blkN p session id).length ∧ ((blkN p session id).length : Int) ≤ p.f ∧ ((blkN p session id).length : Int) ≤ p.all := by
  unfold blkN
  rw [someN_length]
  have h1 := degP_bounds hm (nxV (seedN [session, 2, id]))
  have h2 := all_bounds hm
  unfold cntN; split <;> omega
set_option maxHeartbeats 1000000 in
set_option maxRecDepth 20000 in
theorem rblocks_calls (p : Par) (session id : Nat) (w : World) (hm : p.may) (hs : session < 18446744073709551616) (hi : id < 18446744073709551616) :
    Calls Tryz.prog 29 #[p.val, .int .u64 (session : Int), .int .u64 (id : Int)] w fun e w' => ∃ A c, e = .returned (.slice A (blkN p session id).length c) ∧ IntsAt w' .i64 A (blkN p session id) ∧ Keeps NoB w w' := by
  have hu := Tryz.underlying23
  have hx3 := hid (show ∀ x ∈ [session, 2, id], x < 18446744073709551616 by simp; omega)
  have hab := auxN_bounds hm
  have hpn : 1 ≤ p.n ∧ p.n ≤ 1048576 := ⟨hm.1, hm.2.1⟩
  have HM := hid hm
  have hdb := degP_bounds hm (nxV (seedN [session, 2, id]))
  have hdg := hid (show degreeN p.f.toNat p.eps.toNat (nxV (seedN [session, 2, id])) = degP p (nxV (seedN [session, 2, id])) from rfl)
  have hbl := hid (show someN (nxS (seedN [session, 2, id])) (p.n + auxN p) (degP p (nxV (seedN [session, 2, id]))) = blkN p session id from rfl)
  have hnv := hid (nxV_lt (seedN [session, 2, id]))
  clear hm
  generalize hD : degP p (nxV (seedN [session, 2, id])) = D at *
  generalize hS : seedN [session, 2, id] = sd at *
  obtain ⟨a, ha⟩ : ∃ a, auxN p = a := ⟨_, rfl⟩
  rw [ha] at hab hbl
  have HS := hid hS
  have HA := hid ha
  clear hD hS ha
  have hsw : IntKind.i64.wrap (p.n + a) = p.n + a := IntWalk.i64_in _ (by omega)
  have hbA := hid (heap_alloc_new w (.cells #[.int .i64 p.n, .int .i64 p.b, .int .i64 p.q, .int .i64 p.eps, .int .i64 p.f] 23))
  have hSall := hid (show ∀ w', Keeps NoB (w.alloc (.cells #[.int .i64 p.n, .int .i64 p.b, .int .i64 p.q, .int .i64 p.eps, .int .i64 p.f] 23)) w' → (w'.cell? ⟨w.heap.size, 0, none⟩ = some (.int .i64 p.n) ∧ w'.cell? ⟨w.heap.size, 1, none⟩ = some (.int .i64 p.b) ∧ w'.cell? ⟨w.heap.size, 2, none⟩ = some (.int .i64 p.q) ∧ w'.cell? ⟨w.heap.size, 3, none⟩ = some (.int .i64 p.eps) ∧ w'.cell? ⟨w.heap.size, 4, none⟩ = some (.int .i64 p.f)) from fun w' hk => cells5 (hk.heap hbA.out (fun h => h)))
  unfold Par.val
  go_enter Tryz.func29, Tryz.ntmps29
  go_wp2_with fail
  refine (rseed_calls [session, 2, id] _ 3 _ (by exact NatsAt.ofBlock [session, 2, id] (heap_alloc2_new w _ _) (by simp) hx3.out)).mono ?_
  rintro e w1 ⟨rfl, HK1⟩
  rw [HS.out]
  have HKr := hid (((Keeps.refl NoB (w.alloc (.cells #[.int .i64 p.n, .int .i64 p.b, .int .i64 p.q, .int .i64 p.eps, .int .i64 p.f] 23))).alloc _).fresh HK1)
  go_wp2_with fail
  refine (rnext_calls sd _).mono ?_
  rintro e w2 ⟨rfl, rfl⟩
  obtain ⟨a0, a1, a2, a3, a4⟩ := hSall.out _ HKr.out
  go_wp2_with fail
  go_region_held3 (fun w' => w'.cell? ⟨w.heap.size, 0, none⟩ = some (.int .i64 p.n) ∧ w'.cell? ⟨w.heap.size, 1, none⟩ = some (.int .i64 p.b) ∧ w'.cell? ⟨w.heap.size, 2, none⟩ = some (.int .i64 p.q) ∧ w'.cell? ⟨w.heap.size, 3, none⟩ = some (.int .i64 p.eps) ∧ w'.cell? ⟨w.heap.size, 4, none⟩ = some (.int .i64 p.f)) (first | (exact hSall.out _ HKr.out) | (exact hSall.out _ HKr.out.drew) | go_keep) (first
    | (go_at_call 52; refine (raux_calls p _ HM.out).mono ?_; rintro e w4 ⟨rfl, HK4⟩; rw [HA.out]; have HKr := hid (show Keeps NoB (w.alloc (.cells #[.int .i64 p.n, .int .i64 p.b, .int .i64 p.q, .int .i64 p.eps, .int .i64 p.f] 23)) w4 by first | exact HKr.out.fresh HK4 | exact HKr.out.drew.fresh HK4))
    | (go_at_call 53; refine (rdegree_calls p (nxV sd) _ HM.out hnv.out).mono ?_; rintro e w5 ⟨rfl, HK5⟩; rw [hdg.out]; have HKr := hid (show Keeps NoB (w.alloc (.cells #[.int .i64 p.n, .int .i64 p.b, .int .i64 p.q, .int .i64 p.eps, .int .i64 p.f] 23)) w5 by first | exact HKr.out.fresh HK5 | exact HKr.out.drew.fresh HK5))
    | (go_at_call 51; refine (rsome_calls (nxS sd) (p.n + a) D _ (nxS_lt _) (by omega) (by omega) (by omega)).mono ?_; rintro e w6 ⟨A6, c6, rfl, hc6, hat6, HK6⟩; have HKr := hid (show Keeps NoB (w.alloc (.cells #[.int .i64 p.n, .int .i64 p.b, .int .i64 p.q, .int .i64 p.eps, .int .i64 p.f] 23)) w6 by first | exact HKr.out.fresh HK6 | exact HKr.out.drew.fresh HK6)))
  all_goals go_wp2_with fail
  all_goals go_ret
  all_goals rw [hbl.out] at hat6 ⊢
  all_goals exact ⟨A6, c6, rfl, hat6, ((Keeps.refl NoB w).alloc _).fresh HKr.out⟩
def par11 : Par := ⟨1, 1, 1, 1000, 2⟩
theorem par11_may : par11.may := by decide
theorem par11_all : par11.all = 2 := by decide
end Go.Proofs.YtnnkfopopanfjaaGreat
