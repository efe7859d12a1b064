/- Of which blocks a check block is made: the walks of package inner, and of the document's answer. Conditions: numbers are of their kinds. -/
import Derived.Test.YtnnkfopopanfjaaDegOf
import Derived.Test.YtnnkfopopanfjaaRef10
import Derived.Deep.RegionHeld3
import Derived.Deep.DrawnRows
set_option linter.unusedVariables false
namespace Go.Proofs.Ytnnkfopopanfjaa
open Go.RowKit
attribute [local go_sem ↓] Go.wp_at_zero Go.wp_at_succ

def Par.all (p : Par) : Int := p.n + auxN p
theorem all_bounds {p : Par} (h : p.may) : 2 ≤ p.all ∧ p.all ≤ 5662311 := by
  have := auxN_bounds h
  unfold Par.all Par.may at *; omega
noncomputable def degP (p : Par) (u : Nat) : Nat := degreeN p.f.toNat p.eps.toNat u
/-- The state behind a check block's seeds, and its blocks. -/
noncomputable def blkN (p : Par) (session id : Nat) : List Int := someN (nxS (seedN [session, 2, id])) p.all (degP p (nxV (seedN [session, 2, id])))
theorem degP_bounds {p : Par} (h : p.may) (u : Nat) : 1 ≤ degP p u ∧ (degP p u : Int) ≤ p.f ∧ degP p u ≤ 4096 := by
  obtain ⟨f, e, hpf, hpe, hpf2, hpe2, f2, f4, e3, hfe⟩ := par_nats h
  have := degreeN_bounds f e u f2
  unfold degP
  rw [hpf2, hpe2, hpf]; omega
set_option maxHeartbeats 800000 in
set_option maxRecDepth 20000 in
theorem all_calls (p : Par) (w : World) (hm : p.may) :
    Calls Try.prog 57 #[p.val] w fun e w' => e = .returned (.int .i64 p.all) ∧ Keeps NoB w w' := by
  have hu := Try.underlying23
  have hab := auxN_bounds hm
  have hpn : 1 ≤ p.n ∧ p.n ≤ 1048576 := ⟨hm.1, hm.2.1⟩
  have HM := hid hm
  have hall := hid (show p.n + auxN p = p.all from rfl)
  clear hm
  have hbA := hid (heap_alloc_new w (.cells #[.int .i64 p.n, .int .i64 p.b, .int .i64 p.q, .int .i64 p.eps, .int .i64 p.f] 23))
  have hSall := hid (show ∀ w', Keeps NoB (w.alloc (.cells #[.int .i64 p.n, .int .i64 p.b, .int .i64 p.q, .int .i64 p.eps, .int .i64 p.f] 23)) w' → (w'.cell? ⟨w.heap.size, 0, none⟩ = some (.int .i64 p.n) ∧ w'.cell? ⟨w.heap.size, 1, none⟩ = some (.int .i64 p.b) ∧ w'.cell? ⟨w.heap.size, 2, none⟩ = some (.int .i64 p.q) ∧ w'.cell? ⟨w.heap.size, 3, none⟩ = some (.int .i64 p.eps) ∧ w'.cell? ⟨w.heap.size, 4, none⟩ = some (.int .i64 p.f)) from fun w' hk => cells5 (hk.heap hbA.out (fun h => h)))
  have HKr := hid (Keeps.refl NoB (w.alloc (.cells #[.int .i64 p.n, .int .i64 p.b, .int .i64 p.q, .int .i64 p.eps, .int .i64 p.f] 23)))
  obtain ⟨a0, a1, a2, a3, a4⟩ := hSall.out _ HKr.out
  have hsw : IntKind.i64.wrap (p.n + auxN p) = p.n + auxN p := IntWalk.i64_in _ (by omega)
  unfold Par.val
  go_enter Try.func57, Try.ntmps57
  go_wp2_with fail
  go_region_held3 (fun w' => w'.cell? ⟨w.heap.size, 0, none⟩ = some (.int .i64 p.n) ∧ w'.cell? ⟨w.heap.size, 1, none⟩ = some (.int .i64 p.b) ∧ w'.cell? ⟨w.heap.size, 2, none⟩ = some (.int .i64 p.q) ∧ w'.cell? ⟨w.heap.size, 3, none⟩ = some (.int .i64 p.eps) ∧ w'.cell? ⟨w.heap.size, 4, none⟩ = some (.int .i64 p.f)) (first | (exact hSall.out _ HKr.out) | (exact hSall.out _ HKr.out.drew) | go_keep) (first
    | (go_at_call 62; refine (aux_calls p _ HM.out).mono ?_; rintro e w4 ⟨rfl, HK4⟩; have HKr := hid (show Keeps NoB (w.alloc (.cells #[.int .i64 p.n, .int .i64 p.b, .int .i64 p.q, .int .i64 p.eps, .int .i64 p.f] 23)) w4 by first | exact HKr.out.fresh HK4 | exact HKr.out.drew.fresh HK4)))
  all_goals go_wp2_with fail
  all_goals go_ret
  all_goals exact ⟨rfl, ((Keeps.refl NoB w).alloc _).fresh HKr.out⟩
/-- A source of check blocks. -/
def SrcAt (w : World) (s : Nat) (p : Par) (session : Nat) : Prop :=
  ∃ t, w.heap[s]? = some (.cells #[.pointer (some ⟨t, 0, none⟩), .int .u64 (session : Int), .int .i64 p.all] 113 (0, 0)) ∧ TabAt w t (tabN p.f.toNat p.eps.toNat (p.f.toNat - 1))
theorem SrcAt.kept {w w' : World} {s : Nat} {p : Par} {session : Nat} (h : SrcAt w s p session) (hk : Keeps NoB w w') : SrcAt w' s p session := by
  obtain ⟨t, h1, h2⟩ := h
  exact ⟨t, hk.heap h1 (fun h => h), h2.kept hk⟩
set_option maxHeartbeats 800000 in
set_option maxRecDepth 20000 in
theorem inew_no (p : Par) (session : Nat) (w : World) (hm : ¬ p.may) :
    Calls Try.prog 35 #[p.val, .int .u64 (session : Int)] w fun e w' => e = .returned (.tuple #[.pointer none, .int .i64 1]) ∧ Keeps NoB w w' := by
  have hu := Try.underlying23
  have HM := hid hm
  clear hm
  unfold Par.val
  go_enter Try.func35, Try.ntmps35
  go_wp2_with fail
  refine (dnew_no p _ HM.out).mono ?_
  rintro e w1 ⟨rfl, HK1⟩
  have HK1 := hid (((Keeps.refl NoB w).alloc _).fresh HK1)
  go_wp2_with fail
  go_ret2
  exact ⟨rfl, HK1.out⟩
set_option maxHeartbeats 800000 in
set_option maxRecDepth 20000 in
theorem inew_core (p : Par) (session : Nat) (w : World) (hm : p.may) :
    Calls Try.prog 35 #[p.val, .int .u64 (session : Int)] w fun e w' => ∃ s, e = .returned (.tuple #[.pointer (some ⟨s, 0, none⟩), .int .i64 0]) ∧ (∀ W, Keeps (fun k => k < w.heap.size) w' W → SrcAt W s p session) ∧ Keeps NoB w w' := by
  have hu := Try.underlying23
  have HM := hid hm
  clear hm
  unfold Par.val
  go_enter Try.func35, Try.ntmps35
  go_wp2_with fail
  refine (dnew_core p _ HM.out).mono ?_
  rintro e w1 ⟨t, rfl, HT, HK1⟩
  have hbox := hid (HK1.heap (heap_alloc_new w (.cells #[.int .i64 p.n, .int .i64 p.b, .int .i64 p.q, .int .i64 p.eps, .int .i64 p.f] 23)) (fun h => h))
  have HT := hid HT
  have hsz1 := HK1.size
  rw [World.size_alloc] at hsz1
  have HK1 := hid (((Keeps.refl NoB w).alloc _).fresh HK1)
  obtain ⟨b0, b1, b2, b3, b4⟩ := cells5 hbox.out
  go_wp2_with fail
  refine (all_calls p _ HM.out).mono ?_
  rintro e w2 ⟨rfl, HK2⟩
  have hsz2 := HK2.size
  have HT := hid (fun (W : World) (hW : Keeps (fun k => k < w.heap.size) w2 W) => HT.out W ((HK2.mono (fun _ h _ => h.elim)).then hW (fun i hi _ => by have hi : i < w.heap.size := hi; show i < (w.alloc _).heap.size; rw [World.size_alloc]; omega)))
  have HK2 := hid (HK1.out.fresh HK2)
  clear b0 b1 b2 b3 b4 hbox
  generalize hA : p.all = A at *
  have hA := hid hA
  go_wp2_with fail
  go_ret2
  exact ⟨w2.heap.size, rfl, fun W hW => ⟨t, by rw [hA.out]; exact hW.heap (heap_alloc_new _ _) (fun e => by have e : w2.heap.size < w.heap.size := e; omega), HT.out W (((Keeps.refl (fun k => k < w.heap.size) w2).alloc _).then hW (fun i hi _ => hi))⟩, HK2.out.alloc _⟩
theorem inew_yes (p : Par) (session : Nat) (w : World) (hm : p.may) :
    Calls Try.prog 35 #[p.val, .int .u64 (session : Int)] w fun e w' => ∃ s, e = .returned (.tuple #[.pointer (some ⟨s, 0, none⟩), .int .i64 0]) ∧ SrcAt w' s p session ∧ Keeps NoB w w' :=
  (inew_core p session w hm).mono (fun e w' ⟨s, h1, h2, h3⟩ => ⟨s, h1, h2 w' (Keeps.refl _ _), h3⟩)
set_option maxHeartbeats 800000 in
set_option maxRecDepth 20000 in
theorem iblocks_calls (p : Par) (session id s : Nat) (w : World) (hm : p.may) (hs : session < 18446744073709551616) (hi : id < 18446744073709551616) (h : SrcAt w s p session) :
    Calls Try.prog 49 #[.pointer (some ⟨s, 0, none⟩), .int .u64 (id : Int)] w fun e w' => ∃ v, e = .returned v ∧ OwnInts w' w.heap.size .i64 3 v (blkN p session id) ∧ Keeps NoB w w' := by
  have hx3 := hid (show ∀ x ∈ [session, 2, id], x < 18446744073709551616 by simp; omega)
  obtain ⟨t, h1, h2⟩ := h
  have HT := hid h2
  have HB := hid h1
  obtain ⟨f, e, hpf, hpe, hpf2, hpe2, f2, f4, e3, hfe⟩ := par_nats hm
  have hdb := degP_bounds hm (nxV (seedN [session, 2, id]))
  have hdg := hid (show degreeN f e (nxV (seedN [session, 2, id])) = degP p (nxV (seedN [session, 2, id])) by unfold degP; rw [hpf2, hpe2])
  have hall := all_bounds hm
  have hbl := hid (show someN (nxS (seedN [session, 2, id])) p.all (degP p (nxV (seedN [session, 2, id]))) = blkN p session id from rfl)
  rw [hpf2, hpe2] at HT
  have HFE := hid hfe
  have hnv := hid (nxV_lt (seedN [session, 2, id]))
  clear h1 h2 hpf hpe hpf2 hpe2 hfe hm
  generalize hD : degP p (nxV (seedN [session, 2, id])) = D at *
  generalize hS : seedN [session, 2, id] = sd at *
  generalize p.all = al at *
  have hsall := hid (show ∀ w', Keeps NoB w w' → w'.cell? ⟨s, 0, none⟩ = some (.pointer (some ⟨t, 0, none⟩)) ∧ w'.cell? ⟨s, 1, none⟩ = some (.int .u64 (session : Int)) ∧ w'.cell? ⟨s, 2, none⟩ = some (.int .i64 al) from fun w' hk => by simp [World.cell?, hk.heap HB.out (fun h => h)])
  have HS := hid hS
  clear hD hS
  obtain ⟨c0, c1, c2⟩ := hsall.out w (Keeps.refl _ _)
  go_enter Try.func49, Try.ntmps49
  go_wp2_with fail
  refine (new_calls [session, 2, id] _ 3 _ (NatsAt.ofBlock [session, 2, id] (heap_alloc_new w _) (by simp) hx3.out)).mono ?_
  rintro e w1 ⟨g, rfl, hg, hr, HK1⟩
  rw [HS.out] at hr
  have HR := hid hr
  have HK1 := hid (((Keeps.refl NoB w).alloc _).fresh HK1)
  have hgw : w.heap.size ≤ g := by simp at hg; omega
  clear c0 c1 c2 hr hg
  obtain ⟨c0, c1, c2⟩ := hsall.out w1 HK1.out
  go_wp2_with fail
  go_region_held3 (fun w' => w'.cell? ⟨s, 0, none⟩ = some (.pointer (some ⟨t, 0, none⟩))) (first | (exact (hsall.out _ HKx.out).1) | (exact (hsall.out _ HK1.out.drew).1) | go_keep) (first
    | (go_at_call 69; refine (next_calls g sd _ (by exact HR.out)).mono ?_; rintro e w2 ⟨rfl, hr2, HK2⟩; have HKx := hid (HK1.out.drew.then HK2 (fun i (e : i = g) hi => by omega)))
    | (go_at_call 68; refine (dOf_calls t f _ (nxV sd) _ (HT.out.kept HKx.out) f4 HFE.out hnv.out).mono ?_; rintro e w3 ⟨rfl, HK3⟩; rw [hdg.out]; have hr3 := hid (RandAt.keeps hr2 HK3 (fun h => h)); have HKx := hid (HKx.out.fresh HK3)))
  all_goals clear c0 c1 c2
  all_goals obtain ⟨c0, c1, c2⟩ := hsall.out _ HKx.out
  all_goals go_wp2_with fail
  all_goals refine (some_calls g _ al D _ hr3.out (by omega) (by omega) (by omega) (by omega)).mono ?_
  all_goals rintro e w4 ⟨v, rfl, hown, hr4, HK4⟩
  all_goals rw [hbl.out] at hown
  all_goals have HKy := hid (HKx.out.then HK4 (fun i (e : i = g) hi => by omega))
  all_goals go_wp2_with fail
  all_goals go_ret
  all_goals exact ⟨v, rfl, OwnInts.lower hown HKx.out.size, HKy.out⟩
end Go.Proofs.Ytnnkfopopanfjaa
