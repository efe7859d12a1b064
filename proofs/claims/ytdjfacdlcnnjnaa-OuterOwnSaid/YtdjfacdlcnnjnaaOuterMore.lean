/- The walk of the law OuterMore. No condition but that the numbers are of their kinds. -/
import Derived.Test.YtdjfacdlcnnjnaaLaw10
import Derived.Deep.RegionWith
set_option linter.unusedVariables false
namespace Go.Proofs.Ytdjfacdlcnnjnaa
open Go.RowKit

def Par.more (p : Par) : Par := ⟨p.n + 1, p.b, p.q, p.eps, p.f⟩
theorem set5 {w : World} {b : Nat} {a0 a1 a2 a3 a4 : Value} {T : TypeId} {fr : Nat × Nat} (h : w.heap[b]? = some (.cells #[a0, a1, a2, a3, a4] T fr)) (x0 x1 x2 x3 x4 : Value) :
    (((((w.setCell ⟨b, 0, none⟩ x0).setCell ⟨b, 1, none⟩ x1).setCell ⟨b, 2, none⟩ x2).setCell ⟨b, 3, none⟩ x3).setCell ⟨b, 4, none⟩ x4).heap[b]? = some (.cells #[x0, x1, x2, x3, x4] T fr) :=
  heap_set_same (heap_set_same (heap_set_same (heap_set_same (heap_set_same h x0) x1) x2) x3) x4
theorem keep5 {w : World} {b : Nat} (x0 x1 x2 x3 x4 : Value) : Keeps (fun k => k = b) w (((((w.setCell ⟨b, 0, none⟩ x0).setCell ⟨b, 1, none⟩ x1).setCell ⟨b, 2, none⟩ x2).setCell ⟨b, 3, none⟩ x3).setCell ⟨b, 4, none⟩ x4) :=
  (((((Keeps.refl (fun k => k = b) w).setCell (p := ⟨b, 0, none⟩) (fun _ => rfl) x0).setCell (p := ⟨b, 1, none⟩) (fun _ => rfl) x1).setCell (p := ⟨b, 2, none⟩) (fun _ => rfl) x2).setCell (p := ⟨b, 3, none⟩) (fun _ => rfl) x3).setCell (p := ⟨b, 4, none⟩) (fun _ => rfl) x4
theorem cells5 {w : World} {b : Nat} {x0 x1 x2 x3 x4 : Value} {T : TypeId} {fr : Nat × Nat} (h : w.heap[b]? = some (.cells #[x0, x1, x2, x3, x4] T fr)) :
    w.cell? ⟨b, 0, none⟩ = some x0 ∧ w.cell? ⟨b, 1, none⟩ = some x1 ∧ w.cell? ⟨b, 2, none⟩ = some x2 ∧ w.cell? ⟨b, 3, none⟩ = some x3 ∧ w.cell? ⟨b, 4, none⟩ = some x4 := by
  simp [World.cell?, h]
theorem free5 {w : World} {b : Nat} {cells : Array Value} {T : TypeId} (h : w.heap[b]? = some (.cells cells T (0, 0))) (j : Nat) : w.frozen? ⟨b, j, none⟩ = false := by
  simp [World.frozen?, h]
set_option maxHeartbeats 4000000 in
set_option maxRecDepth 20000 in
theorem outerMore_walk (p0 : Par) (session : Nat) (w : World) (hp0 : p0.wf) (hs : session < 18446744073709551616) :
    Calls Try.prog 12 #[p0.val, .int .u64 (session : Int)] w fun e w' => e = .returned (.bool true) ∧ Keeps NoB w w' := by
  have hu := Try.underlying66
  unfold Par.val
  go_enter Try.func12, Try.ntmps12
  go_wp2_with fail
  refine (speaks10_calls _).mono ?_
  rintro e w1 ⟨rfl, HK1⟩
  have hbox := hid (HK1.heap (heap_alloc_new w (.cells #[.int .i64 p0.n, .int .i64 p0.b, .int .i64 p0.q, .int .i64 p0.eps, .int .i64 p0.f] 66)) (fun h => h))
  have HK1 := hid (((Keeps.refl NoB w).alloc _).fresh HK1)
  obtain ⟨b0, b1, b2, b3, b4⟩ := cells5 hbox.out
  go_wp2_with fail
  refine (smaller_calls p0 _).mono ?_
  rintro e w2 ⟨rfl, HK2⟩
  have hbox := hid (HK2.heap hbox.out (fun h => h))
  have HK2 := hid (HK1.out.fresh HK2)
  have hle := smP_le p0
  have hwf := smP_wf hp0
  generalize smP p0 = p at *
  clear b0 b1 b2 b3 b4 HK1
  have hn0 : -9223372036854775808 ≤ p.n := hwf.1.1
  have f0 := free5 hbox.out 0
  have f1 := free5 hbox.out 1
  have f2 := free5 hbox.out 2
  have f3 := free5 hbox.out 3
  have f4 := free5 hbox.out 4
  obtain ⟨b0, b1, b2, b3, b4⟩ := cells5 hbox.out
  unfold Par.val
  go_wp2_with fail
  have hA := hid (((Keeps.refl NoB _).alloc (.cells #[.int .i64 (p.n + 1), .int .i64 p.b, .int .i64 p.q, .int .i64 p.eps, .int .i64 p.f] 66)).heap (set5 hbox.out (.int .i64 p.n) (.int .i64 p.b) (.int .i64 p.q) (.int .i64 p.eps) (.int .i64 p.f)) (fun h => h))
  have hB := hid (heap_alloc_new (((((w2.setCell ⟨w.heap.size, 0, none⟩ (.int .i64 p.n)).setCell ⟨w.heap.size, 1, none⟩ (.int .i64 p.b)).setCell ⟨w.heap.size, 2, none⟩ (.int .i64 p.q)).setCell ⟨w.heap.size, 3, none⟩ (.int .i64 p.eps)).setCell ⟨w.heap.size, 4, none⟩ (.int .i64 p.f)) (.cells #[.int .i64 (p.n + 1), .int .i64 p.b, .int .i64 p.q, .int .i64 p.eps, .int .i64 p.f] 66))
  have HK3 := hid ((HK2.out.then (keep5 (w := w2) (b := w.heap.size) (.int .i64 p.n) (.int .i64 p.b) (.int .i64 p.q) (.int .i64 p.eps) (.int .i64 p.f)) (fun q (e : q = w.heap.size) hq => by omega)).alloc (.cells #[.int .i64 (p.n + 1), .int .i64 p.b, .int .i64 p.q, .int .i64 p.eps, .int .i64 p.f] 66))
  simp only [World.size_setCell] at hB
  clear b0 b1 b2 b3 b4 f0 f1 f2 f3 f4 hbox HK2
  generalize (((((w2.setCell ⟨w.heap.size, 0, none⟩ (.int .i64 p.n)).setCell ⟨w.heap.size, 1, none⟩ (.int .i64 p.b)).setCell ⟨w.heap.size, 2, none⟩ (.int .i64 p.q)).setCell ⟨w.heap.size, 3, none⟩ (.int .i64 p.eps)).setCell ⟨w.heap.size, 4, none⟩ (.int .i64 p.f)).alloc (.cells #[.int .i64 (p.n + 1), .int .i64 p.b, .int .i64 p.q, .int .i64 p.eps, .int .i64 p.f] 66) = w3 at *
  generalize w2.heap.size = qb at *
  obtain ⟨pb, hpb⟩ : ∃ pb, pb = w.heap.size := ⟨_, rfl⟩
  rw [← hpb] at hA ⊢
  clear hpb
  have hSall := hid (show ∀ w', Keeps NoB w3 w' → (w'.cell? ⟨pb, 0, none⟩ = some (.int .i64 p.n) ∧ w'.cell? ⟨pb, 1, none⟩ = some (.int .i64 p.b) ∧ w'.cell? ⟨pb, 2, none⟩ = some (.int .i64 p.q) ∧ w'.cell? ⟨pb, 3, none⟩ = some (.int .i64 p.eps) ∧ w'.cell? ⟨pb, 4, none⟩ = some (.int .i64 p.f) ∧ w'.cell? ⟨qb, 0, none⟩ = some (.int .i64 (p.n + 1)) ∧ w'.cell? ⟨qb, 1, none⟩ = some (.int .i64 p.b) ∧ w'.cell? ⟨qb, 2, none⟩ = some (.int .i64 p.q) ∧ w'.cell? ⟨qb, 3, none⟩ = some (.int .i64 p.eps) ∧ w'.cell? ⟨qb, 4, none⟩ = some (.int .i64 p.f)) from fun w' hk => by
    obtain ⟨a0, a1, a2, a3, a4⟩ := cells5 (hk.heap hA.out (fun h => h))
    obtain ⟨c0, c1, c2, c3, c4⟩ := cells5 (hk.heap hB.out (fun h => h))
    exact ⟨a0, a1, a2, a3, a4, c0, c1, c2, c3, c4⟩)
  have HKr := hid (Keeps.refl NoB w3)
  have tk1 := hid trivial
  have tk2 := hid trivial
  have tk3 := hid trivial
  have tk4 := hid trivial
  obtain ⟨a0, a1, a2, a3, a4, c0, c1, c2, c3, c4⟩ := hSall.out w3 HKr.out
  by_cases hp : p.may
  · have hmp := hid (mayB_true hp)
    have HP := hid hp
    by_cases hq : p.more.may
    · have hmq := hid (mayB_true hq)
      have HQ := hid hq
      obtain ⟨x, hap⟩ : ∃ x, auxN p = x := ⟨_, rfl⟩
      obtain ⟨y, haq⟩ : ∃ y, auxN p.more = y := ⟨_, rfl⟩
      have hap := hid hap
      have haq := hid haq
      by_cases hxy : x = y
      · subst hxy
        have hne : (x != x) = false := by simp
        clear hp hq
        first | (go_region_held3 (fun w' => w'.cell? ⟨pb, 0, none⟩ = some (.int .i64 p.n) ∧ w'.cell? ⟨pb, 1, none⟩ = some (.int .i64 p.b) ∧ w'.cell? ⟨pb, 2, none⟩ = some (.int .i64 p.q) ∧ w'.cell? ⟨pb, 3, none⟩ = some (.int .i64 p.eps) ∧ w'.cell? ⟨pb, 4, none⟩ = some (.int .i64 p.f) ∧ w'.cell? ⟨qb, 0, none⟩ = some (.int .i64 (p.n + 1)) ∧ w'.cell? ⟨qb, 1, none⟩ = some (.int .i64 p.b) ∧ w'.cell? ⟨qb, 2, none⟩ = some (.int .i64 p.q) ∧ w'.cell? ⟨qb, 3, none⟩ = some (.int .i64 p.eps) ∧ w'.cell? ⟨qb, 4, none⟩ = some (.int .i64 p.f)) (first | (exact hSall.out _ HKr.out) | (exact hSall.out _ HKr.out.drew) | go_keep) (first
        | (go_at_call 42; clear tk1; refine (may_calls p _).mono ?_; rintro e w4 ⟨rfl, HK4⟩; rw [hmp.out]; have HKr := hid (show Keeps NoB w3 w4 by first | exact HKr.out.fresh HK4 | exact HKr.out.drew.fresh HK4))
        | (go_at_call 42; clear tk2; refine (may_calls p.more _).mono ?_; rintro e w4 ⟨rfl, HK4⟩; rw [hmq.out]; have HKr := hid (show Keeps NoB w3 w4 by first | exact HKr.out.fresh HK4 | exact HKr.out.drew.fresh HK4))
        | (go_at_call 45; clear tk3; refine (raux_calls p _ HP.out).mono ?_; rintro e w4 ⟨rfl, HK4⟩; rw [hap.out]; have HKr := hid (show Keeps NoB w3 w4 by first | exact HKr.out.fresh HK4 | exact HKr.out.drew.fresh HK4))
        | (go_at_call 45; clear tk4; refine (raux_calls p.more _ HQ.out).mono ?_; rintro e w4 ⟨rfl, HK4⟩; rw [haq.out]; have HKr := hid (show Keeps NoB w3 w4 by first | exact HKr.out.fresh HK4 | exact HKr.out.drew.fresh HK4)))) | fail
        have HKn := hid HKr.out
        clear HKr a0 a1 a2 a3 a4 c0 c1 c2 c3 c4
        obtain ⟨a0, a1, a2, a3, a4, c0, c1, c2, c3, c4⟩ := hSall.out _ HKn.out
        go_wp2_with fail
        refine (onew_yes p session _ HP.out hs).mono ?_
        rintro e w5 ⟨g, rfl, HG, HK5⟩
        have HG := hid HG
        have HKr := hid (HKn.out.fresh HK5)
        clear HKn a0 a1 a2 a3 a4 c0 c1 c2 c3 c4
        obtain ⟨a0, a1, a2, a3, a4, c0, c1, c2, c3, c4⟩ := hSall.out _ HKr.out
        go_wp2_with fail
        refine (onew_yes p.more session _ HQ.out hs).mono ?_
        rintro e w6 ⟨h, rfl, HH, HK6⟩
        have HG := hid (HG.out.kept HK6)
        have HH := hid HH
        have HKn := hid (HKr.out.fresh HK6)
        clear HKr a0 a1 a2 a3 a4 c0 c1 c2 c3 c4
        obtain ⟨a0, a1, a2, a3, a4, c0, c1, c2, c3, c4⟩ := hSall.out _ HKn.out
        obtain ⟨n, hn⟩ : ∃ n : Nat, p.n = (n : Int) := ⟨p.n.toNat, by have := HP.out.1; omega⟩
        have hn1 : 1 ≤ n := by have := HP.out.1; omega
        have hn2 : n ≤ 60 := by omega
        have hN := hid hn
        have e1 : p.n.toNat = n := by omega
        have e2 : p.more.n.toNat = n + 1 := by show (p.n + 1).toNat = _; omega
        rw [e1] at HG
        rw [e2] at HH
        have hof : ∀ i, ofN p.more session i = ofN p session i := fun i => by
          unfold ofN
          rw [hap.out, haq.out]; rfl
        have hgo := hid (show ∀ k, k < n → getN (ofsN p.more session (n + 1)) (k : Int) = getN (ofsN p session n) (k : Int) from fun k hk => by
          rw [getN_nat (by rw [ofsN_length]; omega), getN_nat (by rw [ofsN_length]; omega), gl_eq _ _ (by rw [ofsN_length]; omega), gl_eq _ _ (by rw [ofsN_length]; omega)]
          simp [ofsN, hof])
        have hln := hid (show ((getN (ofsN p.more session (n + 1)) (n : Int)).length : Int) = p.q by
          rw [getN_nat (by rw [ofsN_length]; omega), gl_eq _ _ (by rw [ofsN_length]; omega)]
          simp only [ofsN, List.getElem_map, List.getElem_range, hof]
          unfold ofN
          rw [someN_length]
          have hm := HP.out
          have h2 : p.q ≤ auxN p := by unfold auxN; omega
          unfold cntN; unfold Par.may at hm; split <;> omega)
        have a0' := a0
        rw [hn] at a0
        clear hof hn e1 e2 hap haq hmp hmq
        generalize ofsN p session n = ofp at *
        generalize ofsN p.more session (n + 1) = ofq at *
        generalize hasN p session n = hap at *
        generalize hasN p.more session (n + 1) = haq at *
        go_wp2_with fail
        go_loopw [63] (fun v wr => ∃ k : Nat, k ≤ n ∧ v = .int .i64 k ∧ Hid (Keeps NoB w6 wr)) (fun v _ => n - (intOf v).toNat)
        case atStart => exact ⟨0, Nat.zero_le _, rfl, Keeps.refl _ _⟩
        case round =>
          obtain ⟨k, hk, rfl, HK⟩ := hrel
          by_cases hlt : k < n
          · have hg := hid (hgo.out k hlt)
            go_wp2_with fail
            refine (gOf_calls g ofp hap k _ (HG.out.kept HK.out) (by omega) (by omega)).mono ?_
            rintro e w7 ⟨v7, rfl, hown7, HK7⟩
            obtain ⟨A7, c7, rfl, _, hat7⟩ := hown7.reads
            have hat7 := hid hat7
            have HK7 := hid (HK.out.fresh HK7)
            clear hown7
            go_wp2_with fail
            refine (gOf_calls h ofq haq k _ (HH.out.kept HK7.out) (by omega) (by omega)).mono ?_
            rintro e w8 ⟨v8, rfl, hown8, HK8⟩
            obtain ⟨A8, c8, rfl, _, hat8⟩ := hown8.reads
            have hat7 := hid (hat7.out.kept HK8)
            have hat8 := hid hat8
            have HK8 := hid (HK7.out.fresh HK8)
            clear hown8
            go_wp2_with fail
            refine (same_calls _ _ A7 A8 c7 c8 _ hat7.out hat8.out).mono ?_
            rintro e w9 ⟨rfl, HK9⟩
            have HK9 := hid (HK8.out.fresh HK9)
            have hsm := hid (show sameN (getN ofp (k : Int)) (getN ofq (k : Int)) = 1 by rw [hg.out]; exact if_pos rfl)
            rw [hsm.out]
            go_wp2_with fail
            go_roundw
            case rel => exact ⟨k + 1, by omega, by go_num, HK9.out⟩
            case measure => simp [intOf]; omega
          · obtain rfl : k = n := by omega
            have hc := hSall.out wr (HKn.out.fresh HK.out)
            obtain ⟨d0, d1, d2, d3, d4, _⟩ := hc
            rw [hN.out] at d0
            have hbb : (((getN ofq (k : Int)).length : Int) == p.q) = true := by rw [hln.out]; simp
            go_wp2_with fail
            go_region_held3 (fun w' => w'.cell? ⟨pb, 0, none⟩ = some (.int .i64 (k : Int)) ∧ w'.cell? ⟨pb, 2, none⟩ = some (.int .i64 p.q)) (first | (exact hS.out) | go_keep) (first
              | (go_at_call 46; refine (gOf_calls h ofq haq k _ (by first | exact HH.out.kept HK.out | exact HH.out.kept HK.out.drew) (by omega) (by omega)).mono ?_; rintro e w7 ⟨v7, rfl, hown7, HK7⟩; have HKz := hid (show Keeps NoB wr w7 by first | exact HK7 | exact (Keeps.refl NoB wr).drew.fresh HK7); obtain ⟨A7, c7, rfl, _, hat7⟩ := hown7.reads; have hS := hid (show w7.cell? ⟨pb, 0, none⟩ = some (.int .i64 (k : Int)) ∧ w7.cell? ⟨pb, 2, none⟩ = some (.int .i64 p.q) from ⟨HKz.out.cell d0 (fun h => h), HKz.out.cell d2 (fun h => h)⟩)))
            all_goals go_wp2_with fail
            all_goals go_ret
            all_goals exact ⟨by first | rfl | (simp only [hbb]; rfl) | (simp [hbb]; done), HK3.out.fresh (HKn.out.fresh (HK.out.fresh HKz.out))⟩
      · have hne : (x != y) = true := by simpa using hxy
        clear hp hq
        first | (go_region_held3 (fun w' => w'.cell? ⟨pb, 0, none⟩ = some (.int .i64 p.n) ∧ w'.cell? ⟨pb, 1, none⟩ = some (.int .i64 p.b) ∧ w'.cell? ⟨pb, 2, none⟩ = some (.int .i64 p.q) ∧ w'.cell? ⟨pb, 3, none⟩ = some (.int .i64 p.eps) ∧ w'.cell? ⟨pb, 4, none⟩ = some (.int .i64 p.f) ∧ w'.cell? ⟨qb, 0, none⟩ = some (.int .i64 (p.n + 1)) ∧ w'.cell? ⟨qb, 1, none⟩ = some (.int .i64 p.b) ∧ w'.cell? ⟨qb, 2, none⟩ = some (.int .i64 p.q) ∧ w'.cell? ⟨qb, 3, none⟩ = some (.int .i64 p.eps) ∧ w'.cell? ⟨qb, 4, none⟩ = some (.int .i64 p.f)) (first | (exact hSall.out _ HKr.out) | (exact hSall.out _ HKr.out.drew) | go_keep) (first
        | (go_at_call 42; clear tk1; refine (may_calls p _).mono ?_; rintro e w4 ⟨rfl, HK4⟩; rw [hmp.out]; have HKr := hid (show Keeps NoB w3 w4 by first | exact HKr.out.fresh HK4 | exact HKr.out.drew.fresh HK4))
        | (go_at_call 42; clear tk2; refine (may_calls p.more _).mono ?_; rintro e w4 ⟨rfl, HK4⟩; rw [hmq.out]; have HKr := hid (show Keeps NoB w3 w4 by first | exact HKr.out.fresh HK4 | exact HKr.out.drew.fresh HK4))
        | (go_at_call 45; clear tk3; refine (raux_calls p _ HP.out).mono ?_; rintro e w4 ⟨rfl, HK4⟩; rw [hap.out]; have HKr := hid (show Keeps NoB w3 w4 by first | exact HKr.out.fresh HK4 | exact HKr.out.drew.fresh HK4))
        | (go_at_call 45; clear tk4; refine (raux_calls p.more _ HQ.out).mono ?_; rintro e w4 ⟨rfl, HK4⟩; rw [haq.out]; have HKr := hid (show Keeps NoB w3 w4 by first | exact HKr.out.fresh HK4 | exact HKr.out.drew.fresh HK4)))) | fail
        all_goals go_wp2_with fail
        all_goals go_ret
        all_goals exact ⟨rfl, HK3.out.fresh HKr.out⟩
    · have hmq := hid (mayB_false hq)
      clear hp hq
      go_region_with (first
        | (go_at_call 42; clear tk1; refine (may_calls p _).mono ?_; rintro e w4 ⟨rfl, HK4⟩; rw [hmp.out]; have HKx := hid (show Keeps NoB w3 w4 by first | exact HKr.out.fresh HK4 | exact HKr.out.drew.fresh HK4); have HKr := hid HKx.out; obtain ⟨z0, z1, z2, z3, z4, y0, y1, y2, y3, y4⟩ := hSall.out w4 HKr.out)
        | (go_at_call 42; clear tk2; refine (may_calls p.more _).mono ?_; rintro e w4 ⟨rfl, HK4⟩; rw [hmq.out]; have HKx := hid (show Keeps NoB w3 w4 by first | exact HKr.out.fresh HK4 | exact HKr.out.drew.fresh HK4); have HKr := hid HKx.out; obtain ⟨z0, z1, z2, z3, z4, y0, y1, y2, y3, y4⟩ := hSall.out w4 HKr.out))
      all_goals go_wp2_with fail
      all_goals go_ret
      all_goals exact ⟨rfl, HK3.out.fresh HKr.out⟩
  · have hmp := hid (mayB_false hp)
    clear hp
    go_region_with (first
        | (go_at_call 42; clear tk1; refine (may_calls p _).mono ?_; rintro e w4 ⟨rfl, HK4⟩; rw [hmp.out]; have HKx := hid (show Keeps NoB w3 w4 by first | exact HKr.out.fresh HK4 | exact HKr.out.drew.fresh HK4); have HKr := hid HKx.out; obtain ⟨z0, z1, z2, z3, z4, y0, y1, y2, y3, y4⟩ := hSall.out w4 HKr.out))
    all_goals go_wp2_with fail
    all_goals go_ret
    all_goals exact ⟨rfl, HK3.out.fresh HKr.out⟩
end Go.Proofs.Ytdjfacdlcnnjnaa
