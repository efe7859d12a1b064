/- The first words of the laws of composite blocks: the walk of almonrylaw13.speaks. Conditions: none. -/
import Derived.Test.YtnnkfopopanfjaaRight
set_option linter.unusedVariables false
namespace Go.Proofs.Ytnnkfopopanfjaa
open Go.RowKit
attribute [local go_sem ↓] Go.wp_at_zero Go.wp_at_succ

theorem RowsIn.ofBlock {R : Nat → Prop} {w : World} {b : Nat} {e : TypeId} {fr : Nat × Nat} (us : List Value) (ls : List (List UInt8)) (h : w.heap[b]? = some (.cells us.toArray e fr)) (hl : us.length = ls.length) (hm : ls.length ≤ 9223372036854775807) (hR : R b)
    (hr : ∀ j u, us[j]? = some u → RowIn R w u (gr ls j)) : RowsIn R w (some ⟨b, 0, none⟩) ls := by
  refine ⟨hm, fun _ => ⟨b, 0, rfl, hR, fun j hj => ?_⟩⟩
  have hj2 : j < us.length := by omega
  refine ⟨us[j], ?_, hr j _ (List.getElem?_eq_getElem hj2)⟩
  simp [World.cell?, h, Nat.zero_add, List.getElem?_eq_getElem hj2]
theorem BytesIn.ofBlock {R : Nat → Prop} {w : World} {b : Nat} {e : TypeId} {fr : Nat × Nat} (l : List UInt8) (h : w.heap[b]? = some (.cells ((enc8 l).map (Value.int .u8)).toArray e fr)) (hl : l.length ≤ 9223372036854775807) (hR : R b) : BytesIn R w (some ⟨b, 0, none⟩) l :=
  ⟨IntsAt.ofBlock (enc8 l) h (by rw [enc8_length]; exact hl), fun b' off e' _ => by injection e' with e'; injection e' with e' _; subst e'; exact hR⟩
def par13 : Par := ⟨2, 1, 1, 900, 2⟩
theorem par13_may : par13.may := by decide
theorem par13_wf : par13.wf := by unfold Par.wf; decide
theorem aux13 : auxN par13 = 1 := by decide
theorem of13 (s i : Nat) : ofN par13 s i = [0] := by
  unfold ofN
  rw [aux13]
  exact someN_all _ 1
theorem has13 (s : Nat) : hasN par13 s 2 = [[0, 1]] := by
  show putAll (putAll (List.replicate (auxN par13).toNat []) 0 (ofN par13 s 0)) 1 (ofN par13 s 1) = _
  rw [of13, of13, aux13]; rfl
theorem comp13 (s : Nat) (obj : List UInt8) : compN par13 s obj = [[gb obj 0], [gb obj 1], [0 ^^^ gb obj 0 ^^^ gb obj 1]] := by
  have e : compN par13 s obj = splitN par13 obj ++ [sumB 1 (pickR (splitN par13 obj) (gl (hasN par13 s 2) 0))] := by
    unfold compN; rw [aux13]; rfl
  rw [e, has13]
  rfl
theorem comp13a : compN par13 5 [6, 3] = [[6], [3], [5]] := by rw [comp13]; decide
theorem right13a : rightB par13 5 2 [[6], [3], [5]] = true := by
  refine rightB_true ⟨par13_may, by decide, ⟨by decide, by decide, by decide, by decide⟩, ?_⟩
  rw [comp13]; decide
theorem right13b : rightB par13 5 2 [[6], [3], [3]] = false := by
  refine rightB_false (fun h => ?_)
  have := h.2.2.2
  rw [comp13] at this
  exact absurd this (by decide)
set_option maxHeartbeats 1000000 in
set_option maxRecDepth 20000 in
theorem speaks13_calls (w : World) :
    Calls Try.prog 7 #[] w fun e w' => e = .returned (.bool true) ∧ Keeps NoB w w' := by
  have hu := Try.underlying23
  have hcc := hid (fun (w' : World) (B : Option Addr) (cB : Nat) (R' : Nat → Prop) (h : BytesIn R' w' B [6, 3]) (hc : 2 ≤ cB) => comp_yes par13 5 [6, 3] B cB R' w' par13_may (by decide) h hc (by decide))
  rw [comp13a] at hcc
  go_enter Try.func7, Try.ntmps7
  go_wp2_with fail
  refine (hcc.out _ (some ⟨w.heap.size + 1, 0, none⟩) 2 (fun _ => True) (BytesIn.ofBlock [6, 3] (by exact heap_alloc2_new w _ _) (by decide) trivial) (by omega)).mono ?_
  rintro e w1 ⟨v1, rfl, hown1, HK1⟩
  have hbA := hid (heap_alloc_new w (.cells #[.int .i64 2, .int .i64 1, .int .i64 1, .int .i64 900, .int .i64 2] 23))
  have hS := hid (fun w' (hk : Keeps NoB (w.alloc (.cells #[.int .i64 2, .int .i64 1, .int .i64 1, .int .i64 900, .int .i64 2] 23)) w') => cells5 (hk.heap hbA.out (fun h => h)))
  have HKb := hid (((Keeps.refl NoB (w.alloc (.cells #[.int .i64 2, .int .i64 1, .int .i64 1, .int .i64 900, .int .i64 2] 23))).alloc _).fresh HK1)
  have HKw := hid (((Keeps.refl NoB w).alloc _).fresh HKb.out)
  obtain ⟨A1, c1, hv1, hc1, hA1, hrows⟩ := hown1.reads
  obtain ⟨g, o, rfl, _, hcl⟩ := hrows.2 (by decide)
  obtain ⟨u0, k0, B0, d0, rfl, hd0, hz0, r0⟩ := hcl 0 (by decide)
  obtain ⟨u1, k1, B1, d1, rfl, hd1, hz1, r1⟩ := hcl 1 (by decide)
  obtain ⟨u2, k2, B2, d2, rfl, hd2, hz2, r2⟩ := hcl 2 (by decide)
  simp only [gr, List.getD_cons_zero, List.getD_cons_succ, List.length_cons, List.length_nil, Nat.zero_add, Nat.add_zero, Nat.reduceAdd] at k0 k1 k2 r0 r1 r2 hv1 hc1 hd0 hd1 hd2
  have f2 := conv_run 25 9 Try.underlying25 Try.underlying9 r2 d2
  simp only [List.length_cons, List.length_nil, Nat.zero_add] at f2
  have deq : ((strOf [5]).toList == [5]) = true := by rw [strOf_toList]; rfl
  subst hv1
  have HB := hid hrows
  have hx0 := hid (show RowIn _ w1 (Value.slice B0 1 d0) [6] from ⟨B0, d0, rfl, hd0, hz0, r0.mono (R' := fun _ => True) (fun _ _ _ => trivial)⟩)
  have hx1 := hid (show RowIn _ w1 (Value.slice B1 1 d1) [3] from ⟨B1, d1, rfl, hd1, hz1, r1.mono (R' := fun _ => True) (fun _ _ _ => trivial)⟩)
  have hA1 := hid hA1
  have HSC := hid (fun w' (hk : Keeps NoB w1 w') => (⟨hS.out _ (HKb.out.fresh hk), hk.cell k0 (fun h => h), hk.cell k1 (fun h => h)⟩ : _ ∧ _ ∧ _))
  clear hown1 hcl hrows r0 r1 r2 hz0 hz1 hz2 HK1
  go_wp2_with fail
  refine (check_in 1 [[6], [3], [5]] [0, 2] _ c1 (some ⟨w1.heap.size, 0, none⟩) 2 _ (w1.alloc (.cells #[.int .i64 0, .int .i64 2] 3)) (by decide) (by decide) (HB.out.kept ((Keeps.refl NoB w1).alloc _)) (by exact IntsAt.ofBlock [0, 2] (heap_alloc_new w1 _) (by decide)) (by unfold inRange; decide) (by decide)).mono ?_
  rintro e w2 ⟨HK2, ⟨h, _⟩ | ⟨_, v2, rfl, hown2⟩⟩
  · exact absurd h (by decide)
  rw [show sumB (Int.toNat 1) (pickR [[6], [3], [5]] [0, 2]) = [3] by decide] at hown2
  obtain ⟨A3, c3, rfl, _, _, hb3⟩ := hown2.reads
  have HKr := hid (((Keeps.refl NoB w1).alloc (.cells #[.int .i64 0, .int .i64 2] 3)).fresh HK2)
  have hcv := hid (fun (w' : World) (hk : Keeps NoB w2 w') => conv_run 25 9 Try.underlying25 Try.underlying9 (hb3.kept hk) c3)
  simp only [List.length_cons, List.length_nil, Nat.zero_add] at hcv
  have deq3 : ((strOf [3]).toList == [3]) = true := by rw [strOf_toList]; rfl
  have hrc1 := hid (fun (w' : World) (hk : Keeps NoB w2 w') => right_calls par13 5 2 [[6], [3], [5]] (some ⟨g, o, none⟩) c1 _ w' par13_wf (by decide) (by decide) (by decide) (HB.out.kept (HKr.out.fresh hk)) hc1 (fun e => by cases e))
  rw [right13a] at hrc1
  have hrc2 := hid (fun (w' : World) (hk : Keeps NoB w2 w') => right_calls par13 5 2 [[6], [3], [3]] (some ⟨w'.heap.size, 0, none⟩) 3 (fun _ => True) (w'.alloc (.cells #[Value.slice B0 1 d0, Value.slice B1 1 d1, Value.slice B1 1 d1] 25)) par13_wf (by decide) (by decide) (by decide)
    (RowsIn.ofBlock [Value.slice B0 1 d0, Value.slice B1 1 d1, Value.slice B1 1 d1] [[6], [3], [3]] (by exact heap_alloc_new w' _) rfl (by decide) trivial (by
      have hk := HKr.out.fresh hk
      have hx0 := RowIn.keeps (R := fun _ => True) hx0.out (hk.alloc (.cells #[Value.slice B0 1 d0, Value.slice B1 1 d1, Value.slice B1 1 d1] 25)) (fun _ _ h => h)
      have hx1 := RowIn.keeps (R := fun _ => True) hx1.out (hk.alloc (.cells #[Value.slice B0 1 d0, Value.slice B1 1 d1, Value.slice B1 1 d1] 25)) (fun _ _ h => h)
      intro j u hu
      rcases j with _ | _ | _ | j
      · obtain rfl := Option.some.inj hu; exact hx0
      · obtain rfl := Option.some.inj hu; exact hx1
      · obtain rfl := Option.some.inj hu; exact hx1
      · exact absurd hu (by simp))) (by decide) (fun e => by cases e))
  rw [right13b] at hrc2
  have tk1 := hid trivial
  have HS2 := hid (fun w' (hk : Keeps NoB w2 w') => (⟨(HSC.out _ (HKr.out.fresh hk)).1.1, (HSC.out _ (HKr.out.fresh hk)).1.2.1, (HSC.out _ (HKr.out.fresh hk)).1.2.2.1, (HSC.out _ (HKr.out.fresh hk)).1.2.2.2.1, (HSC.out _ (HKr.out.fresh hk)).1.2.2.2.2, (HSC.out _ (HKr.out.fresh hk)).2.1, (HSC.out _ (HKr.out.fresh hk)).2.2, hcv.out _ hk⟩ : _ ∧ _ ∧ _ ∧ _ ∧ _ ∧ _ ∧ _ ∧ _))
  have HKw2 := hid (HKw.out.fresh HKr.out)
  clear hown2 k0 k1 k2 f2 deq HKr hb3
  have HKr := hid (Keeps.refl NoB w2)
  go_wp2_with fail
  go_region_held3 (fun w' => w'.cell? ⟨w.heap.size, 0, none⟩ = some (.int .i64 2) ∧ w'.cell? ⟨w.heap.size, 1, none⟩ = some (.int .i64 1) ∧ w'.cell? ⟨w.heap.size, 2, none⟩ = some (.int .i64 1) ∧ w'.cell? ⟨w.heap.size, 3, none⟩ = some (.int .i64 900) ∧ w'.cell? ⟨w.heap.size, 4, none⟩ = some (.int .i64 2) ∧ w'.cell? ⟨g, o, none⟩ = some (Value.slice B0 1 d0) ∧ w'.cell? ⟨g, o + 1, none⟩ = some (Value.slice B1 1 d1) ∧ Sem.run Try.prog (convert 25 9 (Value.slice A3 1 c3)) w' = Result.ok (Value.string (strOf [3])) w') (first | (exact HS2.out _ HKr.out) | (exact HS2.out _ HKr.out.drew) | (exact HS2.out _ (HKr.out.alloc _)) | go_keep) (first
    | (go_at_call 12; clear tk1; refine (hrc1.out _ (by first | exact HKr.out | exact HKr.out.drew)).mono ?_; rintro e w4 ⟨rfl, HK4⟩; have HKr := hid (show Keeps NoB w2 w4 by first | exact HKr.out.fresh HK4 | exact HKr.out.drew.fresh HK4))
    | (go_at_call 12; refine (hrc2.out _ HKr.out).mono ?_; rintro e w5 ⟨rfl, HK5⟩; have HKr := hid (show Keeps NoB w2 w5 from (HKr.out.alloc _).fresh HK5)))
  go_wp2_with fail
  go_ret
  exact ⟨rfl, HKw2.out.fresh HKr.out⟩
end Go.Proofs.Ytnnkfopopanfjaa
