/- Whether blocks are the composite ones of an object: the walk of compose.Right. Conditions: numbers are of their kinds. -/
import Derived.Test.YtnnkfopopanfjaaJoin
import Derived.Test.YtnnkfopopanfjaaLaw13
set_option linter.unusedVariables false
namespace Go.Proofs.Ytnnkfopopanfjaa
open Go.RowKit
attribute [local go_sem ↓] Go.wp_at_zero Go.wp_at_succ

def RightOk (p : Par) (session : Nat) (n : Int) (ls : List (List UInt8)) : Prop :=
  p.may ∧ p.n ≤ ls.length ∧ JoinOk p n (ls.take p.n.toNat) ∧ ls = compN p session (joinN n.toNat (ls.take p.n.toNat))
noncomputable def rightB (p : Par) (session : Nat) (n : Int) (ls : List (List UInt8)) : Bool := @decide (RightOk p session n ls) (Classical.propDecidable _)
theorem rightB_true {p : Par} {session : Nat} {n : Int} {ls : List (List UInt8)} (h : RightOk p session n ls) : rightB p session n ls = true := @decide_eq_true _ (Classical.propDecidable _) h
theorem rightB_false {p : Par} {session : Nat} {n : Int} {ls : List (List UInt8)} (h : ¬ RightOk p session n ls) : rightB p session n ls = false := @decide_eq_false _ (Classical.propDecidable _) h
theorem RowsIn.take {R : Nat → Prop} {w : World} {A : Option Addr} {ls : List (List UInt8)} (h : RowsIn R w A ls) (k : Nat) : RowsIn R w A (ls.take k) := by
  refine ⟨by have := h.1; rw [List.length_take]; omega, fun h0 => ?_⟩
  rw [List.length_take] at h0
  obtain ⟨b, off, e, hb, hc⟩ := h.2 (by omega)
  refine ⟨b, off, e, hb, fun j hj => ?_⟩
  rw [List.length_take] at hj
  have : gr (ls.take k) j = gr ls j := by unfold gr; rw [List.getD_eq_getElem?_getD, List.getD_eq_getElem?_getD, List.getElem?_take_of_lt (by omega)]
  rw [this]
  exact hc j (by omega)
theorem joinN_le (n : Nat) (ls : List (List UInt8)) : (joinN n ls).length ≤ n := by unfold joinN; rw [List.length_take]; omega
theorem join_bad (p : Par) (n : Int) (ls : List (List UInt8)) (A : Option Addr) (c : Nat) (R : Nat → Prop) (w : World) (hm : p.may) (hb : RowsIn R w A ls) (hn : -9223372036854775808 ≤ n) (hn2 : n ≤ 9223372036854775807) (hj : ¬ JoinOk p n ls) :
    Calls Try.prog 34 #[p.val, .int .i64 n, .slice A ls.length c] w fun e w' => e = .returned (.tuple #[.slice none 0 0, .int .i64 2]) ∧ Keeps NoB w w' := by
  refine (join_calls p n ls A c R w hm hb hn hn2).mono ?_
  rintro e w' ⟨hk, ⟨_, he⟩ | ⟨h, _⟩⟩
  · exact ⟨he, hk⟩
  · exact absurd h hj
theorem join_ok (p : Par) (n : Int) (ls : List (List UInt8)) (A : Option Addr) (c : Nat) (R : Nat → Prop) (w : World) (hm : p.may) (hb : RowsIn R w A ls) (hn : -9223372036854775808 ≤ n) (hn2 : n ≤ 9223372036854775807) (hj : JoinOk p n ls) :
    Calls Try.prog 34 #[p.val, .int .i64 n, .slice A ls.length c] w fun e w' => ∃ v, e = .returned (.tuple #[v, .int .i64 0]) ∧ OwnB w' w.heap.size v (joinN n.toNat ls) ∧ Keeps NoB w w' := by
  refine (join_calls p n ls A c R w hm hb hn hn2).mono ?_
  rintro e w' ⟨hk, ⟨h, _⟩ | ⟨_, v, he, ho⟩⟩
  · exact absurd hj h
  · exact ⟨v, he, ho, hk⟩
set_option maxHeartbeats 4000000 in
set_option maxRecDepth 20000 in
theorem right_calls (p : Par) (session : Nat) (n : Int) (ls : List (List UInt8)) (A : Option Addr) (c : Nat) (R : Nat → Prop) (w : World) (hwf : p.wf) (hs : session < 18446744073709551616) (hn : -9223372036854775808 ≤ n) (hn2 : n ≤ 9223372036854775807) (hb : RowsIn R w A ls) (hcap : ls.length ≤ c) (hA : A = none → c = 0) :
    Calls Try.prog 12 #[p.val, .int .u64 (session : Int), .int .i64 n, .slice A ls.length c] w fun e w' => e = .returned (.bool (rightB p session n ls)) ∧ Keeps NoB w w' := by
  have hu := Try.underlying23
  have HB := hid hb
  have hl := hb.len
  have HRT := hid (@rightB_true p session n ls)
  have HRF := hid (@rightB_false p session n ls)
  have HAn := hid hA
  have hpn0 := hwf.1.1
  have hpn1 := hwf.1.2
  obtain ⟨m, hm⟩ : ∃ m, ls.length = m := ⟨_, rfl⟩
  rw [hm] at hl hcap ⊢
  have HM := hid hm
  clear hb hm hwf hA
  have hbA := hid (heap_alloc_new w (.cells #[.int .i64 p.n, .int .i64 p.b, .int .i64 p.q, .int .i64 p.eps, .int .i64 p.f] 23))
  have HKa := hid ((Keeps.refl NoB w).alloc (.cells #[.int .i64 p.n, .int .i64 p.b, .int .i64 p.q, .int .i64 p.eps, .int .i64 p.f] 23))
  unfold Par.val
  by_cases h1 : (m : Int) < p.n
  · have d1 : decide ((m : Int) < p.n) = true := decide_eq_true h1
    have hf := hid (HRF.out (fun h => by have := h.2.1; rw [HM.out] at this; omega))
    go_enter Try.func12, Try.ntmps12
    go_wp2_with fail
    go_ret
    rw [hf.out]
    exact ⟨rfl, HKa.out⟩
  by_cases h2 : p.n < 0
  · have d1 : decide ((m : Int) < p.n) = false := decide_eq_false h1
    have d2 : decide (p.n < 0) = true := decide_eq_true h2
    have hf := hid (HRF.out (fun h => by have := h.1.1; omega))
    go_enter Try.func12, Try.ntmps12
    go_wp2_with fail
    go_ret
    rw [hf.out]
    exact ⟨rfl, HKa.out⟩
  obtain ⟨N, hN⟩ : ∃ N : Nat, p.n = (N : Int) := ⟨p.n.toNat, by omega⟩
  have hN2 : p.n.toNat = N := by omega
  have HN := hid hN
  have HN2 := hid hN2
  have hNm : N ≤ m := by omega
  have d1 : decide ((m : Int) < (N : Int)) = false := decide_eq_false (by omega)
  have d1' : decide (m < N) = false := decide_eq_false (by omega)
  have d2 : decide ((N : Int) < 0) = false := decide_eq_false (by omega)
  have htk := hid (show (ls.take N).length = N by rw [List.length_take, HM.out]; omega)
  clear h1 h2 hN hN2 hpn0 hpn1
  have hcells := cells5 hbA.out
  rw [HN.out] at hcells
  have hSall := hid (show ∀ w', Keeps NoB (w.alloc (.cells #[.int .i64 p.n, .int .i64 p.b, .int .i64 p.q, .int .i64 p.eps, .int .i64 p.f] 23)) w' → (w'.cell? ⟨w.heap.size, 0, none⟩ = some (.int .i64 (N : Int)) ∧ w'.cell? ⟨w.heap.size, 1, none⟩ = some (.int .i64 p.b) ∧ w'.cell? ⟨w.heap.size, 2, none⟩ = some (.int .i64 p.q) ∧ w'.cell? ⟨w.heap.size, 3, none⟩ = some (.int .i64 p.eps) ∧ w'.cell? ⟨w.heap.size, 4, none⟩ = some (.int .i64 p.f)) from fun w' hk => by
    have := cells5 (hk.heap hbA.out (fun h => h)); rw [HN.out] at this; exact this)
  have hbxN := hid hcells
  clear hcells
  generalize hwa : w.alloc (.cells #[.int .i64 p.n, .int .i64 p.b, .int .i64 p.q, .int .i64 p.eps, .int .i64 p.f] 23) = wa at *
  have hwa := hid hwa
  have HKr := hid (Keeps.refl NoB wa)
  have HBa := hid (HB.out.kept HKa.out)
  have e1 : (0 : Int) ≤ (N : Int) := by omega
  have e2 : (N : Int) ≤ (m : Int) := by omega
  have e3 : (N : Int) ≤ (c : Int) := by omega
  obtain ⟨b0, b1, b2, b3, b4⟩ := hSall.out _ HKr.out
  by_cases hm : p.may
  · by_cases hj : JoinOk p n (ls.take N)
    · obtain ⟨ob, hob⟩ : ∃ ob, joinN n.toNat (ls.take N) = ob := ⟨_, rfl⟩
      have hobl := hid (show (ob.length : Int) ≤ p.n * p.b by
        have h1 := hj.2.1
        have h2 := hj.2.2.1
        have h3 := joinN_le n.toNat (ls.take N)
        rw [hob] at h3
        omega)
      have HRT2 := hid (fun (h : ls = compN p session ob) => HRT.out ⟨hm, by rw [HN.out, HM.out]; exact e2, by rw [HN2.out]; exact hj, by rw [HN2.out, hob]; exact h⟩)
      have HRF2 := hid (fun (h : ls ≠ compN p session ob) => HRF.out (fun h' => h (by have := h'.2.2.2; rw [HN2.out, hob] at this; exact this)))
      have hjc := hid (fun (w' : World) (hk : Keeps NoB wa w') => join_ok p n (ls.take N) A c _ w' hm ((HBa.out.kept hk).take N) hn hn2 hj)
      have hcc := hid (fun (w' : World) (B : Option Addr) (cB : Nat) (R' : Nat → Prop) (h : BytesIn R' w' B ob) (hc : ob.length ≤ cB) => comp_yes p session ob B cB R' w' hm hs h hc hobl.out)
      rw [hob] at hjc
      unfold Par.val at hjc hcc
      rw [HN.out] at hjc hcc
      rw [htk.out] at hjc
      obtain ⟨L, hL⟩ : ∃ L, ob.length = L := ⟨_, rfl⟩
      rw [hL] at hcc
      obtain ⟨W, hW⟩ : ∃ W, compN p session ob = W := ⟨_, rfl⟩
      rw [hW] at hcc HRT2 HRF2
      have HL := hid hL
      have hext := hid (rows_ext (a := ls) (b := W))
      clear hm hj hob hL hW HRT HRF
      go_enter Try.func12, Try.ntmps12
      go_wp2_with fail
      go_region_held3 (fun w' => w'.cell? ⟨w.heap.size, 0, none⟩ = some (.int .i64 (N : Int)) ∧ w'.cell? ⟨w.heap.size, 1, none⟩ = some (.int .i64 p.b) ∧ w'.cell? ⟨w.heap.size, 2, none⟩ = some (.int .i64 p.q) ∧ w'.cell? ⟨w.heap.size, 3, none⟩ = some (.int .i64 p.eps) ∧ w'.cell? ⟨w.heap.size, 4, none⟩ = some (.int .i64 p.f)) (first | (exact hSall.out _ HKr.out) | (exact hSall.out _ HKr.out.drew) | go_keep) ((go_at_call 34; refine (hjc.out _ (by first | exact HKr.out | exact HKr.out.drew)).mono ?_; rintro e w4 ⟨v4, rfl, hown4, HK4⟩; have HKr := hid (show Keeps NoB wa w4 by first | exact HKr.out.fresh HK4 | exact HKr.out.drew.fresh HK4)))
      obtain ⟨A4, c4, hv4, hc4, _, hb4⟩ := OwnB.reads hown4
      rw [HL.out] at hc4 hv4
      subst hv4
      have HKn := hid HKr.out
      have HB4 := hid hb4
      clear HKr b0 b1 b2 b3 b4 hown4 hb4
      obtain ⟨b0, b1, b2, b3, b4⟩ := hSall.out _ HKn.out
      go_wp2_with fail
      refine (hcc.out _ A4 c4 _ HB4.out hc4).mono ?_
      rintro e w5 ⟨v5, rfl, hown5, HK5⟩
      obtain ⟨A5, c5, rfl, hc5, _, hb5⟩ := OwnRows.reads hown5
      have HKm := hid (HKa.out.fresh (HKn.out.fresh HK5))
      have HBm := hid (HBa.out.kept (HKn.out.fresh HK5))
      have HB5 := hid hb5
      have hl5 := hb5.len
      clear b0 b1 b2 b3 b4 hown5 hb5
      by_cases hlen : W.length = m
      · have HWL := hid hlen
        rw [hlen] at hc5 hl5 ⊢
        have dne : ((m : Int) != (m : Int)) = false := by simp
        clear hlen
        go_wp2_with fail
        go_loopw [54] (fun v54 wr => ∃ k : Nat, k ≤ m ∧ v54 = .int .i64 (k : Int) ∧ Hid (∀ j, j < k → gr ls j = gr W j) ∧ Hid (Keeps NoB w5 wr)) (fun v54 _ => m - (intOf v54).toNat)
        case atStart => exact ⟨0, Nat.zero_le _, rfl, fun j h => absurd h (Nat.not_lt_zero _), Keeps.refl _ _⟩
        case round =>
          obtain ⟨k, hk, rfl, HJ, HK⟩ := hrel
          by_cases hlt : k < m
          · obtain ⟨g1, o1, rfl, _, hc1⟩ := (HBm.out.kept HK.out).2 (by rw [HM.out]; omega)
            obtain ⟨u1, k1, B1, d1x, rfl, _, _, r1⟩ := hc1 k (by rw [HM.out]; exact hlt)
            obtain ⟨g2, o2, rfl, _, hc2⟩ := (HB5.out.kept HK.out).2 (by rw [HWL.out]; omega)
            obtain ⟨u2, k2, B2, d2x, rfl, _, _, r2⟩ := hc2 k (by rw [HWL.out]; exact hlt)
            have f1 := fun n => conv_run 25 9 Try.underlying25 Try.underlying9 (r1.kept ((Keeps.refl NoB wr).drewN n)) d1x
            have f2 := fun n => conv_run 25 9 Try.underlying25 Try.underlying9 (r2.kept ((Keeps.refl NoB wr).drewN n)) d2x
            have q0 : (0 : Int) ≤ (k : Int) := by omega
            have q1 : (k : Int) < (m : Int) := by omega
            clear hc1 hc2 r1 r2
            by_cases hx : gr ls k = gr W k
            · have HJ2 := hid (show ∀ j, j < k + 1 → gr ls j = gr W j from fun j hj => by
                by_cases e : j = k
                · rw [e]; exact hx
                · exact HJ.out j (by omega))
              have deq : ((strOf (gr W k)).toList == (strOf (gr ls k)).toList) = true := by rw [hx]; simp
              have dnq : ((strOf (gr W k)).toList != (strOf (gr ls k)).toList) = false := by rw [hx]; simp
              clear hx
              generalize gr ls k = x at *
              generalize gr W k = y at *
              go_wp2_with fail
              go_quiet (fail)
              go_wp2_with fail
              go_roundw
              case rel => exact ⟨k + 1, by omega, by go_num, HJ2, hid (HK.out.drewN _)⟩
              case measure => simp [intOf]; omega
            · have hs := hid (HRF2.out (fun e => hx (by rw [e])))
              have deq : ((strOf (gr W k)).toList == (strOf (gr ls k)).toList) = false := by
                rw [strOf_toList, strOf_toList]; simpa using fun h => hx h.symm
              have dnq : ((strOf (gr W k)).toList != (strOf (gr ls k)).toList) = true := by
                rw [strOf_toList, strOf_toList]; simpa using fun h => hx h.symm
              clear hx
              generalize gr ls k = x at *
              generalize gr W k = y at *
              go_wp2_with fail
              go_quiet (fail)
              go_wp2_with fail
              go_ret
              rw [hs.out]
              exact ⟨rfl, HKm.out.fresh (HK.out.drewN _)⟩
          · obtain rfl : k = m := by omega
            have hs := hid (HRT2.out (hext.out (by rw [HM.out, HWL.out]) (fun j hj => HJ.out j (by rw [← HM.out]; exact hj))))
            go_wp2_with fail
            go_ret
            rw [hs.out]
            exact ⟨rfl, HKm.out.fresh HK.out⟩
      · have hs := hid (HRF2.out (fun e => hlen (by rw [← e, HM.out])))
        obtain ⟨M2, hM2⟩ : ∃ M2, W.length = M2 := ⟨_, rfl⟩
        rw [hM2] at hc5 hl5 hlen ⊢
        have dne : ((M2 : Int) != (m : Int)) = true := by simp; omega
        clear hlen hM2
        go_wp2_with fail
        go_ret
        rw [hs.out]
        exact ⟨rfl, HKm.out⟩
    · have hf := hid (HRF.out (fun h => hj (by have := h.2.2.1; rw [HN2.out] at this; exact this)))
      have hjc := hid (fun (w' : World) (hk : Keeps NoB wa w') => join_bad p n (ls.take N) A c _ w' hm ((HBa.out.kept hk).take N) hn hn2 hj)
      unfold Par.val at hjc
      rw [HN.out, htk.out] at hjc
      clear hm hj
      go_enter Try.func12, Try.ntmps12
      go_wp2_with fail
      go_region_held3 (fun w' => w'.cell? ⟨w.heap.size, 0, none⟩ = some (.int .i64 (N : Int)) ∧ w'.cell? ⟨w.heap.size, 1, none⟩ = some (.int .i64 p.b) ∧ w'.cell? ⟨w.heap.size, 2, none⟩ = some (.int .i64 p.q) ∧ w'.cell? ⟨w.heap.size, 3, none⟩ = some (.int .i64 p.eps) ∧ w'.cell? ⟨w.heap.size, 4, none⟩ = some (.int .i64 p.f)) (first | (exact hSall.out _ HKr.out) | (exact hSall.out _ HKr.out.drew) | go_keep) ((go_at_call 34; refine (hjc.out _ (by first | exact HKr.out | exact HKr.out.drew)).mono ?_; rintro e w4 ⟨rfl, HK4⟩; have HKr := hid (show Keeps NoB wa w4 by first | exact HKr.out.fresh HK4 | exact HKr.out.drew.fresh HK4)))
      go_wp2_with fail
      go_ret
      rw [hf.out]
      exact ⟨rfl, HKa.out.fresh HKr.out⟩
  · have hf := hid (HRF.out (fun h => hm h.1))
    have hjc := hid (fun (w' : World) => join_no p n A N c w' hm)
    unfold Par.val at hjc
    rw [HN.out] at hjc
    clear hm
    go_enter Try.func12, Try.ntmps12
    go_wp2_with fail
    go_region_held3 (fun w' => w'.cell? ⟨w.heap.size, 0, none⟩ = some (.int .i64 (N : Int)) ∧ w'.cell? ⟨w.heap.size, 1, none⟩ = some (.int .i64 p.b) ∧ w'.cell? ⟨w.heap.size, 2, none⟩ = some (.int .i64 p.q) ∧ w'.cell? ⟨w.heap.size, 3, none⟩ = some (.int .i64 p.eps) ∧ w'.cell? ⟨w.heap.size, 4, none⟩ = some (.int .i64 p.f)) (first | (exact hSall.out _ HKr.out) | (exact hSall.out _ HKr.out.drew) | go_keep) ((go_at_call 34; refine (hjc.out _).mono ?_; rintro e w4 ⟨rfl, HK4⟩; have HKr := hid (show Keeps NoB wa w4 by first | exact HKr.out.fresh HK4 | exact HKr.out.drew.fresh HK4)))
    go_wp2_with fail
    go_ret
    rw [hf.out]
    exact ⟨rfl, HKa.out.fresh HKr.out⟩
end Go.Proofs.Ytnnkfopopanfjaa
