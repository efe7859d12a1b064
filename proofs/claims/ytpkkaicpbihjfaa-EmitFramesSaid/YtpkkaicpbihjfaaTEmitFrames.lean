/- The last texts ahead of the law EmitFrames, one behind the other: what each proves, and its conditions, stands ahead of it. -/
import Derived.Test.YtpkkaicpbihjfaaRef13
import Derived.Deep.QuietTactic
import Derived.Test.YtpkkaicpbihjfaaJoin
import Derived.Test.YtpkkaicpbihjfaaComposite
import Derived.Test.YtpkkaicpbihjfaaWireRead
import Derived.Test.YtpkkaicpbihjfaaDiv
import Derived.Test.YtpkkaicpbihjfaaEncode
import Derived.Test.YtpkkaicpbihjfaaEmitNew
import Derived.Test.YtpkkaicpbihjfaaBlock
import Derived.Test.YtpkkaicpbihjfaaRowsB
import Derived.Test.YtpkkaicpbihjfaaParams
import Derived.Laws.StructEq
import Derived.Test.YtpkkaicpbihjfaaRegionInv
import Derived.BigQuiet
import Derived.Test.YtpkkaicpbihjfaaRow
import Derived.Test.YtpkkaicpbihjfaaBytes
/- Small walks of layer 13's laws: same, big. No condition but that numbers are of their kinds. -/
set_option linter.unusedVariables false
namespace Go.Proofs.Ytpkkaicpbihjfaa
open Go.RowKit
attribute [local go_sem ↓] Go.wp_at_zero Go.wp_at_succ

def sameB (a b : List (List UInt8)) : Bool := decide (a = b)
theorem rows_ext {a b : List (List UInt8)} (hl : a.length = b.length) (h : ∀ j, j < a.length → gr a j = gr b j) : a = b := by
  apply List.ext_getElem hl
  intro j h1 h2
  have := h j h1
  rwa [gr_eq a j h1, gr_eq b j h2] at this
set_option maxHeartbeats 1000000 in
set_option maxRecDepth 20000 in
theorem same13_calls (a b : List (List UInt8)) (A1 A2 : Option Addr) (c1 c2 : Nat) (R1 R2 : Nat → Prop) (w : World) (h1 : RowsIn R1 w A1 a) (h2 : RowsIn R2 w A2 b) :
    Calls Try.prog 15 #[.slice A1 a.length c1, .slice A2 b.length c2] w fun e w' => e = .returned (.bool (sameB a b)) ∧ Keeps NoB w w' := by
  have hl1 := h1.len
  have hl2 := h2.len
  have H1 := hid h1
  have H2 := hid h2
  have hext := hid (rows_ext (a := a) (b := b))
  by_cases hl : a.length = b.length
  · obtain ⟨n, hn⟩ : ∃ n, b.length = n := ⟨_, rfl⟩
    rw [hn] at hl
    rw [hl, hn]
    have hn1 := hid hl
    have hn2 := hid hn
    have dne : ((n : Int) != (n : Int)) = false := by simp
    rw [hl] at hl1
    clear h1 h2 hl hn hl2
    go_enter Try.func15, Try.ntmps15
    go_wp2_with fail
    go_loopw [13] (fun v13 wr => ∃ k : Nat, k ≤ n ∧ v13 = .int .i64 (k : Int) ∧ Hid (∀ j, j < k → gr a j = gr b j) ∧ Hid (Keeps NoB w wr)) (fun v13 _ => n - (intOf v13).toNat)
    case atStart => exact ⟨0, Nat.zero_le _, rfl, fun j h => absurd h (Nat.not_lt_zero _), Keeps.refl _ _⟩
    case round =>
      obtain ⟨k, hk, rfl, HJ, HK⟩ := hrel
      by_cases hlt : k < n
      · obtain ⟨b1, o1, rfl, _, hc1⟩ := (H1.out.kept HK.out).2 (by rw [hn1.out]; omega)
        obtain ⟨u1, k1, B1, d1, rfl, _, _, r1⟩ := hc1 k (by rw [hn1.out]; exact hlt)
        obtain ⟨b2, o2, rfl, _, hc2⟩ := (H2.out.kept HK.out).2 (by rw [hn2.out]; omega)
        obtain ⟨u2, k2, B2, d2, rfl, _, _, r2⟩ := hc2 k (by rw [hn2.out]; exact hlt)
        have e1 := fun n => conv_run 25 9 Try.underlying25 Try.underlying9 (r1.kept ((Keeps.refl NoB wr).drewN n)) d1
        have e2 := fun n => conv_run 25 9 Try.underlying25 Try.underlying9 (r2.kept ((Keeps.refl NoB wr).drewN n)) d2
        have q0 : (0 : Int) ≤ (k : Int) := by omega
        have q1 : (k : Int) < (n : Int) := by omega
        clear hc1 hc2 r1 r2
        by_cases hx : gr a k = gr b k
        · have HJ2 := hid (show ∀ j, j < k + 1 → gr a j = gr b j from fun j hj => by
            by_cases e : j = k
            · rw [e]; exact hx
            · exact HJ.out j (by omega))
          have deq : ((strOf (gr a k)).toList == (strOf (gr b k)).toList) = true := by rw [hx]; simp
          clear hx
          generalize gr a k = x at *
          generalize gr b k = y at *
          go_wp2_with fail
          go_quiet (fail)
          go_wp2_with fail
          go_roundw
          case rel => exact ⟨k + 1, by omega, by go_num, HJ2, hid (HK.out.drewN _)⟩
          case measure => simp [intOf]; omega
        · have hs := hid (show sameB a b = false from decide_eq_false (fun e => hx (by rw [e])))
          have deq : ((strOf (gr a k)).toList == (strOf (gr b k)).toList) = false := by
            rw [strOf_toList, strOf_toList]; simpa using hx
          clear hx
          generalize gr a k = x at *
          generalize gr b k = y at *
          go_wp2_with fail
          go_quiet (fail)
          go_wp2_with fail
          go_ret
          rw [hs.out]
          exact ⟨rfl, HK.out.drewN _⟩
      · obtain rfl : k = n := by omega
        have hs := hid (show sameB a b = true from decide_eq_true (hext.out (by rw [hn1.out, hn2.out]) (fun j hj => HJ.out j (by rw [← hn1.out]; exact hj))))
        go_wp2_with fail
        go_ret
        rw [hs.out]
        exact ⟨rfl, HK.out⟩
  · have hs := hid (show sameB a b = false from decide_eq_false (fun e => hl (by rw [e])))
    have dne : (((a.length : Nat) : Int) != ((b.length : Nat) : Int)) = true := by simp; omega
    generalize a.length = n at *
    generalize b.length = m at *
    clear h1 h2 hl
    go_enter Try.func15, Try.ntmps15
    go_wp2_with fail
    go_ret
    rw [hs.out]
    exact ⟨rfl, Keeps.refl _ _⟩
def bigN (p : Par) : Bool := decide (60 < p.n ∨ 60 < p.b ∨ p.n < -60)
set_option maxHeartbeats 1000000 in
set_option maxRecDepth 20000 in
theorem big13_calls (p : Par) (w : World) :
    Calls Try.prog 12 #[p.val] w fun e w' => e = .returned (.bool (bigN p)) ∧ Keeps NoB w w' := by
  have hu := Try.underlying23
  have HK := hid ((Keeps.refl NoB w).alloc (.cells #[.int .i64 p.n, .int .i64 p.b, .int .i64 p.q, .int .i64 p.eps, .int .i64 p.f] 23))
  unfold Par.val
  by_cases h1 : 60 < p.n
  · have hb := hid (show bigN p = true from decide_eq_true (.inl h1))
    have d1 : decide ((60 : Int) < p.n) = true := decide_eq_true h1
    clear h1
    go_enter Try.func12, Try.ntmps12
    go_wp2_with fail
    go_ret
    rw [hb.out]
    exact ⟨rfl, HK.out⟩
  · have d1 : decide ((60 : Int) < p.n) = false := decide_eq_false h1
    by_cases h2 : 60 < p.b
    · have hb := hid (show bigN p = true from decide_eq_true (.inr (.inl h2)))
      have d2 : decide ((60 : Int) < p.b) = true := decide_eq_true h2
      clear h1 h2
      go_enter Try.func12, Try.ntmps12
      go_wp2_with fail
      go_ret
      rw [hb.out]
      exact ⟨rfl, HK.out⟩
    · have d2 : decide ((60 : Int) < p.b) = false := decide_eq_false h2
      by_cases h3 : p.n < -60
      · have hb := hid (show bigN p = true from decide_eq_true (.inr (.inr h3)))
        have d3 : decide (p.n < -60) = true := decide_eq_true h3
        clear h1 h2 h3
        go_enter Try.func12, Try.ntmps12
        go_wp2_with fail
        go_ret
        rw [hb.out]
        exact ⟨rfl, HK.out⟩
      · have hb := hid (show bigN p = false from decide_eq_false (by omega))
        have d3 : decide (p.n < -60) = false := decide_eq_false h3
        clear h1 h2 h3
        go_enter Try.func12, Try.ntmps12
        go_wp2_with fail
        go_ret
        rw [hb.out]
        exact ⟨rfl, HK.out⟩
end Go.Proofs.Ytpkkaicpbihjfaa
/- Whether blocks are the composite ones of an object: the walk of compose.Right. Conditions: numbers are of their kinds. -/
set_option linter.unusedVariables false
namespace Go.Proofs.Ytpkkaicpbihjfaa
open Go.RowKit
attribute [local go_sem ↓] Go.wp_at_zero Go.wp_at_succ

def RightOk (p : Par) (session : Nat) (n : Int) (ls : List (List UInt8)) : Prop :=
  p.may ∧ p.n ≤ ls.length ∧ JoinOk p n (ls.take p.n.toNat) ∧ ls = compN p session (joinN n.toNat (ls.take p.n.toNat))
noncomputable def rightB (p : Par) (session : Nat) (n : Int) (ls : List (List UInt8)) : Bool := @decide (RightOk p session n ls) (Classical.propDecidable _)
theorem rightB_true {p : Par} {session : Nat} {n : Int} {ls : List (List UInt8)} (h : RightOk p session n ls) : rightB p session n ls = true := @decide_eq_true _ (Classical.propDecidable _) h
theorem rightB_false {p : Par} {session : Nat} {n : Int} {ls : List (List UInt8)} (h : ¬ RightOk p session n ls) : rightB p session n ls = false := @decide_eq_false _ (Classical.propDecidable _) h
theorem RowsIn.take {R : Nat → Prop} {w : World} {A : Option Addr} {ls : List (List UInt8)} (h : RowsIn R w A ls) (k : Nat) : RowsIn R w A (ls.take k) := by
  refine ⟨by have := h.1; rw [List.length_take]; omega, fun h0 => ?_⟩
  rw [List.length_take] at h0
  obtain ⟨b, off, e, hb, hc⟩ := h.2 (by omega)
  refine ⟨b, off, e, hb, fun j hj => ?_⟩
  rw [List.length_take] at hj
  have : gr (ls.take k) j = gr ls j := by unfold gr; rw [List.getD_eq_getElem?_getD, List.getD_eq_getElem?_getD, List.getElem?_take_of_lt (by omega)]
  rw [this]
  exact hc j (by omega)
theorem joinN_le (n : Nat) (ls : List (List UInt8)) : (joinN n ls).length ≤ n := by unfold joinN; rw [List.length_take]; omega
theorem join_bad (p : Par) (n : Int) (ls : List (List UInt8)) (A : Option Addr) (c : Nat) (R : Nat → Prop) (w : World) (hm : p.may) (hb : RowsIn R w A ls) (hn : -9223372036854775808 ≤ n) (hn2 : n ≤ 9223372036854775807) (hj : ¬ JoinOk p n ls) :
    Calls Try.prog 46 #[p.val, .int .i64 n, .slice A ls.length c] w fun e w' => e = .returned (.tuple #[.slice none 0 0, .int .i64 2]) ∧ Keeps NoB w w' := by
  refine (join_calls p n ls A c R w hm hb hn hn2).mono ?_
  rintro e w' ⟨hk, ⟨_, he⟩ | ⟨h, _⟩⟩
  · exact ⟨he, hk⟩
  · exact absurd h hj
theorem join_ok (p : Par) (n : Int) (ls : List (List UInt8)) (A : Option Addr) (c : Nat) (R : Nat → Prop) (w : World) (hm : p.may) (hb : RowsIn R w A ls) (hn : -9223372036854775808 ≤ n) (hn2 : n ≤ 9223372036854775807) (hj : JoinOk p n ls) :
    Calls Try.prog 46 #[p.val, .int .i64 n, .slice A ls.length c] w fun e w' => ∃ v, e = .returned (.tuple #[v, .int .i64 0]) ∧ OwnB w' w.heap.size v (joinN n.toNat ls) ∧ Keeps NoB w w' := by
  refine (join_calls p n ls A c R w hm hb hn hn2).mono ?_
  rintro e w' ⟨hk, ⟨h, _⟩ | ⟨_, v, he, ho⟩⟩
  · exact absurd hj h
  · exact ⟨v, he, ho, hk⟩
set_option maxHeartbeats 4000000 in
set_option maxRecDepth 20000 in
theorem right_calls (p : Par) (session : Nat) (n : Int) (ls : List (List UInt8)) (A : Option Addr) (c : Nat) (R : Nat → Prop) (w : World) (hwf : p.wf) (hs : session < 18446744073709551616) (hn : -9223372036854775808 ≤ n) (hn2 : n ≤ 9223372036854775807) (hb : RowsIn R w A ls) (hcap : ls.length ≤ c) (hA : A = none → c = 0) :
    Calls Try.prog 16 #[p.val, .int .u64 (session : Int), .int .i64 n, .slice A ls.length c] w fun e w' => e = .returned (.bool (rightB p session n ls)) ∧ Keeps NoB w w' := by
  have hu := Try.underlying23
  have HB := hid hb
  have hl := hb.len
  have HRT := hid (@rightB_true p session n ls)
  have HRF := hid (@rightB_false p session n ls)
  have HAn := hid hA
  have hpn0 := hwf.1.1
  have hpn1 := hwf.1.2
  obtain ⟨m, hm⟩ : ∃ m, ls.length = m := ⟨_, rfl⟩
  rw [hm] at hl hcap ⊢
  have HM := hid hm
  clear hb hm hwf hA
  have hbA := hid (heap_alloc_new w (.cells #[.int .i64 p.n, .int .i64 p.b, .int .i64 p.q, .int .i64 p.eps, .int .i64 p.f] 23))
  have HKa := hid ((Keeps.refl NoB w).alloc (.cells #[.int .i64 p.n, .int .i64 p.b, .int .i64 p.q, .int .i64 p.eps, .int .i64 p.f] 23))
  unfold Par.val
  by_cases h1 : (m : Int) < p.n
  · have d1 : decide ((m : Int) < p.n) = true := decide_eq_true h1
    have hf := hid (HRF.out (fun h => by have := h.2.1; rw [HM.out] at this; omega))
    go_enter Try.func16, Try.ntmps16
    go_wp2_with fail
    go_ret
    rw [hf.out]
    exact ⟨rfl, HKa.out⟩
  by_cases h2 : p.n < 0
  · have d1 : decide ((m : Int) < p.n) = false := decide_eq_false h1
    have d2 : decide (p.n < 0) = true := decide_eq_true h2
    have hf := hid (HRF.out (fun h => by have := h.1.1; omega))
    go_enter Try.func16, Try.ntmps16
    go_wp2_with fail
    go_ret
    rw [hf.out]
    exact ⟨rfl, HKa.out⟩
  obtain ⟨N, hN⟩ : ∃ N : Nat, p.n = (N : Int) := ⟨p.n.toNat, by omega⟩
  have hN2 : p.n.toNat = N := by omega
  have HN := hid hN
  have HN2 := hid hN2
  have hNm : N ≤ m := by omega
  have d1 : decide ((m : Int) < (N : Int)) = false := decide_eq_false (by omega)
  have d1' : decide (m < N) = false := decide_eq_false (by omega)
  have d2 : decide ((N : Int) < 0) = false := decide_eq_false (by omega)
  have htk := hid (show (ls.take N).length = N by rw [List.length_take, HM.out]; omega)
  clear h1 h2 hN hN2 hpn0 hpn1
  have hcells := cells5 hbA.out
  rw [HN.out] at hcells
  have hSall := hid (show ∀ w', Keeps NoB (w.alloc (.cells #[.int .i64 p.n, .int .i64 p.b, .int .i64 p.q, .int .i64 p.eps, .int .i64 p.f] 23)) w' → (w'.cell? ⟨w.heap.size, 0, none⟩ = some (.int .i64 (N : Int)) ∧ w'.cell? ⟨w.heap.size, 1, none⟩ = some (.int .i64 p.b) ∧ w'.cell? ⟨w.heap.size, 2, none⟩ = some (.int .i64 p.q) ∧ w'.cell? ⟨w.heap.size, 3, none⟩ = some (.int .i64 p.eps) ∧ w'.cell? ⟨w.heap.size, 4, none⟩ = some (.int .i64 p.f)) from fun w' hk => by
    have := cells5 (hk.heap hbA.out (fun h => h)); rw [HN.out] at this; exact this)
  have hbxN := hid hcells
  clear hcells
  generalize hwa : w.alloc (.cells #[.int .i64 p.n, .int .i64 p.b, .int .i64 p.q, .int .i64 p.eps, .int .i64 p.f] 23) = wa at *
  have hwa := hid hwa
  have HKr := hid (Keeps.refl NoB wa)
  have HBa := hid (HB.out.kept HKa.out)
  have e1 : (0 : Int) ≤ (N : Int) := by omega
  have e2 : (N : Int) ≤ (m : Int) := by omega
  have e3 : (N : Int) ≤ (c : Int) := by omega
  obtain ⟨b0, b1, b2, b3, b4⟩ := hSall.out _ HKr.out
  by_cases hm : p.may
  · by_cases hj : JoinOk p n (ls.take N)
    · obtain ⟨ob, hob⟩ : ∃ ob, joinN n.toNat (ls.take N) = ob := ⟨_, rfl⟩
      have hobl := hid (show (ob.length : Int) ≤ p.n * p.b by
        have h1 := hj.2.1
        have h2 := hj.2.2.1
        have h3 := joinN_le n.toNat (ls.take N)
        rw [hob] at h3
        omega)
      have HRT2 := hid (fun (h : ls = compN p session ob) => HRT.out ⟨hm, by rw [HN.out, HM.out]; exact e2, by rw [HN2.out]; exact hj, by rw [HN2.out, hob]; exact h⟩)
      have HRF2 := hid (fun (h : ls ≠ compN p session ob) => HRF.out (fun h' => h (by have := h'.2.2.2; rw [HN2.out, hob] at this; exact this)))
      have hjc := hid (fun (w' : World) (hk : Keeps NoB wa w') => join_ok p n (ls.take N) A c _ w' hm ((HBa.out.kept hk).take N) hn hn2 hj)
      have hcc := hid (fun (w' : World) (B : Option Addr) (cB : Nat) (R' : Nat → Prop) (h : BytesIn R' w' B ob) (hc : ob.length ≤ cB) => comp_yes p session ob B cB R' w' hm hs h hc hobl.out)
      rw [hob] at hjc
      unfold Par.val at hjc hcc
      rw [HN.out] at hjc hcc
      rw [htk.out] at hjc
      obtain ⟨L, hL⟩ : ∃ L, ob.length = L := ⟨_, rfl⟩
      rw [hL] at hcc
      obtain ⟨W, hW⟩ : ∃ W, compN p session ob = W := ⟨_, rfl⟩
      rw [hW] at hcc HRT2 HRF2
      have HL := hid hL
      have hext := hid (rows_ext (a := ls) (b := W))
      clear hm hj hob hL hW HRT HRF
      go_enter Try.func16, Try.ntmps16
      go_wp2_with fail
      go_region_held3 (fun w' => w'.cell? ⟨w.heap.size, 0, none⟩ = some (.int .i64 (N : Int)) ∧ w'.cell? ⟨w.heap.size, 1, none⟩ = some (.int .i64 p.b) ∧ w'.cell? ⟨w.heap.size, 2, none⟩ = some (.int .i64 p.q) ∧ w'.cell? ⟨w.heap.size, 3, none⟩ = some (.int .i64 p.eps) ∧ w'.cell? ⟨w.heap.size, 4, none⟩ = some (.int .i64 p.f)) (first | (exact hSall.out _ HKr.out) | (exact hSall.out _ HKr.out.drew) | go_keep) ((go_at_call 46; refine (hjc.out _ (by first | exact HKr.out | exact HKr.out.drew)).mono ?_; rintro e w4 ⟨v4, rfl, hown4, HK4⟩; have HKr := hid (show Keeps NoB wa w4 by first | exact HKr.out.fresh HK4 | exact HKr.out.drew.fresh HK4)))
      obtain ⟨A4, c4, hv4, hc4, _, hb4⟩ := OwnB.reads hown4
      rw [HL.out] at hc4 hv4
      subst hv4
      have HKn := hid HKr.out
      have HB4 := hid hb4
      clear HKr b0 b1 b2 b3 b4 hown4 hb4
      obtain ⟨b0, b1, b2, b3, b4⟩ := hSall.out _ HKn.out
      go_wp2_with fail
      refine (hcc.out _ A4 c4 _ HB4.out hc4).mono ?_
      rintro e w5 ⟨v5, rfl, hown5, HK5⟩
      obtain ⟨A5, c5, rfl, hc5, _, hb5⟩ := OwnRows.reads hown5
      have HKm := hid (HKa.out.fresh (HKn.out.fresh HK5))
      have HBm := hid (HBa.out.kept (HKn.out.fresh HK5))
      have HB5 := hid hb5
      have hl5 := hb5.len
      clear b0 b1 b2 b3 b4 hown5 hb5
      by_cases hlen : W.length = m
      · have HWL := hid hlen
        rw [hlen] at hc5 hl5 ⊢
        have dne : ((m : Int) != (m : Int)) = false := by simp
        clear hlen
        go_wp2_with fail
        go_loopw [54] (fun v54 wr => ∃ k : Nat, k ≤ m ∧ v54 = .int .i64 (k : Int) ∧ Hid (∀ j, j < k → gr ls j = gr W j) ∧ Hid (Keeps NoB w5 wr)) (fun v54 _ => m - (intOf v54).toNat)
        case atStart => exact ⟨0, Nat.zero_le _, rfl, fun j h => absurd h (Nat.not_lt_zero _), Keeps.refl _ _⟩
        case round =>
          obtain ⟨k, hk, rfl, HJ, HK⟩ := hrel
          by_cases hlt : k < m
          · obtain ⟨g1, o1, rfl, _, hc1⟩ := (HBm.out.kept HK.out).2 (by rw [HM.out]; omega)
            obtain ⟨u1, k1, B1, d1x, rfl, _, _, r1⟩ := hc1 k (by rw [HM.out]; exact hlt)
            obtain ⟨g2, o2, rfl, _, hc2⟩ := (HB5.out.kept HK.out).2 (by rw [HWL.out]; omega)
            obtain ⟨u2, k2, B2, d2x, rfl, _, _, r2⟩ := hc2 k (by rw [HWL.out]; exact hlt)
            have f1 := fun n => conv_run 25 9 Try.underlying25 Try.underlying9 (r1.kept ((Keeps.refl NoB wr).drewN n)) d1x
            have f2 := fun n => conv_run 25 9 Try.underlying25 Try.underlying9 (r2.kept ((Keeps.refl NoB wr).drewN n)) d2x
            have q0 : (0 : Int) ≤ (k : Int) := by omega
            have q1 : (k : Int) < (m : Int) := by omega
            clear hc1 hc2 r1 r2
            by_cases hx : gr ls k = gr W k
            · have HJ2 := hid (show ∀ j, j < k + 1 → gr ls j = gr W j from fun j hj => by
                by_cases e : j = k
                · rw [e]; exact hx
                · exact HJ.out j (by omega))
              have deq : ((strOf (gr W k)).toList == (strOf (gr ls k)).toList) = true := by rw [hx]; simp
              have dnq : ((strOf (gr W k)).toList != (strOf (gr ls k)).toList) = false := by rw [hx]; simp
              clear hx
              generalize gr ls k = x at *
              generalize gr W k = y at *
              go_wp2_with fail
              go_quiet (fail)
              go_wp2_with fail
              go_roundw
              case rel => exact ⟨k + 1, by omega, by go_num, HJ2, hid (HK.out.drewN _)⟩
              case measure => simp [intOf]; omega
            · have hs := hid (HRF2.out (fun e => hx (by rw [e])))
              have deq : ((strOf (gr W k)).toList == (strOf (gr ls k)).toList) = false := by
                rw [strOf_toList, strOf_toList]; simpa using fun h => hx h.symm
              have dnq : ((strOf (gr W k)).toList != (strOf (gr ls k)).toList) = true := by
                rw [strOf_toList, strOf_toList]; simpa using fun h => hx h.symm
              clear hx
              generalize gr ls k = x at *
              generalize gr W k = y at *
              go_wp2_with fail
              go_quiet (fail)
              go_wp2_with fail
              go_ret
              rw [hs.out]
              exact ⟨rfl, HKm.out.fresh (HK.out.drewN _)⟩
          · obtain rfl : k = m := by omega
            have hs := hid (HRT2.out (hext.out (by rw [HM.out, HWL.out]) (fun j hj => HJ.out j (by rw [← HM.out]; exact hj))))
            go_wp2_with fail
            go_ret
            rw [hs.out]
            exact ⟨rfl, HKm.out.fresh HK.out⟩
      · have hs := hid (HRF2.out (fun e => hlen (by rw [← e, HM.out])))
        obtain ⟨M2, hM2⟩ : ∃ M2, W.length = M2 := ⟨_, rfl⟩
        rw [hM2] at hc5 hl5 hlen ⊢
        have dne : ((M2 : Int) != (m : Int)) = true := by simp; omega
        clear hlen hM2
        go_wp2_with fail
        go_ret
        rw [hs.out]
        exact ⟨rfl, HKm.out⟩
    · have hf := hid (HRF.out (fun h => hj (by have := h.2.2.1; rw [HN2.out] at this; exact this)))
      have hjc := hid (fun (w' : World) (hk : Keeps NoB wa w') => join_bad p n (ls.take N) A c _ w' hm ((HBa.out.kept hk).take N) hn hn2 hj)
      unfold Par.val at hjc
      rw [HN.out, htk.out] at hjc
      clear hm hj
      go_enter Try.func16, Try.ntmps16
      go_wp2_with fail
      go_region_held3 (fun w' => w'.cell? ⟨w.heap.size, 0, none⟩ = some (.int .i64 (N : Int)) ∧ w'.cell? ⟨w.heap.size, 1, none⟩ = some (.int .i64 p.b) ∧ w'.cell? ⟨w.heap.size, 2, none⟩ = some (.int .i64 p.q) ∧ w'.cell? ⟨w.heap.size, 3, none⟩ = some (.int .i64 p.eps) ∧ w'.cell? ⟨w.heap.size, 4, none⟩ = some (.int .i64 p.f)) (first | (exact hSall.out _ HKr.out) | (exact hSall.out _ HKr.out.drew) | go_keep) ((go_at_call 46; refine (hjc.out _ (by first | exact HKr.out | exact HKr.out.drew)).mono ?_; rintro e w4 ⟨rfl, HK4⟩; have HKr := hid (show Keeps NoB wa w4 by first | exact HKr.out.fresh HK4 | exact HKr.out.drew.fresh HK4)))
      go_wp2_with fail
      go_ret
      rw [hf.out]
      exact ⟨rfl, HKa.out.fresh HKr.out⟩
  · have hf := hid (HRF.out (fun h => hm h.1))
    have hjc := hid (fun (w' : World) => join_no p n A N c w' hm)
    unfold Par.val at hjc
    rw [HN.out] at hjc
    clear hm
    go_enter Try.func16, Try.ntmps16
    go_wp2_with fail
    go_region_held3 (fun w' => w'.cell? ⟨w.heap.size, 0, none⟩ = some (.int .i64 (N : Int)) ∧ w'.cell? ⟨w.heap.size, 1, none⟩ = some (.int .i64 p.b) ∧ w'.cell? ⟨w.heap.size, 2, none⟩ = some (.int .i64 p.q) ∧ w'.cell? ⟨w.heap.size, 3, none⟩ = some (.int .i64 p.eps) ∧ w'.cell? ⟨w.heap.size, 4, none⟩ = some (.int .i64 p.f)) (first | (exact hSall.out _ HKr.out) | (exact hSall.out _ HKr.out.drew) | go_keep) ((go_at_call 46; refine (hjc.out _).mono ?_; rintro e w4 ⟨rfl, HK4⟩; have HKr := hid (show Keeps NoB wa w4 by first | exact HKr.out.fresh HK4 | exact HKr.out.drew.fresh HK4)))
    go_wp2_with fail
    go_ret
    rw [hf.out]
    exact ⟨rfl, HKa.out.fresh HKr.out⟩
end Go.Proofs.Ytpkkaicpbihjfaa
/- The first words of the laws of composite blocks: the walk of almonrylaw13.speaks. Conditions: none. -/
set_option linter.unusedVariables false
namespace Go.Proofs.Ytpkkaicpbihjfaa
open Go.RowKit
attribute [local go_sem ↓] Go.wp_at_zero Go.wp_at_succ

theorem RowsIn.ofBlock {R : Nat → Prop} {w : World} {b : Nat} {e : TypeId} {fr : Nat × Nat} (us : List Value) (ls : List (List UInt8)) (h : w.heap[b]? = some (.cells us.toArray e fr)) (hl : us.length = ls.length) (hm : ls.length ≤ 9223372036854775807) (hR : R b)
    (hr : ∀ j u, us[j]? = some u → RowIn R w u (gr ls j)) : RowsIn R w (some ⟨b, 0, none⟩) ls := by
  refine ⟨hm, fun _ => ⟨b, 0, rfl, hR, fun j hj => ?_⟩⟩
  have hj2 : j < us.length := by omega
  refine ⟨us[j], ?_, hr j _ (List.getElem?_eq_getElem hj2)⟩
  simp [World.cell?, h, Nat.zero_add, List.getElem?_eq_getElem hj2]
theorem BytesIn.ofBlock {R : Nat → Prop} {w : World} {b : Nat} {e : TypeId} {fr : Nat × Nat} (l : List UInt8) (h : w.heap[b]? = some (.cells ((enc8 l).map (Value.int .u8)).toArray e fr)) (hl : l.length ≤ 9223372036854775807) (hR : R b) : BytesIn R w (some ⟨b, 0, none⟩) l :=
  ⟨IntsAt.ofBlock (enc8 l) h (by rw [enc8_length]; exact hl), fun b' off e' _ => by injection e' with e'; injection e' with e' _; subst e'; exact hR⟩
def par13 : Par := ⟨2, 1, 1, 900, 2⟩
theorem par13_may : par13.may := by decide
theorem par13_wf : par13.wf := by unfold Par.wf; decide
theorem aux13 : auxN par13 = 1 := by decide
theorem of13 (s i : Nat) : ofN par13 s i = [0] := by
  unfold ofN
  rw [aux13]
  exact someN_all _ 1
theorem has13 (s : Nat) : hasN par13 s 2 = [[0, 1]] := by
  show putAll (putAll (List.replicate (auxN par13).toNat []) 0 (ofN par13 s 0)) 1 (ofN par13 s 1) = _
  rw [of13, of13, aux13]; rfl
theorem comp13 (s : Nat) (obj : List UInt8) : compN par13 s obj = [[gb obj 0], [gb obj 1], [0 ^^^ gb obj 0 ^^^ gb obj 1]] := by
  have e : compN par13 s obj = splitN par13 obj ++ [sumB 1 (pickR (splitN par13 obj) (gl (hasN par13 s 2) 0))] := by
    unfold compN; rw [aux13]; rfl
  rw [e, has13]
  rfl
theorem comp13a : compN par13 5 [6, 3] = [[6], [3], [5]] := by rw [comp13]; decide
theorem right13a : rightB par13 5 2 [[6], [3], [5]] = true := by
  refine rightB_true ⟨par13_may, by decide, ⟨by decide, by decide, by decide, by decide⟩, ?_⟩
  rw [comp13]; decide
theorem right13b : rightB par13 5 2 [[6], [3], [3]] = false := by
  refine rightB_false (fun h => ?_)
  have := h.2.2.2
  rw [comp13] at this
  exact absurd this (by decide)
set_option maxHeartbeats 1000000 in
set_option maxRecDepth 20000 in
theorem speaks13_calls (w : World) :
    Calls Try.prog 11 #[] w fun e w' => e = .returned (.bool true) ∧ Keeps NoB w w' := by
  have hu := Try.underlying23
  have hcc := hid (fun (w' : World) (B : Option Addr) (cB : Nat) (R' : Nat → Prop) (h : BytesIn R' w' B [6, 3]) (hc : 2 ≤ cB) => comp_yes par13 5 [6, 3] B cB R' w' par13_may (by decide) h hc (by decide))
  rw [comp13a] at hcc
  go_enter Try.func11, Try.ntmps11
  go_wp2_with fail
  refine (hcc.out _ (some ⟨w.heap.size + 1, 0, none⟩) 2 (fun _ => True) (BytesIn.ofBlock [6, 3] (by exact heap_alloc2_new w _ _) (by decide) trivial) (by omega)).mono ?_
  rintro e w1 ⟨v1, rfl, hown1, HK1⟩
  have hbA := hid (heap_alloc_new w (.cells #[.int .i64 2, .int .i64 1, .int .i64 1, .int .i64 900, .int .i64 2] 23))
  have hS := hid (fun w' (hk : Keeps NoB (w.alloc (.cells #[.int .i64 2, .int .i64 1, .int .i64 1, .int .i64 900, .int .i64 2] 23)) w') => cells5 (hk.heap hbA.out (fun h => h)))
  have HKb := hid (((Keeps.refl NoB (w.alloc (.cells #[.int .i64 2, .int .i64 1, .int .i64 1, .int .i64 900, .int .i64 2] 23))).alloc _).fresh HK1)
  have HKw := hid (((Keeps.refl NoB w).alloc _).fresh HKb.out)
  obtain ⟨A1, c1, hv1, hc1, hA1, hrows⟩ := hown1.reads
  obtain ⟨g, o, rfl, _, hcl⟩ := hrows.2 (by decide)
  obtain ⟨u0, k0, B0, d0, rfl, hd0, hz0, r0⟩ := hcl 0 (by decide)
  obtain ⟨u1, k1, B1, d1, rfl, hd1, hz1, r1⟩ := hcl 1 (by decide)
  obtain ⟨u2, k2, B2, d2, rfl, hd2, hz2, r2⟩ := hcl 2 (by decide)
  simp only [gr, List.getD_cons_zero, List.getD_cons_succ, List.length_cons, List.length_nil, Nat.zero_add, Nat.add_zero, Nat.reduceAdd] at k0 k1 k2 r0 r1 r2 hv1 hc1 hd0 hd1 hd2
  have f2 := conv_run 25 9 Try.underlying25 Try.underlying9 r2 d2
  simp only [List.length_cons, List.length_nil, Nat.zero_add] at f2
  have deq : ((strOf [5]).toList == [5]) = true := by rw [strOf_toList]; rfl
  subst hv1
  have HB := hid hrows
  have hx0 := hid (show RowIn _ w1 (Value.slice B0 1 d0) [6] from ⟨B0, d0, rfl, hd0, hz0, r0.mono (R' := fun _ => True) (fun _ _ _ => trivial)⟩)
  have hx1 := hid (show RowIn _ w1 (Value.slice B1 1 d1) [3] from ⟨B1, d1, rfl, hd1, hz1, r1.mono (R' := fun _ => True) (fun _ _ _ => trivial)⟩)
  have hA1 := hid hA1
  have HSC := hid (fun w' (hk : Keeps NoB w1 w') => (⟨hS.out _ (HKb.out.fresh hk), hk.cell k0 (fun h => h), hk.cell k1 (fun h => h)⟩ : _ ∧ _ ∧ _))
  clear hown1 hcl hrows r0 r1 r2 hz0 hz1 hz2 HK1
  go_wp2_with fail
  refine (check_in 1 [[6], [3], [5]] [0, 2] _ c1 (some ⟨w1.heap.size, 0, none⟩) 2 _ (w1.alloc (.cells #[.int .i64 0, .int .i64 2] 3)) (by decide) (by decide) (HB.out.kept ((Keeps.refl NoB w1).alloc _)) (by exact IntsAt.ofBlock [0, 2] (heap_alloc_new w1 _) (by decide)) (by unfold inRange; decide) (by decide)).mono ?_
  rintro e w2 ⟨HK2, ⟨h, _⟩ | ⟨_, v2, rfl, hown2⟩⟩
  · exact absurd h (by decide)
  rw [show sumB (Int.toNat 1) (pickR [[6], [3], [5]] [0, 2]) = [3] by decide] at hown2
  obtain ⟨A3, c3, rfl, _, _, hb3⟩ := hown2.reads
  have HKr := hid (((Keeps.refl NoB w1).alloc (.cells #[.int .i64 0, .int .i64 2] 3)).fresh HK2)
  have hcv := hid (fun (w' : World) (hk : Keeps NoB w2 w') => conv_run 25 9 Try.underlying25 Try.underlying9 (hb3.kept hk) c3)
  simp only [List.length_cons, List.length_nil, Nat.zero_add] at hcv
  have deq3 : ((strOf [3]).toList == [3]) = true := by rw [strOf_toList]; rfl
  have hrc1 := hid (fun (w' : World) (hk : Keeps NoB w2 w') => right_calls par13 5 2 [[6], [3], [5]] (some ⟨g, o, none⟩) c1 _ w' par13_wf (by decide) (by decide) (by decide) (HB.out.kept (HKr.out.fresh hk)) hc1 (fun e => by cases e))
  rw [right13a] at hrc1
  have hrc2 := hid (fun (w' : World) (hk : Keeps NoB w2 w') => right_calls par13 5 2 [[6], [3], [3]] (some ⟨w'.heap.size, 0, none⟩) 3 (fun _ => True) (w'.alloc (.cells #[Value.slice B0 1 d0, Value.slice B1 1 d1, Value.slice B1 1 d1] 25)) par13_wf (by decide) (by decide) (by decide)
    (RowsIn.ofBlock [Value.slice B0 1 d0, Value.slice B1 1 d1, Value.slice B1 1 d1] [[6], [3], [3]] (by exact heap_alloc_new w' _) rfl (by decide) trivial (by
      have hk := HKr.out.fresh hk
      have hx0 := RowIn.keeps (R := fun _ => True) hx0.out (hk.alloc (.cells #[Value.slice B0 1 d0, Value.slice B1 1 d1, Value.slice B1 1 d1] 25)) (fun _ _ h => h)
      have hx1 := RowIn.keeps (R := fun _ => True) hx1.out (hk.alloc (.cells #[Value.slice B0 1 d0, Value.slice B1 1 d1, Value.slice B1 1 d1] 25)) (fun _ _ h => h)
      intro j u hu
      rcases j with _ | _ | _ | j
      · obtain rfl := Option.some.inj hu; exact hx0
      · obtain rfl := Option.some.inj hu; exact hx1
      · obtain rfl := Option.some.inj hu; exact hx1
      · exact absurd hu (by simp))) (by decide) (fun e => by cases e))
  rw [right13b] at hrc2
  have tk1 := hid trivial
  have HS2 := hid (fun w' (hk : Keeps NoB w2 w') => (⟨(HSC.out _ (HKr.out.fresh hk)).1.1, (HSC.out _ (HKr.out.fresh hk)).1.2.1, (HSC.out _ (HKr.out.fresh hk)).1.2.2.1, (HSC.out _ (HKr.out.fresh hk)).1.2.2.2.1, (HSC.out _ (HKr.out.fresh hk)).1.2.2.2.2, (HSC.out _ (HKr.out.fresh hk)).2.1, (HSC.out _ (HKr.out.fresh hk)).2.2, hcv.out _ hk⟩ : _ ∧ _ ∧ _ ∧ _ ∧ _ ∧ _ ∧ _ ∧ _))
  have HKw2 := hid (HKw.out.fresh HKr.out)
  clear hown2 k0 k1 k2 f2 deq HKr hb3
  have HKr := hid (Keeps.refl NoB w2)
  go_wp2_with fail
  go_region_held3 (fun w' => w'.cell? ⟨w.heap.size, 0, none⟩ = some (.int .i64 2) ∧ w'.cell? ⟨w.heap.size, 1, none⟩ = some (.int .i64 1) ∧ w'.cell? ⟨w.heap.size, 2, none⟩ = some (.int .i64 1) ∧ w'.cell? ⟨w.heap.size, 3, none⟩ = some (.int .i64 900) ∧ w'.cell? ⟨w.heap.size, 4, none⟩ = some (.int .i64 2) ∧ w'.cell? ⟨g, o, none⟩ = some (Value.slice B0 1 d0) ∧ w'.cell? ⟨g, o + 1, none⟩ = some (Value.slice B1 1 d1) ∧ Sem.run Try.prog (convert 25 9 (Value.slice A3 1 c3)) w' = Result.ok (Value.string (strOf [3])) w') (first | (exact HS2.out _ HKr.out) | (exact HS2.out _ HKr.out.drew) | (exact HS2.out _ (HKr.out.alloc _)) | go_keep) (first
    | (go_at_call 16; clear tk1; refine (hrc1.out _ (by first | exact HKr.out | exact HKr.out.drew)).mono ?_; rintro e w4 ⟨rfl, HK4⟩; have HKr := hid (show Keeps NoB w2 w4 by first | exact HKr.out.fresh HK4 | exact HKr.out.drew.fresh HK4))
    | (go_at_call 16; refine (hrc2.out _ HKr.out).mono ?_; rintro e w5 ⟨rfl, HK5⟩; have HKr := hid (show Keeps NoB w2 w5 from (HKr.out.alloc _).fresh HK5)))
  go_wp2_with fail
  go_ret
  exact ⟨rfl, HKw2.out.fresh HKr.out⟩
end Go.Proofs.Ytpkkaicpbihjfaa
/- The first words of the laws of frames: the walks of almonrylaw14.speaks, small. No condition. -/
set_option linter.unusedVariables false
set_option linter.unusedSimpArgs false
namespace Go.Proofs.Ytpkkaicpbihjfaa
open Go.RowKit
attribute [local go_sem ↓] Go.wp_at_zero Go.wp_at_succ

def par14 : Par := ⟨1, 2, 1, 1000, 2⟩
theorem par14_may : par14.may := by decide
theorem aux14 : auxN par14 = 1 := by decide
theorem of14 (s i : Nat) : ofN par14 s i = [0] := by
  unfold ofN
  rw [aux14]
  exact someN_all _ 1
theorem has14 (s : Nat) : hasN par14 s 1 = [[0]] := by
  show putAll (List.replicate (auxN par14).toNat []) 0 (ofN par14 s 0) = _
  rw [of14, aux14]; rfl
theorem comp14 (s : Nat) : compN par14 s [5, 6] = [[5, 6], [5, 6]] := by
  have e : compN par14 s [5, 6] = splitN par14 [5, 6] ++ [sumB 2 (pickR (splitN par14 [5, 6]) (gl (hasN par14 s 1) 0))] := by
    unfold compN; rw [aux14]; rfl
  rw [e, has14]
  rfl
set_option maxHeartbeats 2000000 in
set_option maxRecDepth 20000 in
theorem speaks14_calls (w : World) : Calls Try.prog 19 #[] w fun e w' => e = .returned (.bool true) ∧ Keeps NoB w w' := by
  have hu := Try.underlying23
  have huh := Try.underlying53
  have hup := Try.underlying55
  have HN := hid (fun (W : World) (B : Option Addr) (cB : Nat) (R' : Nat → Prop) (h : BytesIn R' W B [5, 6]) (hc : 2 ≤ cB) => emitNew_yes par14 7 [5, 6] B cB R' W par14_may (by decide) h hc (by decide))
  have HP := hid (fun (W : World) (c : Nat) (h : EncAt W c par14 7 [5, 6]) => packet_calls c par14 7 [5, 6] 3 W h par14_may (by decide) (by decide))
  have HF := hid (fun (W : World) (c : Nat) (h : EncAt W c par14 7 [5, 6]) => frame_calls c par14 7 [5, 6] 3 W h par14_may (by decide) (by decide) (by decide))
  have HC := hid (fun (W : World) (c : Nat) (h : EncAt W c par14 7 [5, 6]) => composite_calls c par14 7 [5, 6] 1 W h par14_may)
  rw [comp14] at HC
  rw [show cmpN [[5, 6], [5, 6]] 1 = [5, 6] from rfl] at HC
  rw [show 42 + par14.b.toNat = 44 from rfl] at HF
  rw [show par14.b.toNat = 2 from rfl] at HP
  rw [show ([5, 6] : List UInt8).length = 2 from rfl] at HP HN
  have hv : par14.val = .agg #[.int .i64 1, .int .i64 2, .int .i64 1, .int .i64 1000, .int .i64 2] := rfl
  rw [hv] at HN
  have hv2 : (par14.n, par14.b, par14.q, par14.eps, par14.f) = ((1 : Int), (2 : Int), (1 : Int), (1000 : Int), (2 : Int)) := rfl
  simp only [show par14.n = 1 from rfl, show par14.b = 2 from rfl, show par14.q = 1 from rfl, show par14.eps = 1000 from rfl, show par14.f = 2 from rfl] at HP
  clear hv hv2
  go_enter Try.func19, Try.ntmps19
  go_wp2_with fail
  refine (HN.out _ (some ⟨w.heap.size, 0, none⟩) 2 (fun _ => True) (BytesIn.ofBlock [5, 6] (by exact heap_alloc_new w _) (by decide) trivial) (by omega)).mono ?_
  rintro e w1 ⟨c, rfl, he, hk1⟩
  have HE := hid he
  have HK1 := hid (((Keeps.refl NoB w).alloc _).fresh hk1)
  clear he hk1
  go_wp2_with fail
  refine (HP.out _ c HE.out).mono ?_
  rintro e w2 ⟨Ap, cp, rfl, ho2, hk2⟩
  have HE2 := hid (HE.out.kept hk2)
  have HK2 := hid (HK1.out.fresh hk2)
  have HB3 := hid (heap_alloc_new w2 (.cells #[.int .u64 7, .int .i64 1, .int .i64 2, .int .i64 1, .int .i64 1000, .int .i64 2, .int .i64 2, .int .u64 3, .slice Ap 2 cp] 55))
  have HK3 := hid ((Keeps.refl NoB w2).alloc (.cells #[.int .u64 7, .int .i64 1, .int .i64 2, .int .i64 1, .int .i64 1000, .int .i64 2, .int .i64 2, .int .u64 3, .slice Ap 2 cp] 55))
  clear ho2 hk2 HE
  go_wp2_with fail
  refine (HF.out _ c (HE2.out.kept HK3.out)).mono ?_
  rintro e w4 ⟨A4, c4, rfl, ho4, hk4⟩
  have HE4 := hid ((HE2.out.kept HK3.out).kept hk4)
  have HK4 := hid ((HK2.out.fresh HK3.out).fresh hk4)
  clear ho4 hk4
  go_wp2_with fail
  refine (HC.out _ c HE4.out).mono ?_
  rintro e w5 ⟨v5, rfl, ho5, hk5⟩
  obtain ⟨A5, c5, hv5, _, _, hb5⟩ := OwnB.reads ho5
  have f5 := conv_run 25 9 Try.underlying25 Try.underlying9 hb5 c5
  subst hv5
  simp only [List.length_cons, List.length_nil, Nat.zero_add, Nat.reduceAdd] at f5 ⊢
  have HKW := hid (HK4.out.fresh hk5)
  have deq : ((strOf [5, 6]).toList == [5, 6]) = true := by rw [strOf_toList]; rfl
  clear ho5 hk5 hb5
  go_wp2_with fail
  go_ret
  exact ⟨rfl, HKW.out⟩
/-- Is an object one that may be, and no more than is looked at? -/
def smallN (p : Par) (L : Nat) : Bool := mayB p && decide (p.n ≤ 60) && decide (p.b ≤ 60) && decide (p.f ≤ 200) && decide ((L : Int) ≤ p.n * p.b)
theorem smallN_yes {p : Par} {L : Nat} (h : smallN p L = true) : p.may ∧ p.n ≤ 60 ∧ p.b ≤ 60 ∧ p.f ≤ 200 ∧ (L : Int) ≤ p.n * p.b := by
  unfold smallN mayB at h
  simp only [Bool.and_eq_true, decide_eq_true_eq] at h
  obtain ⟨⟨⟨⟨h1, h2⟩, h3⟩, h4⟩, h5⟩ := h
  exact ⟨h1, h2, h3, h4, h5⟩
set_option maxHeartbeats 2000000 in
set_option maxRecDepth 20000 in
theorem small_calls (p : Par) (A : Option Addr) (L c : Nat) (w : World) (hL : L ≤ 9223372036854775807) : Calls Try.prog 26 #[p.val, .slice A L c] w fun e w' => e = .returned (.bool (smallN p L)) ∧ Keeps NoB w w' := by
  have hu := Try.underlying23
  have HCK := hid (may_calls p)
  unfold Par.val at HCK ⊢
  have HB := hid (heap_alloc_new w (.cells #[.int .i64 p.n, .int .i64 p.b, .int .i64 p.q, .int .i64 p.eps, .int .i64 p.f] 23))
  have HK := hid ((Keeps.refl NoB w).alloc (.cells #[.int .i64 p.n, .int .i64 p.b, .int .i64 p.q, .int .i64 p.eps, .int .i64 p.f] 23))
  obtain ⟨wa, hwa⟩ : ∃ wa, w.alloc (.cells #[.int .i64 p.n, .int .i64 p.b, .int .i64 p.q, .int .i64 p.eps, .int .i64 p.f] 23) = wa := ⟨_, rfl⟩
  rw [hwa] at HB HK
  obtain ⟨pb, hpb⟩ : ∃ pb, w.heap.size = pb := ⟨_, rfl⟩
  rw [hpb] at HB
  have HC0 := hid (fun (W : World) (hW : Keeps NoB wa W) => cells5 (hW.heap HB.out (fun h => h)))
  by_cases hm : p.may
  · have hc := hid (mayB_true hm)
    obtain ⟨N, B, e1, e2, e3, e4, e5, e6, e7, e8, hNB, hNB2⟩ := par_sizes hm
    have hr := hid (show smallN p L = (decide (p.n ≤ 60) && decide (p.b ≤ 60) && decide (p.f ≤ 200) && decide ((L : Int) ≤ p.n * p.b)) by unfold smallN; rw [mayB_true hm, Bool.true_and])
    rw [hNB] at hr
    have hNBi : p.n * p.b = ((N * B : Nat) : Int) := hNB
    generalize N * B = M at *
    clear e1 e2 e3 e4 e5 e6 e7 e8 hm hNB
    have m0 : (0 : Int) ≤ (M : Int) := by omega
    have m1 : (M : Int) ≤ 68718428160 := by omega
    have hw1 : wrap64 (M : Int) = (M : Int) := IntWalk.wrap64_in _ ⟨by omega, by omega⟩
    go_enter Try.func26, Try.ntmps26
    obtain ⟨b0, b1, b2, b3, b4⟩ := HC0.out wa (Keeps.refl _ _)
    by_cases h1 : p.n ≤ 60
    · have d1 : decide (p.n ≤ 60) = true := decide_eq_true h1
      by_cases h2 : p.b ≤ 60
      · have d2 : decide (p.b ≤ 60) = true := decide_eq_true h2
        by_cases h3 : p.f ≤ 200
        · have d3 : decide (p.f ≤ 200) = true := decide_eq_true h3
          rw [d1, d2, d3] at hr
          have hr := hid (show smallN p L = decide (L ≤ M) by rw [hr.out, show decide ((L : Int) ≤ (M : Int)) = decide (L ≤ M) from decide_eq_decide.mpr (by omega)]; rfl)
          clear h1 h2 h3
          go_wp2_with fail
          refine (HCK.out _).mono ?_
          rintro e w1 ⟨rfl, HK1⟩
          rw [hc.out]
          have HK1 := hid HK1
          clear b0 b1 b2 b3 b4 hwa hpb
          obtain ⟨b0, b1, b2, b3, b4⟩ := HC0.out w1 HK1.out
          go_wp2_with fail
          go_ret
          exact ⟨by rw [hr.out]; rfl, HK.out.fresh HK1.out⟩
        · have d3 : decide (p.f ≤ 200) = false := decide_eq_false h3
          have hr := hid (show smallN p L = false by rw [hr.out, d3]; simp)
          clear h1 h2 h3
          go_wp2_with fail
          refine (HCK.out _).mono ?_
          rintro e w1 ⟨rfl, HK1⟩
          rw [hc.out]
          have HK1 := hid HK1
          clear b0 b1 b2 b3 b4 hwa hpb
          obtain ⟨b0, b1, b2, b3, b4⟩ := HC0.out w1 HK1.out
          go_wp2_with fail
          go_ret
          exact ⟨by rw [hr.out]; rfl, HK.out.fresh HK1.out⟩
      · have d2 : decide (p.b ≤ 60) = false := decide_eq_false h2
        have hr := hid (show smallN p L = false by rw [hr.out, d2]; simp)
        clear h1 h2
        go_wp2_with fail
        refine (HCK.out _).mono ?_
        rintro e w1 ⟨rfl, HK1⟩
        rw [hc.out]
        have HK1 := hid HK1
        clear b0 b1 b2 b3 b4 hwa hpb
        obtain ⟨b0, b1, b2, b3, b4⟩ := HC0.out w1 HK1.out
        go_wp2_with fail
        go_ret
        exact ⟨by rw [hr.out]; rfl, HK.out.fresh HK1.out⟩
    · have d1 : decide (p.n ≤ 60) = false := decide_eq_false h1
      have hr := hid (show smallN p L = false by rw [hr.out, d1]; simp)
      clear h1
      go_wp2_with fail
      refine (HCK.out _).mono ?_
      rintro e w1 ⟨rfl, HK1⟩
      rw [hc.out]
      have HK1 := hid HK1
      clear b0 b1 b2 b3 b4 hwa hpb
      obtain ⟨b0, b1, b2, b3, b4⟩ := HC0.out w1 HK1.out
      go_wp2_with fail
      go_ret
      exact ⟨by rw [hr.out]; rfl, HK.out.fresh HK1.out⟩
  · have hc := hid (mayB_false hm)
    have hr := hid (show smallN p L = false by unfold smallN; rw [mayB_false hm]; simp)
    clear hm
    go_enter Try.func26, Try.ntmps26
    obtain ⟨b0, b1, b2, b3, b4⟩ := HC0.out wa (Keeps.refl _ _)
    go_wp2_with fail
    refine (HCK.out _).mono ?_
    rintro e w1 ⟨rfl, HK1⟩
    rw [hc.out]
    have HK1 := hid HK1
    clear b0 b1 b2 b3 b4 hwa hpb
    obtain ⟨b0, b1, b2, b3, b4⟩ := HC0.out w1 HK1.out
    go_wp2_with fail
    go_ret
    exact ⟨by rw [hr.out]; rfl, HK.out.fresh HK1.out⟩
end Go.Proofs.Ytpkkaicpbihjfaa
/- The reference's sum, bit by bit, and its numbers as bytes: the walks of almonryref01, almonryref02. Conditions: lengths that memory bears. -/
set_option linter.unusedVariables false
set_option linter.unusedSimpArgs false
namespace Go.Proofs.Ytpkkaicpbihjfaa
open Go.RowKit

theorem bitsL_at (l : List UInt8) : ∀ (q r : Nat) (hq : q < l.length) (hr : r < 8), (bitsL l)[8 * q + r]? = some ((gb l q).toNat.testBit (7 - r)) := by
  induction l with
  | nil => intro q r hq; simp at hq
  | cons x l ih =>
    intro q r hq hr
    have e : bitsL (x :: l) = bitsB x ++ bitsL l := rfl
    have hb : (bitsB x).length = 8 := by simp [bitsB]
    rw [e]
    cases q with
    | zero =>
      rw [List.getElem?_append_left (by omega)]
      simp [bitsB, hr, gb]
    | succ q =>
      rw [List.getElem?_append_right (by omega), hb, show 8 * (q + 1) + r - 8 = 8 * q + r by omega, ih q r (by simpa using hq) hr]
      simp [gb]
def bitI (l : List UInt8) (k : Nat) : Bool := (bitsL l).getD k false
set_option maxHeartbeats 1000000 in
theorem rbit_calls (l : List UInt8) (A : Option Addr) (n c : Nat) (k : Nat) (R : Nat → Prop) (w : World) (hn : l.length = n) (h : BytesIn R w A l) (hk : k < 8 * n) (hm : n ≤ 1073741824) :
    Calls Try.prog 126 #[.slice A n c, .int .i64 (k : Int)] w fun e w' => e = .returned (.int .u64 ((bitI l k).toNat : Int)) ∧ w' = w := by
  obtain ⟨b, o, rfl, _, hc⟩ := h.get (by omega)
  obtain ⟨q, r, hq, hr⟩ : ∃ q r, k = 8 * q + r ∧ r < 8 := ⟨k / 8, k % 8, by omega, by omega⟩
  have c1 := hc q (by omega)
  have hb := bitsL_at l q r (by omega) hr
  obtain ⟨x, hx⟩ : ∃ x, gb l q = x := ⟨_, rfl⟩
  rw [hx] at c1 hb
  have hres := hid (show ((x.toNat : Int) / 2 ^ (7 - r)).tmod 2 = ((bitI l k).toNat : Int) by
    rw [Int.tmod_eq_emod_of_nonneg (Int.ediv_nonneg (by omega) (Int.pow_nonneg (by decide)))]
    have e2 : bitI l k = x.toNat.testBit (7 - r) := by unfold bitI; rw [List.getD_eq_getElem?_getD, hq, hb]; rfl
    rw [e2, Nat.testBit_eq_decide_div_mod_eq]
    have e3 : (x.toNat : Int) / 2 ^ (7 - r) % 2 = ((x.toNat / 2 ^ (7 - r) % 2 : Nat) : Int) := by simp
    rw [e3]
    have : x.toNat / 2 ^ (7 - r) % 2 < 2 := Nat.mod_lt _ (by decide)
    rcases Nat.lt_or_ge (x.toNat / 2 ^ (7 - r) % 2) 1 with h | h
    · rw [decide_eq_false (by omega)]; simp; omega
    · rw [decide_eq_true (by omega)]; simp; omega)
  have e1 : (k : Int) / 8 = (q : Int) := by omega
  have e2 : (k : Int) % 8 = (r : Int) := by omega
  have q0 : (0 : Int) ≤ (q : Int) := by omega
  have q1 : (q : Int) < (n : Int) := by omega
  have r0 : (0 : Int) ≤ (r : Int) := by omega
  have r1 : (r : Int) < 8 := by omega
  have k0 : (0 : Int) ≤ (k : Int) := by omega
  have x0 : (0 : Int) ≤ (x.toNat : Int) := by omega
  have x1 : (x.toNat : Int) ≤ 255 := by have := x.toNat_lt; omega
  clear hq hn h hc hx hb hk
  go_enter Try.func126, Try.ntmps126
  go_wp2_with fail
  go_ret
  exact ⟨congrArg (fun z => Ending.returned (.int .u64 z)) hres.out, rfl⟩
/-- The stream's bits. -/
theorem stream_length (l : List UInt8) : (cStream (bitsL l)).length = 8 * l.length + 32 := by
  unfold cStream; rw [List.length_zipWith]; simp [bitsL_length]
theorem stream_at (l : List UInt8) (k : Nat) (hk : k < 8 * l.length + 32) : (cStream (bitsL l))[k]? = some ((if k < 8 * l.length then bitI l k else false) ^^ decide (k < 32)) := by
  have hl := bitsL_length l
  have h1 : (bitsL l ++ List.replicate 32 false)[k]? = some (if k < 8 * l.length then bitI l k else false) := by
    by_cases h : k < 8 * l.length
    · rw [List.getElem?_append_left (by omega), if_pos h, List.getElem?_eq_getElem (by omega)]
      unfold bitI
      rw [List.getD_eq_getElem?_getD, List.getElem?_eq_getElem (by omega)]; rfl
    · rw [List.getElem?_append_right (by omega), if_neg h, List.getElem?_replicate, if_pos (by omega)]
  have h2 : (List.replicate 32 true ++ List.replicate (bitsL l).length false)[k]? = some (decide (k < 32)) := by
    by_cases h : k < 32
    · rw [List.getElem?_append_left (by simpa using h), List.getElem?_replicate, if_pos h, decide_eq_true h]
    · rw [List.getElem?_append_right (by simpa using h), List.getElem?_replicate, if_pos (by simp; omega), decide_eq_false h]
  unfold cStream
  rw [List.getElem?_zipWith, h1, h2]
def regN (l : List UInt8) (k : Nat) : BitVec 32 := ((cStream (bitsL l)).take k).foldl cG 0#32
theorem regN_succ (l : List UInt8) (k : Nat) (hk : k < 8 * l.length + 32) : regN l (k + 1) = cG (regN l k) ((if k < 8 * l.length then bitI l k else false) ^^ decide (k < 32)) := by
  have h := stream_at l k hk
  have hlt : k < (cStream (bitsL l)).length := by rw [stream_length]; exact hk
  unfold regN
  rw [List.take_succ_eq_append_getElem hlt, List.foldl_append]
  rw [List.getElem?_eq_getElem hlt] at h
  rw [Option.some.inj h]; rfl
theorem regN_full (l : List UInt8) : regN l (8 * l.length + 32) = crcR l := by
  unfold regN
  rw [List.take_of_length_le (by rw [stream_length]; exact Nat.le_refl _)]
  exact crc_one l
/-- A step of the division, as the walk has it: x is the bit. -/
theorem regN_lo (r : BitVec 32) (b : Bool) (h : r.toNat * 2 + b.toNat < 4294967296) : (r.toNat : Int) * 2 + (b.toNat : Int) = ((cG r b).toNat : Int) := by
  rw [cG_nat, if_neg (by omega)]; omega
theorem regN_hi (r : BitVec 32) (b : Bool) (h : 4294967296 ≤ r.toNat * 2 + b.toNat) : bits BinOp.xor IntKind.u64 ((r.toNat : Int) * 2 + (b.toNat : Int)) 4374732215 = ((cG r b).toNat : Int) := by
  have hr := r.isLt
  have hb : b.toNat < 2 := by cases b <;> decide
  have e : (r.toNat : Int) * 2 + (b.toNat : Int) = ((r.toNat * 2 + b.toNat : Nat) : Int) := by omega
  have hx := u64_xor_nat (r.toNat * 2 + b.toNat) 4374732215 (by omega) (by omega)
  have e2 : ((4374732215 : Nat) : Int) = 4374732215 := rfl
  rw [e2] at hx
  rw [cG_nat, if_pos h, e, hx]
set_option maxHeartbeats 4000000 in
set_option maxRecDepth 20000 in
theorem rsum32_calls (l : List UInt8) (A : Option Addr) (n c : Nat) (R : Nat → Prop) (w : World) (hn : l.length = n) (h : BytesIn R w A l) (hm : n ≤ 1073741824) :
    Calls Try.prog 107 #[.slice A n c] w fun e w' => e = .returned (.int .u32 ((crcN l).toNat : Int)) ∧ w' = w := by
  have HBT := hid (fun (k : Nat) (hk : k < 8 * n) => rbit_calls l A n c k R w hn h hk hm)
  have HS := hid (fun (k : Nat) (hk : k < 8 * n + 32) => regN_succ l k (by rw [hn]; exact hk))
  rw [hn] at HS
  have HF := hid (show regN l (8 * n + 32) = crcR l by rw [← hn]; exact regN_full l)
  have H0 := hid (show regN l 0 = 0#32 from rfl)
  clear hn h
  go_enter Try.func107, Try.ntmps107
  go_wp2_with fail
  go_loop [3, 4, 5] (fun v3 v4 _ => ∃ (k : Nat) (r : BitVec 32), k ≤ 8 * n + 32 ∧ v4 = .int .i64 (k : Int) ∧ v3 = .int .u64 (r.toNat : Int) ∧ Hid (r = regN l k)) (fun _ v4 _ => 8 * n + 32 - (intOf v4).toNat)
  case atStart => exact ⟨0, 0#32, Nat.zero_le _, rfl, rfl, hid rfl⟩
  case round =>
    obtain ⟨k, r, hk, rfl, rfl, HR⟩ := hrel
    have r0 : (0 : Int) ≤ (r.toNat : Int) := by omega
    have r1 : (r.toNat : Int) ≤ 4294967295 := by have := r.isLt; omega
    by_cases hlt : k < 8 * n + 32
    · have hs := HS.out k hlt
      rw [← HR.out] at hs
      have dl : decide ((k : Int) < 8 * (n : Int) + 32) = true := decide_eq_true (by omega)
      by_cases h8 : k < 8 * n
      · have d8 : decide ((k : Int) < 8 * (n : Int)) = true := decide_eq_true (by omega)
        rw [if_pos h8] at hs
        have HB := hid (HBT.out k h8)
        generalize bitI l k = bt at *
        have b0 : (0 : Int) ≤ (bt.toNat : Int) := by omega
        have b1 : (bt.toNat : Int) ≤ 1 := by cases bt <;> decide
        by_cases h32 : k < 32
        · have d32 : decide ((k : Int) < 32) = true := decide_eq_true (by omega)
          rw [decide_eq_true h32] at hs
          have hx : (1 : Int) - (bt.toNat : Int) = ((bt ^^ true).toNat : Int) := by cases bt <;> rfl
          obtain ⟨y, hy⟩ : ∃ y, (bt ^^ true) = y := ⟨_, rfl⟩
          rw [hy] at hs hx
          have x0 : (0 : Int) ≤ (y.toNat : Int) := by omega
          have x1 : (y.toNat : Int) ≤ 1 := by cases y <;> decide
          have HX := hid hs
          clear hs h8 h32 hy
          by_cases hhi : 4294967296 ≤ r.toNat * 2 + y.toNat
          · have dh : decide ((4294967296 : Int) ≤ (r.toNat : Int) * 2 + (y.toNat : Int)) = true := decide_eq_true (by omega)
            have hv := hid (show bits BinOp.xor IntKind.u64 ((r.toNat : Int) * 2 + (y.toNat : Int)) 4374732215 = _ from regN_hi r y hhi)
            clear hhi
            go_wp2_with fail
            refine HB.out.mono ?_
            rintro e w' ⟨rfl, rfl⟩
            go_wp2_with fail
            go_round
            case rel => exact ⟨k + 1, cG r y, by omega, by go_num, by rw [hv.out], hid HX.out.symm⟩
            case measure => simp [intOf]; omega
          · have dh : decide ((4294967296 : Int) ≤ (r.toNat : Int) * 2 + (y.toNat : Int)) = false := decide_eq_false (by omega)
            have hv := hid (show (r.toNat : Int) * 2 + (y.toNat : Int) = _ from regN_lo r y (by omega))
            clear hhi
            go_wp2_with fail
            refine HB.out.mono ?_
            rintro e w' ⟨rfl, rfl⟩
            go_wp2_with fail
            go_round
            case rel => exact ⟨k + 1, cG r y, by omega, by go_num, by rw [← hv.out], hid HX.out.symm⟩
            case measure => simp [intOf]; omega
        · have d32 : decide ((k : Int) < 32) = false := decide_eq_false (by omega)
          rw [decide_eq_false h32, Bool.xor_false] at hs
          have HX := hid hs
          clear hs h8 h32
          by_cases hhi : 4294967296 ≤ r.toNat * 2 + bt.toNat
          · have dh : decide ((4294967296 : Int) ≤ (r.toNat : Int) * 2 + (bt.toNat : Int)) = true := decide_eq_true (by omega)
            have hv := hid (show bits BinOp.xor IntKind.u64 ((r.toNat : Int) * 2 + (bt.toNat : Int)) 4374732215 = _ from regN_hi r bt hhi)
            clear hhi
            go_wp2_with fail
            refine HB.out.mono ?_
            rintro e w' ⟨rfl, rfl⟩
            go_wp2_with fail
            go_round
            case rel => exact ⟨k + 1, cG r bt, by omega, by go_num, by rw [hv.out], hid HX.out.symm⟩
            case measure => simp [intOf]; omega
          · have dh : decide ((4294967296 : Int) ≤ (r.toNat : Int) * 2 + (bt.toNat : Int)) = false := decide_eq_false (by omega)
            have hv := hid (show (r.toNat : Int) * 2 + (bt.toNat : Int) = _ from regN_lo r bt (by omega))
            clear hhi
            go_wp2_with fail
            refine HB.out.mono ?_
            rintro e w' ⟨rfl, rfl⟩
            go_wp2_with fail
            go_round
            case rel => exact ⟨k + 1, cG r bt, by omega, by go_num, by rw [← hv.out], hid HX.out.symm⟩
            case measure => simp [intOf]; omega
      · have d8 : decide ((k : Int) < 8 * (n : Int)) = false := decide_eq_false (by omega)
        rw [if_neg h8] at hs
        by_cases h32 : k < 32
        · have d32 : decide ((k : Int) < 32) = true := decide_eq_true (by omega)
          rw [decide_eq_true h32, Bool.false_xor] at hs
          have HX := hid hs
          clear hs h8 h32
          by_cases hhi : 4294967296 ≤ r.toNat * 2 + 1
          · have dh : decide ((4294967296 : Int) ≤ (r.toNat : Int) * 2 + 1) = true := decide_eq_true (by omega)
            have hv := hid (show bits BinOp.xor IntKind.u64 ((r.toNat : Int) * 2 + 1) 4374732215 = _ from by simpa using regN_hi r true (by simpa using hhi))
            clear hhi
            go_wp2_with fail
            go_round
            case rel => exact ⟨k + 1, cG r true, by omega, by go_num, by rw [hv.out], hid HX.out.symm⟩
            case measure => simp [intOf]; omega
          · have dh : decide ((4294967296 : Int) ≤ (r.toNat : Int) * 2 + 1) = false := decide_eq_false (by omega)
            have hv := hid (show (r.toNat : Int) * 2 + 1 = _ from by simpa using regN_lo r true (by simp; omega))
            clear hhi
            go_wp2_with fail
            go_round
            case rel => exact ⟨k + 1, cG r true, by omega, by go_num, by rw [← hv.out], hid HX.out.symm⟩
            case measure => simp [intOf]; omega
        · have d32 : decide ((k : Int) < 32) = false := decide_eq_false (by omega)
          rw [decide_eq_false h32, Bool.false_xor] at hs
          have HX := hid hs
          clear hs h8 h32
          by_cases hhi : 4294967296 ≤ r.toNat * 2 + 0
          · have dh : decide ((4294967296 : Int) ≤ (r.toNat : Int) * 2) = true := decide_eq_true (by omega)
            have hv := hid (show bits BinOp.xor IntKind.u64 ((r.toNat : Int) * 2) 4374732215 = _ from by simpa using regN_hi r false (by simpa using hhi))
            clear hhi
            go_wp2_with fail
            go_round
            case rel => exact ⟨k + 1, cG r false, by omega, by go_num, by rw [hv.out], hid HX.out.symm⟩
            case measure => simp [intOf]; omega
          · have dh : decide ((4294967296 : Int) ≤ (r.toNat : Int) * 2) = false := decide_eq_false (by omega)
            have hv := hid (show (r.toNat : Int) * 2 = _ from by simpa using regN_lo r false (by simp; omega))
            clear hhi
            go_wp2_with fail
            go_round
            case rel => exact ⟨k + 1, cG r false, by omega, by go_num, by rw [← hv.out], hid HX.out.symm⟩
            case measure => simp [intOf]; omega
    · obtain rfl : k = 8 * n + 32 := by omega
      have dl : decide (((8 * n + 32 : Nat) : Int) < 8 * (n : Int) + 32) = false := decide_eq_false (by omega)
      have hres := hid (show (4294967295 : Int) - (r.toNat : Int) = ((crcN l).toNat : Int) by
        rw [HR.out, HF.out]
        unfold crcN
        rw [BitVec.toNat_not]
        have := (crcR l).isLt
        omega)
      clear hlt hk HS HBT
      go_wp2_with fail
      go_ret
      exact ⟨congrArg (fun z => Ending.returned (.int .u32 z)) hres.out, rfl⟩
end Go.Proofs.Ytpkkaicpbihjfaa
/- The reference's sealed bytes, and its numbers as bytes: the walks of almonryref01.Seal, almonryref02.Put. Conditions: lengths that memory bears. -/
set_option linter.unusedVariables false
set_option linter.unusedSimpArgs false
namespace Go.Proofs.Ytpkkaicpbihjfaa
open Go.RowKit

set_option maxHeartbeats 2000000 in
set_option maxRecDepth 20000 in
theorem rseal_calls (l : List UInt8) (A : Option Addr) (n c : Nat) (R : Nat → Prop) (w : World) (hn : l.length = n) (hA : A = none → c = 0) (h : BytesIn R w A l) (hm : n ≤ 1073741824) :
    Calls Try.prog 87 #[.slice A n c] w fun e w' => ∃ v, e = .returned v ∧ OwnB w' w.heap.size v (sealB l) ∧ Keeps NoB w w' := by
  have hui := Try.underlying25
  have H := hid h
  have HN := hid hn
  have HA := hid hA
  have HS := hid (rsum32_calls l A n c R w hn h hm)
  clear h hn hA
  go_enter Try.func87, Try.ntmps87
  go_wp2_with fail
  refine HS.out.mono ?_
  rintro e w1 ⟨rfl, rfl⟩
  have hs0 := (crcN l).isLt
  have HB4 := hid (be4_cells (crcN l).toNat (by omega))
  have HL4 := hid (beN_length 4 (crcN l).toNat)
  have hse := hid (show l ++ beN 4 (crcN l).toNat = sealB l from rfl)
  generalize (crcN l).toNat = s at *
  have s0 : (0 : Int) ≤ (s : Int) := by omega
  have s1 : (s : Int) ≤ 4294967295 := by omega
  have HKA := hid ((Keeps.refl NoB w1).alloc (.cells #[] 5))
  have hOE := hid (OwnInts.empty w1 w1.heap.size .u8 5 (Nat.le_refl _))
  have tk1 : True := trivial
  clear hs0 HS
  go_wp2_with (first
    | (at_builtin; clear tk1; go_must (refine wpList_appB _ rfl _ _ 25 rfl w1.heap.size hui _ [] rfl hOE.out A n c l rfl HN.out HA.out (H.out.kept HKA.out) 0 rfl (by omega) (by simp) ?_); intro v4 w4 hown4 hgr4; have HK4 := hid (HKA.out.grown hgr4 (fun i e hlt => by have e : some i = some w1.heap.size := e; have e := Option.some.inj e; omega)); have HO4 := hid (show OwnB w4 w1.heap.size v4 l from hown4); have hz4 := HK4.out.size; have hb4 := hid (fun i e => OwnInts.base_le HO4.out i e); clear hown4 hgr4)
    | (at_builtin; go_must (refine wpList_appB _ rfl _ _ 25 rfl w1.heap.size hui _ l rfl (OwnInts.alloc HO4.out _) (some ⟨w4.heap.size, 0, none⟩) 4 4 (beN 4 s) rfl HL4.out (fun e => by cases e) (R := fun _ => True) ⟨IntsAt.ofBlock _ (by rw [HB4.out]; exact heap_alloc_new w4 _) (by rw [enc8_length, HL4.out]; omega), fun _ _ _ _ => trivial⟩ n HN.out (by omega) (by simp; omega) ?_); intro v5 w5 hown5 hgr5; have HK5 := hid ((HK4.out.alloc _).grown hgr5 (fun i e hlt => by have := hb4.out i e.symm; omega))))
  go_ret
  exact ⟨_, rfl, by rw [← hse.out]; exact hown5, HK5.out⟩

/-- The bytes of a number that are written behind j rounds. -/
def putTo (size n j : Nat) : List UInt8 := List.replicate (size - j) 0 ++ (beN size n).drop (size - j)
theorem putTo_length (size n j : Nat) (h : j ≤ size) : (putTo size n j).length = size := by unfold putTo; rw [List.length_append, List.length_drop, beN_length, List.length_replicate]; omega
theorem putTo_set (size n j : Nat) (h : j < size) : (putTo size n j).set (size - 1 - j) (UInt8.ofNat (n / 256 ^ j)) = putTo size n (j + 1) := by
  unfold putTo
  have e1 : size - j = (size - 1 - j) + 1 := by omega
  rw [e1, List.replicate_succ', List.append_assoc, List.set_append_right _ _ (by simp), List.length_replicate, Nat.sub_self]
  have hd : (beN size n).drop (size - 1 - j) = (beN size n)[size - 1 - j]'(by rw [beN_length]; omega) :: (beN size n).drop (size - 1 - j + 1) := List.drop_eq_getElem_cons _
  have e2 : size - (j + 1) = size - 1 - j := by omega
  rw [e2, hd]
  have e3 : (beN size n)[size - 1 - j]'(by rw [beN_length]; omega) = UInt8.ofNat (n / 256 ^ j) := by
    simp only [beN, List.getElem_map, List.getElem_range]
    congr 3; omega
  rw [e3]; rfl
theorem putTo_zero (size n : Nat) : putTo size n 0 = List.replicate size 0 := by unfold putTo; rw [Nat.sub_zero, List.drop_eq_nil_of_le (by rw [beN_length]; exact Nat.le_refl _), List.append_nil]
theorem putTo_full (size n : Nat) : putTo size n size = beN size n := by unfold putTo; rw [Nat.sub_self]; rfl
set_option maxHeartbeats 3000000 in
set_option maxRecDepth 20000 in
theorem rput_calls (bs : List UInt8) (A : Option Addr) (m c : Nat) (N size : Nat) (R : Nat → Prop) (w : World) (hn : bs.length = m) (hA : A = none → c = 0) (h : BytesIn R w A bs) (h1 : 1 ≤ size) (h8 : size ≤ 8) (hN : N < 18446744073709551616) (hm : m ≤ 1073741824) :
    Calls Try.prog 86 #[.slice A m c, .int .u64 (N : Int), .int .i64 (size : Int)] w fun e w' => ∃ v, e = .returned v ∧ OwnB w' w.heap.size v (bs ++ beN size N) ∧ Keeps NoB w w' := by
  have hui := Try.underlying25
  obtain ⟨i1, hi', hz0', hz1', hz2'⟩ := info_parts info_u8
  have H := hid h
  have HN := hid hn
  have HA := hid hA
  have s0 : (1 : Int) ≤ (size : Int) := by omega
  have s1 : (size : Int) ≤ 8 := by omega
  have s2 : (0 : Int) ≤ (size : Int) := by omega
  have hp0 := hid (putTo_zero size N)
  have hpl := hid (fun j hj => putTo_length size N j hj)
  have hps := hid (fun j hj => putTo_set size N j hj)
  have hpf := hid (putTo_full size N)
  have HNN := hid hN
  clear h hn hA hN
  go_enter Try.func86, Try.ntmps86
  go_wp2_with (at_make; go_must (refine wpList_make_full _ rfl _ _ _ rfl w.heap.size 5 i1 (.int .u8 0) 1 hui hi' hz0' hz1' .i64 .i64 _ _ size rfl rfl rfl rfl (by rw [hz2']; omega) (by unfold maxLen; omega) (Nat.le_refl _) ?_); intro w3 hown3 hgr3; have HO3 := hid (OwnB.ofMake hown3); have HK3 := hid ((Keeps.refl NoB w).grown hgr3 (fun i e => by cases e)); clear hown3 hgr3)
  go_loopw [1, 8] (fun v1 v8 wr => ∃ (j M : Nat) (i : Int), j ≤ size ∧ -1 ≤ i ∧ i ≤ 7 ∧ v8 = .int .i64 i ∧ v1 = .int .u64 (M : Int) ∧ Hid (i = (size : Int) - 1 - (j : Int)) ∧ Hid (M = N / 256 ^ j) ∧ Hid (OwnB wr w.heap.size (.slice (some ⟨w.heap.size, 0, none⟩) size size) (putTo size N j)) ∧ Hid (Keeps NoB w wr)) (fun _ v8 _ => (intOf v8 + 1).toNat)
  case atStart => exact ⟨0, N, (size : Int) - 1, by omega, by omega, by omega, rfl, rfl, hid (by omega), hid (by simp), by rw [hp0.out]; exact HO3, HK3⟩
  case round =>
    obtain ⟨j, M, i, hj, hi0, hi1, rfl, rfl, HI, HM, HO, HK⟩ := hrel
    have hMl : M < 18446744073709551616 := by rw [HM.out]; exact Nat.lt_of_le_of_lt (Nat.div_le_self _ _) HNN.out
    have m0 : (0 : Int) ≤ (M : Int) := by omega
    have m1 : (M : Int) ≤ 18446744073709551615 := by omega
    clear hMl
    by_cases hlt : 0 ≤ i
    · obtain ⟨k, rfl⟩ : ∃ k : Nat, i = (k : Int) := ⟨i.toNat, by omega⟩
      have hk : size - 1 - j = k := by have := HI.out; omega
      have hj2 : j < size := by have := HI.out; omega
      have hset := hid (hps.out j hj2)
      have hM2 := hid (show M / 256 = N / 256 ^ (j + 1) by rw [HM.out, Nat.div_div_eq_div_mul, Nat.pow_succ])
      obtain ⟨x, hx⟩ : ∃ x, UInt8.ofNat (N / 256 ^ j) = x := ⟨_, rfl⟩
      rw [hk, hx] at hset
      have hxv := hid (show (M : Int) % 256 = (x.toNat : Int) by rw [← hx, HM.out]; simp)
      have hpj := hpl.out j hj
      have hce := OwnInts.cell HO.out (j := k) (by rw [enc8_length, hpj]; omega)
      have hfr := OwnInts.free HO.out k
      have k0 : (0 : Int) ≤ (k : Int) := by omega
      have k1 : (k : Int) < (size : Int) := by omega
      have hsi := hid (show (k : Int) - 1 = (size : Int) - 1 - ((j + 1 : Nat) : Int) by have := HI.out; omega)
      have hki := hid (show k < (enc8 (putTo size N j)).length by rw [enc8_length, hpj]; omega)
      have hkw := hid (Keeps.setCell (p := ⟨w.heap.size, k, none⟩) HK.out (fun h => absurd h (Nat.lt_irrefl _)))
      clear hx hk hpj
      go_wp2_with fail
      go_roundw
      case rel => exact ⟨j + 1, M / 256, (k : Int) - 1, by omega, by omega, by omega, rfl, by first | rfl | (congr 1; omega), hsi, hM2, hid (by
        rw [← hset.out]
        have := OwnInts.set HO.out hki.out (x.toNat : Int)
        rw [enc8_set] at this
        rw [hxv.out]
        exact this), hid (hkw.out _)⟩
      case measure => first | (simp [intOf]; done) | (simp [intOf]; omega)
    · have hjz : j = size := by have := HI.out; omega
      have HO2 := hid (show OwnB wr w.heap.size (.slice (some ⟨w.heap.size, 0, none⟩) size size) (beN size N) by
        have h9 := HO.out
        rw [hjz, hpf.out] at h9
        exact h9)
      clear hjz HO HI HM
      have HKA := hid ((Keeps.refl NoB wr).alloc (.cells #[] 5))
      have HK2 := hid (HK.out.fresh HKA.out)
      have hOE := hid (OwnInts.empty wr w.heap.size .u8 5 HK.out.size)
      have hsz := HK.out.size
      have tk1 : True := trivial
      go_wp2_with (first
        | (at_builtin; clear tk1; go_must (refine wpList_appB _ rfl _ _ 25 rfl w.heap.size hui _ [] rfl hOE.out A m c bs rfl HN.out HA.out (H.out.kept HK2.out) 0 rfl (by omega) (by simp; omega) ?_); intro v4 w4 hown4 hgr4; have HK14 := hid (HKA.out.grown hgr4 (fun i e hlt => by have e : some i = some wr.heap.size := e; have e := Option.some.inj e; omega)); have HK4 := hid (HK.out.fresh HK14.out); have HO4 := hid (show OwnB w4 w.heap.size v4 bs from hown4); have HB4 := hid (OwnB.bytes (OwnInts.kept HO2.out HK14.out)); have hb4 := hid (fun i e => OwnInts.base_le HO4.out i e); have hz4 := HK4.out.size; clear hown4 hgr4)
        | (at_builtin; go_must (refine wpList_appB _ rfl _ _ 25 rfl w.heap.size hui _ bs rfl HO4.out (some ⟨w.heap.size, 0, none⟩) size size (beN size N) rfl (beN_length size N) (fun e => by cases e) HB4.out m HN.out (by omega) hz4 ?_); intro v5 w5 hown5 hgr5; have HK5 := hid (HK4.out.grown hgr5 (fun i e hlt => by have := hb4.out i e.symm; omega))))
      go_ret
      exact ⟨_, rfl, hown5, HK5.out⟩
end Go.Proofs.Ytpkkaicpbihjfaa
/- A packet's frame by the reference: the walks of almonryref06.May, Encode. Conditions: the header may be, the payload is as long as a block. -/
set_option linter.unusedVariables false
set_option linter.unusedSimpArgs false
namespace Go.Proofs.Ytpkkaicpbihjfaa
open Go.RowKit

theorem rput_own (bs : List UInt8) (A : Option Addr) (m c : Nat) (N size base : Nat) (w : World) (ho : OwnB w base (.slice A m c) bs) (hn : bs.length = m) (hb : base ≤ w.heap.size) (h1 : 1 ≤ size) (h8 : size ≤ 8) (hN : N < 18446744073709551616) (hm : m ≤ 1073741824) :
    Calls Try.prog 86 #[.slice A m c, .int .u64 (N : Int), .int .i64 (size : Int)] w fun e w' => ∃ A' c', e = .returned (.slice A' (m + size) c') ∧ OwnB w' base (.slice A' (m + size) c') (bs ++ beN size N) ∧ Keeps NoB w w' := by
  obtain ⟨A2, c2, e, _, hA, hbi⟩ := ho.reads
  injection e with e1 e2 e3
  subst e1 e3
  refine (rput_calls bs A m c N size _ w hn hA hbi h1 h8 hN hm).mono ?_
  rintro e w' ⟨v, rfl, ho', hk⟩
  obtain ⟨A3, c3, e3, _⟩ := ho'.reads
  rw [List.length_append, beN_length, hn] at e3
  subst e3
  exact ⟨A3, c3, rfl, OwnInts.lower ho' hb, hk⟩
set_option maxHeartbeats 1000000 in
set_option maxRecDepth 20000 in
theorem rmay6_calls (h : Hd) (w : World) : Calls Try.prog 85 #[h.val] w fun e w' => e = .returned (.bool (hokB h)) ∧ Keeps NoB w w' := by
  have hu := Try.underlying23
  have huh := Try.underlying53
  have HB := hid (heap_alloc_new w (.cells h.cells 53))
  have HK := hid ((Keeps.refl NoB w).alloc (.cells h.cells 53))
  have HCK := hid (may_calls h.par)
  have hcl : h.cells = #[.int .u64 (h.session : Int), .int .i64 h.par.n, .int .i64 h.par.b, .int .i64 h.par.q, .int .i64 h.par.eps, .int .i64 h.par.f, .int .i64 h.len, .int .u64 (h.id : Int)] := rfl
  unfold Hd.val
  unfold Par.val at HCK
  rw [hcl] at HB HK ⊢
  obtain ⟨wa, hwa⟩ : ∃ wa, w.alloc (.cells #[.int .u64 (h.session : Int), .int .i64 h.par.n, .int .i64 h.par.b, .int .i64 h.par.q, .int .i64 h.par.eps, .int .i64 h.par.f, .int .i64 h.len, .int .u64 (h.id : Int)] 53) = wa := ⟨_, rfl⟩
  rw [hwa] at HB HK
  obtain ⟨pb, hpb⟩ : ∃ pb, w.heap.size = pb := ⟨_, rfl⟩
  rw [hpb] at HB
  have HC0 := hid (fun (W : World) (hW : Keeps NoB wa W) => cells8 (h := h) (hW.heap HB.out (fun h => h)))
  clear hcl HB
  by_cases hm : h.par.may
  · have hc := hid (mayB_true hm)
    obtain ⟨N, B, e1, e2, e3, e4, e5, e6, e7, e8, hNB, hNB2⟩ := par_sizes hm
    have HM := hid hm
    have HNB := hid hNB
    have hNBi : h.par.n * h.par.b = ((N * B : Nat) : Int) := hNB
    generalize N * B = M at *
    clear e1 e2 e3 e4 e5 e6 e7 e8 hm hNB
    by_cases hl : h.len < 0
    · have d0 : decide (0 ≤ h.len) = false := decide_eq_false (by omega)
      have hr := hid (show hokB h = false from hokB_false (fun hk => by have := hk.2.1; omega))
      clear hl hNBi
      go_enter Try.func85, Try.ntmps85
      obtain ⟨b0, b1, b2, b3, b4, b5, b6, b7⟩ := HC0.out wa (Keeps.refl _ _)
      go_wp2_with fail
      refine (HCK.out _).mono ?_
      rintro e w1 ⟨rfl, HK1⟩
      rw [hc.out]
      have HK1 := hid HK1
      clear b0 b1 b2 b3 b4 b5 b6 b7 hwa hpb
      obtain ⟨b0, b1, b2, b3, b4, b5, b6, b7⟩ := HC0.out w1 HK1.out
      go_wp2_with fail
      go_ret
      exact ⟨by rw [hr.out]; rfl, HK.out.fresh HK1.out⟩
    · have d0 : decide (0 ≤ h.len) = true := decide_eq_true (by omega)
      have hr := hid (show hokB h = decide (h.len ≤ (M : Int)) by
        by_cases hx : h.len ≤ (M : Int)
        · rw [hokB_true ⟨HM.out, by omega, by rw [HNB.out]; exact hx⟩, decide_eq_true hx]
        · rw [hokB_false (fun hk => hx (by have := hk.2.2; rw [HNB.out] at this; exact this)), decide_eq_false hx])
      have m0 : (0 : Int) ≤ (M : Int) := by omega
      have m1 : (M : Int) ≤ 68718428160 := by omega
      have hw1 : wrap64 (M : Int) = (M : Int) := IntWalk.wrap64_in _ ⟨by omega, by omega⟩
      clear hl
      go_enter Try.func85, Try.ntmps85
      obtain ⟨b0, b1, b2, b3, b4, b5, b6, b7⟩ := HC0.out wa (Keeps.refl _ _)
      go_wp2_with fail
      refine (HCK.out _).mono ?_
      rintro e w1 ⟨rfl, HK1⟩
      rw [hc.out]
      have HK1 := hid HK1
      clear b0 b1 b2 b3 b4 b5 b6 b7 hwa hpb
      obtain ⟨b0, b1, b2, b3, b4, b5, b6, b7⟩ := HC0.out w1 HK1.out
      go_wp2_with fail
      go_ret
      exact ⟨by rw [hr.out]; rfl, HK.out.fresh HK1.out⟩
  · have hc := hid (mayB_false hm)
    have hr := hid (show hokB h = false from hokB_false (fun hk => hm hk.1))
    clear hm
    go_enter Try.func85, Try.ntmps85
    obtain ⟨b0, b1, b2, b3, b4, b5, b6, b7⟩ := HC0.out wa (Keeps.refl _ _)
    go_wp2_with fail
    refine (HCK.out _).mono ?_
    rintro e w1 ⟨rfl, HK1⟩
    rw [hc.out]
    have HK1 := hid HK1
    clear b0 b1 b2 b3 b4 b5 b6 b7 hwa hpb
    obtain ⟨b0, b1, b2, b3, b4, b5, b6, b7⟩ := HC0.out w1 HK1.out
    go_wp2_with fail
    go_ret
    exact ⟨by rw [hr.out]; rfl, HK.out.fresh HK1.out⟩
set_option maxHeartbeats 8000000 in
set_option maxRecDepth 20000 in
theorem rencode_calls (h : Hd) (pay : List UInt8) (A : Option Addr) (cap : Nat) (R : Nat → Prop) (w : World) (hok : h.ok) (hs : h.session < 18446744073709551616) (hi : h.id < 18446744073709551616) (hp : BytesIn R w A pay) (hl : (pay.length : Int) = h.par.b) (hA : A = none → cap = 0) (hcap : pay.length ≤ cap) :
    Calls Try.prog 52 #[.agg #[.int .u64 (h.session : Int), .int .i64 h.par.n, .int .i64 h.par.b, .int .i64 h.par.q, .int .i64 h.par.eps, .int .i64 h.par.f, .int .i64 h.len, .int .u64 (h.id : Int), .slice A pay.length cap]] w fun e w' => ∃ v, e = .returned (.tuple #[v, .int .i64 0]) ∧ OwnB w' w.heap.size v (encN h pay) ∧ Keeps NoB w w' := by
  have hu := Try.underlying23
  have huh := Try.underlying53
  have hui := Try.underlying25
  have HFC := hid (rmay6_calls h)
  have hfc := hid (hokB_true hok)
  obtain ⟨S, N, B, Q, E, F, L, I, hS, hI, hN, hB, hQ, hE, hF, hL, hh⟩ : ∃ S N B Q E F L I : Nat, S < 18446744073709551616 ∧ I < 18446744073709551616 ∧ N ≤ 1048576 ∧ B ≤ 65535 ∧ Q ≤ 8 ∧ E ≤ 1000 ∧ F ≤ 4096 ∧ L ≤ 68718428160 ∧ h = ⟨S, ⟨(N : Int), (B : Int), (Q : Int), (E : Int), (F : Int)⟩, (L : Int), I⟩ := by
    obtain ⟨N', B', _, _, _, _, _, _, _, _, hNB, hNB2⟩ := par_sizes hok.1
    obtain ⟨⟨a1, a2, a3, a4, a5, a6, a7, a8, a9, a10, _⟩, b1, b2⟩ := hok
    obtain ⟨S, ⟨n, b, q, e, f⟩, len, I⟩ := h
    simp only at *
    rw [hNB] at b2
    exact ⟨S, n.toNat, b.toNat, q.toNat, e.toNat, f.toNat, len.toNat, I, hs, hi, by omega, by omega, by omega, by omega, by omega, by omega, by congr 1 <;> first | omega | (congr 1 <;> omega)⟩
  have HL38 := hid (show (headN h ++ pay).length = 38 + B by rw [List.length_append, headN_length]; rw [hh] at hl; simp only at hl; omega)
  have HEN := hid (show sealB (headN h ++ pay) = encN h pay from rfl)
  have hits := hid (show (((((((((([] ++ beN 2 16716) ++ beN 1 1) ++ beN 8 S) ++ beN 4 N) ++ beN 2 B) ++ beN 1 Q) ++ beN 2 E) ++ beN 2 F) ++ beN 8 L) ++ beN 8 I) = headN h by rw [hh]; simp [headN])
  have hcl : h.cells = #[.int .u64 (S : Int), .int .i64 (N : Int), .int .i64 (B : Int), .int .i64 (Q : Int), .int .i64 (E : Int), .int .i64 (F : Int), .int .i64 (L : Int), .int .u64 (I : Int)] := by rw [hh]; rfl
  have hpl : pay.length = B := by rw [hh] at hl; simp only at hl; omega
  unfold Hd.val at HFC
  rw [hcl] at HFC
  rw [show (#[.int .u64 (h.session : Int), .int .i64 h.par.n, .int .i64 h.par.b, .int .i64 h.par.q, .int .i64 h.par.eps, .int .i64 h.par.f, .int .i64 h.len, .int .u64 (h.id : Int), .slice A pay.length cap] : Array Value) = #[.int .u64 (S : Int), .int .i64 (N : Int), .int .i64 (B : Int), .int .i64 (Q : Int), .int .i64 (E : Int), .int .i64 (F : Int), .int .i64 (L : Int), .int .u64 (I : Int), .slice A B cap] by rw [hh, hpl]]
  rw [hpl] at hcap
  have HPL := hid hpl
  have HP := hid hp
  have HA := hid hA
  have i1 : (0 : Int) ≤ (N : Int) := by omega
  have i2 : (0 : Int) ≤ (B : Int) := by omega
  have i3 : (0 : Int) ≤ (Q : Int) := by omega
  have i4 : (0 : Int) ≤ (E : Int) := by omega
  have i5 : (0 : Int) ≤ (F : Int) := by omega
  have i6 : (0 : Int) ≤ (L : Int) := by omega
  have dB : ((B : Int) != (B : Int)) = false := by simp
  have hwN : IntKind.u64.wrap (N : Int) = (N : Int) := wrap_nat N (by omega)
  have hwB : IntKind.u64.wrap (B : Int) = (B : Int) := wrap_nat B (by omega)
  have hwQ : IntKind.u64.wrap (Q : Int) = (Q : Int) := wrap_nat Q (by omega)
  have hwE : IntKind.u64.wrap (E : Int) = (E : Int) := wrap_nat E (by omega)
  have hwF : IntKind.u64.wrap (F : Int) = (F : Int) := wrap_nat F (by omega)
  have hwL : IntKind.u64.wrap (L : Int) = (L : Int) := wrap_nat L (by omega)
  have HB := hid (heap_alloc_new w (.cells #[.int .u64 (S : Int), .int .i64 (N : Int), .int .i64 (B : Int), .int .i64 (Q : Int), .int .i64 (E : Int), .int .i64 (F : Int), .int .i64 (L : Int), .int .u64 (I : Int), .slice A B cap] 55))
  have HK := hid ((Keeps.refl NoB w).alloc (.cells #[.int .u64 (S : Int), .int .i64 (N : Int), .int .i64 (B : Int), .int .i64 (Q : Int), .int .i64 (E : Int), .int .i64 (F : Int), .int .i64 (L : Int), .int .u64 (I : Int), .slice A B cap] 55))
  obtain ⟨wa, hwa⟩ : ∃ wa, w.alloc (.cells #[.int .u64 (S : Int), .int .i64 (N : Int), .int .i64 (B : Int), .int .i64 (Q : Int), .int .i64 (E : Int), .int .i64 (F : Int), .int .i64 (L : Int), .int .u64 (I : Int), .slice A B cap] 55) = wa := ⟨_, rfl⟩
  rw [hwa] at HB HK
  obtain ⟨pb, hpb⟩ : ∃ pb, w.heap.size = pb := ⟨_, rfl⟩
  have HPB := hid hpb
  rw [hpb] at HB
  have HC0 := hid (fun (W : World) (hW : Keeps NoB wa W) => cells9 (hW.heap HB.out (fun h => h)))
  clear hh hcl hpl hl hp hA hok hs hi
  go_enter Try.func52, Try.ntmps52
  obtain ⟨b0, b1, b2, b3, b4, b5, b6, b7, b8⟩ := HC0.out wa (Keeps.refl _ _)
  go_wp2_with fail
  refine (HFC.out _).mono ?_
  rintro e w1 ⟨rfl, HK1⟩
  rw [hfc.out]
  have HLD1 := hid (fun (W : World) (hW : Keeps NoB w1 W) => HC0.out W (HK1.fresh hW))
  have HK01 := hid (HK.out.fresh HK1)
  have HZ1 := hid (show w.heap.size ≤ w1.heap.size from HK01.out.size)
  obtain ⟨z0, hz0⟩ : ∃ z0, w.heap.size = z0 := ⟨_, rfl⟩
  rw [hz0] at HZ1
  have HZ0 := hid hz0
  clear b0 b1 b2 b3 b4 b5 b6 b7 b8 hwa HC0 HK1 hpb
  obtain ⟨b0, b1, b2, b3, b4, b5, b6, b7, b8⟩ := HLD1.out w1 (Keeps.refl _ _)
  go_wp2_with fail
  refine (rput_own [] none 0 0 16716 2 z0 _ (OwnInts.nil _ _ _ _) rfl HZ1.out (by omega) (by omega) (by omega) (by omega)).mono ?_
  rintro e w2 ⟨A2, c2, rfl, ho2, hk2⟩
  have hz2 := hk2.size
  go_wp2_with fail
  refine (rput_own ([] ++ beN 2 16716) A2 (0 + 2) c2 1 1 z0 _ ho2 (by rw [List.length_append, beN_length]; rfl) (by have := HZ1.out; omega) (by omega) (by omega) (by omega) (by omega)).mono ?_
  rintro e w3 ⟨Ak, ck, rfl, ho3, hk3⟩
  have HKk := hid (hk2.fresh hk3)
  have HOk := hid ho3
  have HLD := HLD1
  have HZk := hid (show z0 ≤ w3.heap.size by have := HZ1.out; have := hk3.size; omega)
  have HLk := hid (show (([] ++ beN 2 16716) ++ beN 1 1).length = 3 by rw [List.length_append, List.length_append, beN_length, beN_length]; rfl)
  clear b0 b1 b2 b3 b4 b5 b6 b7 b8 hk2 hk3 ho2 ho3 hz2 hz0
  go_wp2_with fail
  refine wp_region_list [([], [19], []), ([], [20], []), ([1], [21], [20]), ([1, 2], [22], [20, 21]), ([0, 1, 2, 3], [23], [19, 20, 21, 22]), ([], [24], []), ([5], [25], [24]), ([5, 6], [26], [24, 25]), ([5, 6, 7], [27], [24, 25, 26]), ([5, 6, 7, 8], [28], [24, 25, 26, 27]), ([0, 1, 2, 3, 4, 5, 6, 7, 8, 9], [29], [19, 20, 21, 22, 23, 24, 25, 26, 27, 28]), ([0, 1, 2, 3, 4, 5, 6, 7, 8, 9, 10], [4], [19, 20, 21, 22, 23, 24, 25, 26, 27, 28, 29])] [19, 20, 21, 22, 23, 24, 25, 26, 27, 28, 29, 4] (Keeps NoB) (fun (i : Nat) => ([(fun rs__ U => (rs__.getD 0 undef) = Value.slice Ak 3 ck), (fun rs__ U => (rs__.getD 0 undef) = Value.pointer (some ⟨pb, 0, none⟩)), (fun rs__ U => (rs__.getD 0 undef) = Value.pointer (some ⟨pb, 0, none⟩)), (fun rs__ U => (rs__.getD 0 undef) = Value.int .u64 (S : Int)), (fun rs__ U => ∃ A5 c5, (rs__.getD 0 undef) = Value.slice A5 11 c5 ∧ Hid (OwnB U z0 (Value.slice A5 11 c5) ((([] ++ beN 2 16716) ++ beN 1 1) ++ beN 8 S))), (fun rs__ U => (rs__.getD 0 undef) = Value.pointer (some ⟨pb, 0, none⟩)), (fun rs__ U => (rs__.getD 0 undef) = Value.pointer (some ⟨pb, 1, none⟩)), (fun rs__ U => (rs__.getD 0 undef) = Value.pointer (some ⟨pb, 1, none⟩)), (fun rs__ U => (rs__.getD 0 undef) = Value.int .i64 (N : Int)), (fun rs__ U => (rs__.getD 0 undef) = Value.int .u64 (N : Int)), (fun rs__ U => ∃ A5 c5, (rs__.getD 0 undef) = Value.slice A5 15 c5 ∧ Hid (OwnB U z0 (Value.slice A5 15 c5) (((([] ++ beN 2 16716) ++ beN 1 1) ++ beN 8 S) ++ beN 4 N))), (fun rs__ U => ∃ A5 c5, (rs__.getD 0 undef) = Value.slice A5 15 c5 ∧ Hid (OwnB U z0 (Value.slice A5 15 c5) (((([] ++ beN 2 16716) ++ beN 1 1) ++ beN 8 S) ++ beN 4 N)))] : List (List Value → World → Prop)).getD i (fun _ _ => True)) (by kernel_rfl) (by kernel_rfl) (by kernel_rfl) (fun _ _ _ h1 h2 => h1.fresh h2) (fun _ => Keeps.refl _ _) (RL.cons ?s0 (RL.cons ?s1 (RL.cons ?s2 (RL.cons ?s3 (RL.cons ?s4 (RL.cons ?s5 (RL.cons ?s6 (RL.cons ?s7 (RL.cons ?s8 (RL.cons ?s9 (RL.cons ?s10 (RL.cons ?s11 (RL.nil _ _))))))))))))) ?fin6
  case s0 =>
    intro V wx hE hd
    clear hd
    intro K hK
    simp only [rput, List.foldl_cons, List.foldl_nil, Act.put, List.setIfInBounds_toArray, List.set_cons_zero, List.set_cons_succ]
    go_simp; (with_reducible refine hK.out _ _ ?_ ?_); exact rfl; exact ⟨Keeps.refl _ _, rfl⟩
  case s1 =>
    intro V wx hE hd
    clear hd
    intro K hK
    simp only [rput, List.foldl_cons, List.foldl_nil, Act.put, List.setIfInBounds_toArray, List.set_cons_zero, List.set_cons_succ]
    go_simp; (with_reducible refine hK.out _ _ ?_ ?_); exact rfl; exact ⟨Keeps.refl _ _, rfl⟩
  case s2 =>
    intro V wx hE hd
    obtain ⟨u1, hb1, hu1, p1⟩ : ∃ U, Keeps NoB w3.drew U ∧ Keeps NoB U wx ∧ ((V 20) = Value.pointer (some ⟨pb, 0, none⟩)) := hd 1 (by decide)
    clear hd
    clear hb1 hu1
    intro K hK
    simp only [rput, List.foldl_cons, List.foldl_nil, Act.put, List.setIfInBounds_toArray, List.set_cons_zero, List.set_cons_succ, p1]
    go_simp; (with_reducible refine hK.out _ _ ?_ ?_); exact rfl; exact ⟨Keeps.refl _ _, rfl⟩
  case s3 =>
    intro V wx hE hd
    obtain ⟨u2, hb2, hu2, p2⟩ : ∃ U, Keeps NoB w3.drew U ∧ Keeps NoB U wx ∧ ((V 21) = Value.pointer (some ⟨pb, 0, none⟩)) := hd 2 (by decide)
    clear hd
    clear hb2 hu2
    intro K hK
    simp only [rput, List.foldl_cons, List.foldl_nil, Act.put, List.setIfInBounds_toArray, List.set_cons_zero, List.set_cons_succ, p2]
    obtain ⟨l0, l1, l2, l3, l4, l5, l6, l7, l8⟩ := HLD.out wx ((HKk.out.drew).fresh hE); go_simp; (with_reducible refine hK.out _ _ ?_ ?_); exact rfl; exact ⟨Keeps.refl _ _, rfl⟩
  case s4 =>
    intro V wx hE hd
    obtain ⟨u0, hb0, hu0, p0⟩ : ∃ U, Keeps NoB w3.drew U ∧ Keeps NoB U wx ∧ ((V 19) = Value.slice Ak 3 ck) := hd 0 (by decide)
    obtain ⟨u3, hb3, hu3, p3⟩ : ∃ U, Keeps NoB w3.drew U ∧ Keeps NoB U wx ∧ ((V 22) = Value.int .u64 (S : Int)) := hd 3 (by decide)
    clear hd
    clear hb0 hu0
    clear hb3 hu3
    intro K hK
    simp only [rput, List.foldl_cons, List.foldl_nil, Act.put, List.setIfInBounds_toArray, List.set_cons_zero, List.set_cons_succ, p0, p3]
    go_simp; refine (rput_own (([] ++ beN 2 16716) ++ beN 1 1) Ak 3 ck S 8 z0 wx (OwnInts.kept HOk.out ((Keeps.refl NoB w3).drew.fresh hE)) HLk.out (by have := HZk.out; have := ((Keeps.refl NoB w3).drew.fresh hE).size; omega) (by omega) (by omega) (by omega) (by omega)).mono ?_; rintro e w5 ⟨A5, c5, rfl, ho5, hk5⟩; (with_reducible refine hK.out _ _ ?_ ?_); exact rfl; exact ⟨hk5, A5, c5, rfl, hid ho5⟩
  case s5 =>
    intro V wx hE hd
    clear hd
    intro K hK
    simp only [rput, List.foldl_cons, List.foldl_nil, Act.put, List.setIfInBounds_toArray, List.set_cons_zero, List.set_cons_succ]
    go_simp; (with_reducible refine hK.out _ _ ?_ ?_); exact rfl; exact ⟨Keeps.refl _ _, rfl⟩
  case s6 =>
    intro V wx hE hd
    obtain ⟨u5, hb5, hu5, p5⟩ : ∃ U, Keeps NoB w3.drew U ∧ Keeps NoB U wx ∧ ((V 24) = Value.pointer (some ⟨pb, 0, none⟩)) := hd 5 (by decide)
    clear hd
    clear hb5 hu5
    intro K hK
    simp only [rput, List.foldl_cons, List.foldl_nil, Act.put, List.setIfInBounds_toArray, List.set_cons_zero, List.set_cons_succ, p5]
    go_simp; (with_reducible refine hK.out _ _ ?_ ?_); exact rfl; exact ⟨Keeps.refl _ _, rfl⟩
  case s7 =>
    intro V wx hE hd
    obtain ⟨u6, hb6, hu6, p6⟩ : ∃ U, Keeps NoB w3.drew U ∧ Keeps NoB U wx ∧ ((V 25) = Value.pointer (some ⟨pb, 1, none⟩)) := hd 6 (by decide)
    clear hd
    clear hb6 hu6
    intro K hK
    simp only [rput, List.foldl_cons, List.foldl_nil, Act.put, List.setIfInBounds_toArray, List.set_cons_zero, List.set_cons_succ, p6]
    go_simp; (with_reducible refine hK.out _ _ ?_ ?_); exact rfl; exact ⟨Keeps.refl _ _, rfl⟩
  case s8 =>
    intro V wx hE hd
    obtain ⟨u7, hb7, hu7, p7⟩ : ∃ U, Keeps NoB w3.drew U ∧ Keeps NoB U wx ∧ ((V 26) = Value.pointer (some ⟨pb, 1, none⟩)) := hd 7 (by decide)
    clear hd
    clear hb7 hu7
    intro K hK
    simp only [rput, List.foldl_cons, List.foldl_nil, Act.put, List.setIfInBounds_toArray, List.set_cons_zero, List.set_cons_succ, p7]
    obtain ⟨l0, l1, l2, l3, l4, l5, l6, l7, l8⟩ := HLD.out wx ((HKk.out.drew).fresh hE); go_simp; (with_reducible refine hK.out _ _ ?_ ?_); exact rfl; exact ⟨Keeps.refl _ _, rfl⟩
  case s9 =>
    intro V wx hE hd
    obtain ⟨u8, hb8, hu8, p8⟩ : ∃ U, Keeps NoB w3.drew U ∧ Keeps NoB U wx ∧ ((V 27) = Value.int .i64 (N : Int)) := hd 8 (by decide)
    clear hd
    clear hb8 hu8
    intro K hK
    simp only [rput, List.foldl_cons, List.foldl_nil, Act.put, List.setIfInBounds_toArray, List.set_cons_zero, List.set_cons_succ, p8]
    go_simp; (with_reducible refine hK.out _ _ ?_ ?_); exact rfl; exact ⟨Keeps.refl _ _, rfl⟩
  case s10 =>
    intro V wx hE hd
    obtain ⟨u4, hb4, hu4, p4⟩ : ∃ U, Keeps NoB w3.drew U ∧ Keeps NoB U wx ∧ (∃ A5 c5, (V 23) = Value.slice A5 11 c5 ∧ Hid (OwnB U z0 (Value.slice A5 11 c5) ((([] ++ beN 2 16716) ++ beN 1 1) ++ beN 8 S))) := hd 4 (by decide)
    obtain ⟨u9, hb9, hu9, p9⟩ : ∃ U, Keeps NoB w3.drew U ∧ Keeps NoB U wx ∧ ((V 28) = Value.int .u64 (N : Int)) := hd 9 (by decide)
    clear hd
    clear hb9 hu9
    obtain ⟨A5, c5, q4, ho5⟩ := p4
    intro K hK
    simp only [rput, List.foldl_cons, List.foldl_nil, Act.put, List.setIfInBounds_toArray, List.set_cons_zero, List.set_cons_succ, p9, q4]
    go_simp; refine (rput_own ((([] ++ beN 2 16716) ++ beN 1 1) ++ beN 8 S) A5 11 c5 N 4 z0 wx (OwnInts.kept ho5.out hu4) (by rw [List.length_append, HLk.out, beN_length]) (by have := HZk.out; have := ((Keeps.refl NoB w3).drew.fresh hE).size; omega) (by omega) (by omega) (by omega) (by omega)).mono ?_; rintro e w6 ⟨A6, c6, rfl, ho6, hk6⟩; (with_reducible refine hK.out _ _ ?_ ?_); exact rfl; exact ⟨hk6, A6, c6, rfl, hid ho6⟩
  case s11 =>
    intro V wx hE hd
    obtain ⟨u10, hb10, hu10, p10⟩ : ∃ U, Keeps NoB w3.drew U ∧ Keeps NoB U wx ∧ (∃ A5 c5, (V 29) = Value.slice A5 15 c5 ∧ Hid (OwnB U z0 (Value.slice A5 15 c5) (((([] ++ beN 2 16716) ++ beN 1 1) ++ beN 8 S) ++ beN 4 N))) := hd 10 (by decide)
    clear hd
    obtain ⟨A5, c5, q10, ho5⟩ := p10
    intro K hK
    simp only [rput, List.foldl_cons, List.foldl_nil, Act.put, List.setIfInBounds_toArray, List.set_cons_zero, List.set_cons_succ, q10]
    go_simp; (with_reducible refine hK.out _ _ ?_ ?_); exact rfl; exact ⟨Keeps.refl _ _, A5, c5, rfl, hid (OwnInts.kept ho5.out hu10)⟩
  case fin6 =>
    intro V wz hE hd
    obtain ⟨u11, hb11, hu11, p11⟩ : ∃ U, Keeps NoB w3.drew U ∧ Keeps NoB U wz ∧ (∃ A5 c5, (V 4) = Value.slice A5 15 c5 ∧ Hid (OwnB U z0 (Value.slice A5 15 c5) (((([] ++ beN 2 16716) ++ beN 1 1) ++ beN 8 S) ++ beN 4 N))) := hd 11 (by decide)
    clear hd
    obtain ⟨A5, c5, q11, ho5⟩ := p11
    simp only [rput, List.foldl_cons, List.foldl_nil, Act.put, List.setIfInBounds_toArray, List.set_cons_zero, List.set_cons_succ, q11]
    have HKk := hid (HKk.out.drew.fresh hE)
    have HOk := hid (OwnInts.kept ho5.out hu11)
    have HZk := hid (show z0 ≤ wz.heap.size by have := HZk.out; have := ((Keeps.refl NoB w3).drew.fresh hE).size; omega)
    have HLk := hid (show ((((([] ++ beN 2 16716) ++ beN 1 1) ++ beN 8 S) ++ beN 4 N)).length = 15 by rw [List.length_append, List.length_append, HLk.out, beN_length, beN_length])
    clear hE ho5 hu11 hb11 q11
    generalize wz = w16 at *
    generalize A5 = Ak at *
    generalize c5 = ck at *
    go_wp2_with fail
    refine wp_region_list [([], [30], []), ([], [31], []), ([1], [32], [31]), ([1, 2], [33], [31, 32]), ([1, 2, 3], [34], [31, 32, 33]), ([1, 2, 3, 4], [35], [31, 32, 33, 34]), ([0, 1, 2, 3, 4, 5], [36], [30, 31, 32, 33, 34, 35]), ([], [37], []), ([7], [38], [37]), ([7, 8], [39], [37, 38]), ([7, 8, 9], [40], [37, 38, 39]), ([7, 8, 9, 10], [41], [37, 38, 39, 40]), ([0, 1, 2, 3, 4, 5, 6, 7, 8, 9, 10, 11], [42], [30, 31, 32, 33, 34, 35, 36, 37, 38, 39, 40, 41]), ([0, 1, 2, 3, 4, 5, 6, 7, 8, 9, 10, 11, 12], [4], [30, 31, 32, 33, 34, 35, 36, 37, 38, 39, 40, 41, 42])] [30, 31, 32, 33, 34, 35, 36, 37, 38, 39, 40, 41, 42, 4] (Keeps NoB) (fun (i : Nat) => ([(fun rs__ U => (rs__.getD 0 undef) = Value.slice Ak 15 ck), (fun rs__ U => (rs__.getD 0 undef) = Value.pointer (some ⟨pb, 0, none⟩)), (fun rs__ U => (rs__.getD 0 undef) = Value.pointer (some ⟨pb, 1, none⟩)), (fun rs__ U => (rs__.getD 0 undef) = Value.pointer (some ⟨pb, 2, none⟩)), (fun rs__ U => (rs__.getD 0 undef) = Value.int .i64 (B : Int)), (fun rs__ U => (rs__.getD 0 undef) = Value.int .u64 (B : Int)), (fun rs__ U => ∃ A5 c5, (rs__.getD 0 undef) = Value.slice A5 17 c5 ∧ Hid (OwnB U z0 (Value.slice A5 17 c5) ((((([] ++ beN 2 16716) ++ beN 1 1) ++ beN 8 S) ++ beN 4 N) ++ beN 2 B))), (fun rs__ U => (rs__.getD 0 undef) = Value.pointer (some ⟨pb, 0, none⟩)), (fun rs__ U => (rs__.getD 0 undef) = Value.pointer (some ⟨pb, 1, none⟩)), (fun rs__ U => (rs__.getD 0 undef) = Value.pointer (some ⟨pb, 3, none⟩)), (fun rs__ U => (rs__.getD 0 undef) = Value.int .i64 (Q : Int)), (fun rs__ U => (rs__.getD 0 undef) = Value.int .u64 (Q : Int)), (fun rs__ U => ∃ A5 c5, (rs__.getD 0 undef) = Value.slice A5 18 c5 ∧ Hid (OwnB U z0 (Value.slice A5 18 c5) (((((([] ++ beN 2 16716) ++ beN 1 1) ++ beN 8 S) ++ beN 4 N) ++ beN 2 B) ++ beN 1 Q))), (fun rs__ U => ∃ A5 c5, (rs__.getD 0 undef) = Value.slice A5 18 c5 ∧ Hid (OwnB U z0 (Value.slice A5 18 c5) (((((([] ++ beN 2 16716) ++ beN 1 1) ++ beN 8 S) ++ beN 4 N) ++ beN 2 B) ++ beN 1 Q)))] : List (List Value → World → Prop)).getD i (fun _ _ => True)) (by kernel_rfl) (by kernel_rfl) (by kernel_rfl) (fun _ _ _ h1 h2 => h1.fresh h2) (fun _ => Keeps.refl _ _) (RL.cons ?s0 (RL.cons ?s1 (RL.cons ?s2 (RL.cons ?s3 (RL.cons ?s4 (RL.cons ?s5 (RL.cons ?s6 (RL.cons ?s7 (RL.cons ?s8 (RL.cons ?s9 (RL.cons ?s10 (RL.cons ?s11 (RL.cons ?s12 (RL.cons ?s13 (RL.nil _ _))))))))))))))) ?fin7
    case s0 =>
      intro V wx hE hd
      clear hd
      intro K hK
      simp only [rput, List.foldl_cons, List.foldl_nil, Act.put, List.setIfInBounds_toArray, List.set_cons_zero, List.set_cons_succ]
      go_simp; (with_reducible refine hK.out _ _ ?_ ?_); exact rfl; exact ⟨Keeps.refl _ _, rfl⟩
    case s1 =>
      intro V wx hE hd
      clear hd
      intro K hK
      simp only [rput, List.foldl_cons, List.foldl_nil, Act.put, List.setIfInBounds_toArray, List.set_cons_zero, List.set_cons_succ]
      go_simp; (with_reducible refine hK.out _ _ ?_ ?_); exact rfl; exact ⟨Keeps.refl _ _, rfl⟩
    case s2 =>
      intro V wx hE hd
      obtain ⟨u1, hb1, hu1, p1⟩ : ∃ U, Keeps NoB w16.drew U ∧ Keeps NoB U wx ∧ ((V 31) = Value.pointer (some ⟨pb, 0, none⟩)) := hd 1 (by decide)
      clear hd
      clear hb1 hu1
      intro K hK
      simp only [rput, List.foldl_cons, List.foldl_nil, Act.put, List.setIfInBounds_toArray, List.set_cons_zero, List.set_cons_succ, p1]
      go_simp; (with_reducible refine hK.out _ _ ?_ ?_); exact rfl; exact ⟨Keeps.refl _ _, rfl⟩
    case s3 =>
      intro V wx hE hd
      obtain ⟨u2, hb2, hu2, p2⟩ : ∃ U, Keeps NoB w16.drew U ∧ Keeps NoB U wx ∧ ((V 32) = Value.pointer (some ⟨pb, 1, none⟩)) := hd 2 (by decide)
      clear hd
      clear hb2 hu2
      intro K hK
      simp only [rput, List.foldl_cons, List.foldl_nil, Act.put, List.setIfInBounds_toArray, List.set_cons_zero, List.set_cons_succ, p2]
      go_simp; (with_reducible refine hK.out _ _ ?_ ?_); exact rfl; exact ⟨Keeps.refl _ _, rfl⟩
    case s4 =>
      intro V wx hE hd
      obtain ⟨u3, hb3, hu3, p3⟩ : ∃ U, Keeps NoB w16.drew U ∧ Keeps NoB U wx ∧ ((V 33) = Value.pointer (some ⟨pb, 2, none⟩)) := hd 3 (by decide)
      clear hd
      clear hb3 hu3
      intro K hK
      simp only [rput, List.foldl_cons, List.foldl_nil, Act.put, List.setIfInBounds_toArray, List.set_cons_zero, List.set_cons_succ, p3]
      obtain ⟨l0, l1, l2, l3, l4, l5, l6, l7, l8⟩ := HLD.out wx ((HKk.out.drew).fresh hE); go_simp; (with_reducible refine hK.out _ _ ?_ ?_); exact rfl; exact ⟨Keeps.refl _ _, rfl⟩
    case s5 =>
      intro V wx hE hd
      obtain ⟨u4, hb4, hu4, p4⟩ : ∃ U, Keeps NoB w16.drew U ∧ Keeps NoB U wx ∧ ((V 34) = Value.int .i64 (B : Int)) := hd 4 (by decide)
      clear hd
      clear hb4 hu4
      intro K hK
      simp only [rput, List.foldl_cons, List.foldl_nil, Act.put, List.setIfInBounds_toArray, List.set_cons_zero, List.set_cons_succ, p4]
      go_simp; (with_reducible refine hK.out _ _ ?_ ?_); exact rfl; exact ⟨Keeps.refl _ _, rfl⟩
    case s6 =>
      intro V wx hE hd
      obtain ⟨u0, hb0, hu0, p0⟩ : ∃ U, Keeps NoB w16.drew U ∧ Keeps NoB U wx ∧ ((V 30) = Value.slice Ak 15 ck) := hd 0 (by decide)
      obtain ⟨u5, hb5, hu5, p5⟩ : ∃ U, Keeps NoB w16.drew U ∧ Keeps NoB U wx ∧ ((V 35) = Value.int .u64 (B : Int)) := hd 5 (by decide)
      clear hd
      clear hb0 hu0
      clear hb5 hu5
      intro K hK
      simp only [rput, List.foldl_cons, List.foldl_nil, Act.put, List.setIfInBounds_toArray, List.set_cons_zero, List.set_cons_succ, p0, p5]
      go_simp; refine (rput_own (((([] ++ beN 2 16716) ++ beN 1 1) ++ beN 8 S) ++ beN 4 N) Ak 15 ck B 2 z0 wx (OwnInts.kept HOk.out ((Keeps.refl NoB w16).drew.fresh hE)) HLk.out (by have := HZk.out; have := ((Keeps.refl NoB w16).drew.fresh hE).size; omega) (by omega) (by omega) (by omega) (by omega)).mono ?_; rintro e w5 ⟨A5, c5, rfl, ho5, hk5⟩; (with_reducible refine hK.out _ _ ?_ ?_); exact rfl; exact ⟨hk5, A5, c5, rfl, hid ho5⟩
    case s7 =>
      intro V wx hE hd
      clear hd
      intro K hK
      simp only [rput, List.foldl_cons, List.foldl_nil, Act.put, List.setIfInBounds_toArray, List.set_cons_zero, List.set_cons_succ]
      go_simp; (with_reducible refine hK.out _ _ ?_ ?_); exact rfl; exact ⟨Keeps.refl _ _, rfl⟩
    case s8 =>
      intro V wx hE hd
      obtain ⟨u7, hb7, hu7, p7⟩ : ∃ U, Keeps NoB w16.drew U ∧ Keeps NoB U wx ∧ ((V 37) = Value.pointer (some ⟨pb, 0, none⟩)) := hd 7 (by decide)
      clear hd
      clear hb7 hu7
      intro K hK
      simp only [rput, List.foldl_cons, List.foldl_nil, Act.put, List.setIfInBounds_toArray, List.set_cons_zero, List.set_cons_succ, p7]
      go_simp; (with_reducible refine hK.out _ _ ?_ ?_); exact rfl; exact ⟨Keeps.refl _ _, rfl⟩
    case s9 =>
      intro V wx hE hd
      obtain ⟨u8, hb8, hu8, p8⟩ : ∃ U, Keeps NoB w16.drew U ∧ Keeps NoB U wx ∧ ((V 38) = Value.pointer (some ⟨pb, 1, none⟩)) := hd 8 (by decide)
      clear hd
      clear hb8 hu8
      intro K hK
      simp only [rput, List.foldl_cons, List.foldl_nil, Act.put, List.setIfInBounds_toArray, List.set_cons_zero, List.set_cons_succ, p8]
      go_simp; (with_reducible refine hK.out _ _ ?_ ?_); exact rfl; exact ⟨Keeps.refl _ _, rfl⟩
    case s10 =>
      intro V wx hE hd
      obtain ⟨u9, hb9, hu9, p9⟩ : ∃ U, Keeps NoB w16.drew U ∧ Keeps NoB U wx ∧ ((V 39) = Value.pointer (some ⟨pb, 3, none⟩)) := hd 9 (by decide)
      clear hd
      clear hb9 hu9
      intro K hK
      simp only [rput, List.foldl_cons, List.foldl_nil, Act.put, List.setIfInBounds_toArray, List.set_cons_zero, List.set_cons_succ, p9]
      obtain ⟨l0, l1, l2, l3, l4, l5, l6, l7, l8⟩ := HLD.out wx ((HKk.out.drew).fresh hE); go_simp; (with_reducible refine hK.out _ _ ?_ ?_); exact rfl; exact ⟨Keeps.refl _ _, rfl⟩
    case s11 =>
      intro V wx hE hd
      obtain ⟨u10, hb10, hu10, p10⟩ : ∃ U, Keeps NoB w16.drew U ∧ Keeps NoB U wx ∧ ((V 40) = Value.int .i64 (Q : Int)) := hd 10 (by decide)
      clear hd
      clear hb10 hu10
      intro K hK
      simp only [rput, List.foldl_cons, List.foldl_nil, Act.put, List.setIfInBounds_toArray, List.set_cons_zero, List.set_cons_succ, p10]
      go_simp; (with_reducible refine hK.out _ _ ?_ ?_); exact rfl; exact ⟨Keeps.refl _ _, rfl⟩
    case s12 =>
      intro V wx hE hd
      obtain ⟨u6, hb6, hu6, p6⟩ : ∃ U, Keeps NoB w16.drew U ∧ Keeps NoB U wx ∧ (∃ A5 c5, (V 36) = Value.slice A5 17 c5 ∧ Hid (OwnB U z0 (Value.slice A5 17 c5) ((((([] ++ beN 2 16716) ++ beN 1 1) ++ beN 8 S) ++ beN 4 N) ++ beN 2 B))) := hd 6 (by decide)
      obtain ⟨u11, hb11, hu11, p11⟩ : ∃ U, Keeps NoB w16.drew U ∧ Keeps NoB U wx ∧ ((V 41) = Value.int .u64 (Q : Int)) := hd 11 (by decide)
      clear hd
      clear hb11 hu11
      obtain ⟨A5, c5, q6, ho5⟩ := p6
      intro K hK
      simp only [rput, List.foldl_cons, List.foldl_nil, Act.put, List.setIfInBounds_toArray, List.set_cons_zero, List.set_cons_succ, p11, q6]
      go_simp; refine (rput_own ((((([] ++ beN 2 16716) ++ beN 1 1) ++ beN 8 S) ++ beN 4 N) ++ beN 2 B) A5 17 c5 Q 1 z0 wx (OwnInts.kept ho5.out hu6) (by rw [List.length_append, HLk.out, beN_length]) (by have := HZk.out; have := ((Keeps.refl NoB w16).drew.fresh hE).size; omega) (by omega) (by omega) (by omega) (by omega)).mono ?_; rintro e w6 ⟨A6, c6, rfl, ho6, hk6⟩; (with_reducible refine hK.out _ _ ?_ ?_); exact rfl; exact ⟨hk6, A6, c6, rfl, hid ho6⟩
    case s13 =>
      intro V wx hE hd
      obtain ⟨u12, hb12, hu12, p12⟩ : ∃ U, Keeps NoB w16.drew U ∧ Keeps NoB U wx ∧ (∃ A5 c5, (V 42) = Value.slice A5 18 c5 ∧ Hid (OwnB U z0 (Value.slice A5 18 c5) (((((([] ++ beN 2 16716) ++ beN 1 1) ++ beN 8 S) ++ beN 4 N) ++ beN 2 B) ++ beN 1 Q))) := hd 12 (by decide)
      clear hd
      obtain ⟨A5, c5, q12, ho5⟩ := p12
      intro K hK
      simp only [rput, List.foldl_cons, List.foldl_nil, Act.put, List.setIfInBounds_toArray, List.set_cons_zero, List.set_cons_succ, q12]
      go_simp; (with_reducible refine hK.out _ _ ?_ ?_); exact rfl; exact ⟨Keeps.refl _ _, A5, c5, rfl, hid (OwnInts.kept ho5.out hu12)⟩
    case fin7 =>
      intro V wz hE hd
      obtain ⟨u13, hb13, hu13, p13⟩ : ∃ U, Keeps NoB w16.drew U ∧ Keeps NoB U wz ∧ (∃ A5 c5, (V 4) = Value.slice A5 18 c5 ∧ Hid (OwnB U z0 (Value.slice A5 18 c5) (((((([] ++ beN 2 16716) ++ beN 1 1) ++ beN 8 S) ++ beN 4 N) ++ beN 2 B) ++ beN 1 Q))) := hd 13 (by decide)
      clear hd
      obtain ⟨A5, c5, q13, ho5⟩ := p13
      simp only [rput, List.foldl_cons, List.foldl_nil, Act.put, List.setIfInBounds_toArray, List.set_cons_zero, List.set_cons_succ, q13]
      have HKk := hid (HKk.out.drew.fresh hE)
      have HOk := hid (OwnInts.kept ho5.out hu13)
      have HZk := hid (show z0 ≤ wz.heap.size by have := HZk.out; have := ((Keeps.refl NoB w16).drew.fresh hE).size; omega)
      have HLk := hid (show ((((((([] ++ beN 2 16716) ++ beN 1 1) ++ beN 8 S) ++ beN 4 N) ++ beN 2 B) ++ beN 1 Q)).length = 18 by rw [List.length_append, List.length_append, HLk.out, beN_length, beN_length])
      clear hE ho5 hu13 hb13 q13
      generalize wz = w17 at *
      generalize A5 = Ak at *
      generalize c5 = ck at *
      go_wp2_with fail
      refine wp_region_list [([], [43], []), ([], [44], []), ([1], [45], [44]), ([1, 2], [46], [44, 45]), ([1, 2, 3], [47], [44, 45, 46]), ([1, 2, 3, 4], [48], [44, 45, 46, 47]), ([0, 1, 2, 3, 4, 5], [49], [43, 44, 45, 46, 47, 48]), ([], [50], []), ([7], [51], [50]), ([7, 8], [52], [50, 51]), ([7, 8, 9], [53], [50, 51, 52]), ([7, 8, 9, 10], [54], [50, 51, 52, 53]), ([0, 1, 2, 3, 4, 5, 6, 7, 8, 9, 10, 11], [55], [43, 44, 45, 46, 47, 48, 49, 50, 51, 52, 53, 54]), ([0, 1, 2, 3, 4, 5, 6, 7, 8, 9, 10, 11, 12], [4], [43, 44, 45, 46, 47, 48, 49, 50, 51, 52, 53, 54, 55])] [43, 44, 45, 46, 47, 48, 49, 50, 51, 52, 53, 54, 55, 4] (Keeps NoB) (fun (i : Nat) => ([(fun rs__ U => (rs__.getD 0 undef) = Value.slice Ak 18 ck), (fun rs__ U => (rs__.getD 0 undef) = Value.pointer (some ⟨pb, 0, none⟩)), (fun rs__ U => (rs__.getD 0 undef) = Value.pointer (some ⟨pb, 1, none⟩)), (fun rs__ U => (rs__.getD 0 undef) = Value.pointer (some ⟨pb, 4, none⟩)), (fun rs__ U => (rs__.getD 0 undef) = Value.int .i64 (E : Int)), (fun rs__ U => (rs__.getD 0 undef) = Value.int .u64 (E : Int)), (fun rs__ U => ∃ A5 c5, (rs__.getD 0 undef) = Value.slice A5 20 c5 ∧ Hid (OwnB U z0 (Value.slice A5 20 c5) ((((((([] ++ beN 2 16716) ++ beN 1 1) ++ beN 8 S) ++ beN 4 N) ++ beN 2 B) ++ beN 1 Q) ++ beN 2 E))), (fun rs__ U => (rs__.getD 0 undef) = Value.pointer (some ⟨pb, 0, none⟩)), (fun rs__ U => (rs__.getD 0 undef) = Value.pointer (some ⟨pb, 1, none⟩)), (fun rs__ U => (rs__.getD 0 undef) = Value.pointer (some ⟨pb, 5, none⟩)), (fun rs__ U => (rs__.getD 0 undef) = Value.int .i64 (F : Int)), (fun rs__ U => (rs__.getD 0 undef) = Value.int .u64 (F : Int)), (fun rs__ U => ∃ A5 c5, (rs__.getD 0 undef) = Value.slice A5 22 c5 ∧ Hid (OwnB U z0 (Value.slice A5 22 c5) (((((((([] ++ beN 2 16716) ++ beN 1 1) ++ beN 8 S) ++ beN 4 N) ++ beN 2 B) ++ beN 1 Q) ++ beN 2 E) ++ beN 2 F))), (fun rs__ U => ∃ A5 c5, (rs__.getD 0 undef) = Value.slice A5 22 c5 ∧ Hid (OwnB U z0 (Value.slice A5 22 c5) (((((((([] ++ beN 2 16716) ++ beN 1 1) ++ beN 8 S) ++ beN 4 N) ++ beN 2 B) ++ beN 1 Q) ++ beN 2 E) ++ beN 2 F)))] : List (List Value → World → Prop)).getD i (fun _ _ => True)) (by kernel_rfl) (by kernel_rfl) (by kernel_rfl) (fun _ _ _ h1 h2 => h1.fresh h2) (fun _ => Keeps.refl _ _) (RL.cons ?s0 (RL.cons ?s1 (RL.cons ?s2 (RL.cons ?s3 (RL.cons ?s4 (RL.cons ?s5 (RL.cons ?s6 (RL.cons ?s7 (RL.cons ?s8 (RL.cons ?s9 (RL.cons ?s10 (RL.cons ?s11 (RL.cons ?s12 (RL.cons ?s13 (RL.nil _ _))))))))))))))) ?fin8
      case s0 =>
        intro V wx hE hd
        clear hd
        intro K hK
        simp only [rput, List.foldl_cons, List.foldl_nil, Act.put, List.setIfInBounds_toArray, List.set_cons_zero, List.set_cons_succ]
        go_simp; (with_reducible refine hK.out _ _ ?_ ?_); exact rfl; exact ⟨Keeps.refl _ _, rfl⟩
      case s1 =>
        intro V wx hE hd
        clear hd
        intro K hK
        simp only [rput, List.foldl_cons, List.foldl_nil, Act.put, List.setIfInBounds_toArray, List.set_cons_zero, List.set_cons_succ]
        go_simp; (with_reducible refine hK.out _ _ ?_ ?_); exact rfl; exact ⟨Keeps.refl _ _, rfl⟩
      case s2 =>
        intro V wx hE hd
        obtain ⟨u1, hb1, hu1, p1⟩ : ∃ U, Keeps NoB w17.drew U ∧ Keeps NoB U wx ∧ ((V 44) = Value.pointer (some ⟨pb, 0, none⟩)) := hd 1 (by decide)
        clear hd
        clear hb1 hu1
        intro K hK
        simp only [rput, List.foldl_cons, List.foldl_nil, Act.put, List.setIfInBounds_toArray, List.set_cons_zero, List.set_cons_succ, p1]
        go_simp; (with_reducible refine hK.out _ _ ?_ ?_); exact rfl; exact ⟨Keeps.refl _ _, rfl⟩
      case s3 =>
        intro V wx hE hd
        obtain ⟨u2, hb2, hu2, p2⟩ : ∃ U, Keeps NoB w17.drew U ∧ Keeps NoB U wx ∧ ((V 45) = Value.pointer (some ⟨pb, 1, none⟩)) := hd 2 (by decide)
        clear hd
        clear hb2 hu2
        intro K hK
        simp only [rput, List.foldl_cons, List.foldl_nil, Act.put, List.setIfInBounds_toArray, List.set_cons_zero, List.set_cons_succ, p2]
        go_simp; (with_reducible refine hK.out _ _ ?_ ?_); exact rfl; exact ⟨Keeps.refl _ _, rfl⟩
      case s4 =>
        intro V wx hE hd
        obtain ⟨u3, hb3, hu3, p3⟩ : ∃ U, Keeps NoB w17.drew U ∧ Keeps NoB U wx ∧ ((V 46) = Value.pointer (some ⟨pb, 4, none⟩)) := hd 3 (by decide)
        clear hd
        clear hb3 hu3
        intro K hK
        simp only [rput, List.foldl_cons, List.foldl_nil, Act.put, List.setIfInBounds_toArray, List.set_cons_zero, List.set_cons_succ, p3]
        obtain ⟨l0, l1, l2, l3, l4, l5, l6, l7, l8⟩ := HLD.out wx ((HKk.out.drew).fresh hE); go_simp; (with_reducible refine hK.out _ _ ?_ ?_); exact rfl; exact ⟨Keeps.refl _ _, rfl⟩
      case s5 =>
        intro V wx hE hd
        obtain ⟨u4, hb4, hu4, p4⟩ : ∃ U, Keeps NoB w17.drew U ∧ Keeps NoB U wx ∧ ((V 47) = Value.int .i64 (E : Int)) := hd 4 (by decide)
        clear hd
        clear hb4 hu4
        intro K hK
        simp only [rput, List.foldl_cons, List.foldl_nil, Act.put, List.setIfInBounds_toArray, List.set_cons_zero, List.set_cons_succ, p4]
        go_simp; (with_reducible refine hK.out _ _ ?_ ?_); exact rfl; exact ⟨Keeps.refl _ _, rfl⟩
      case s6 =>
        intro V wx hE hd
        obtain ⟨u0, hb0, hu0, p0⟩ : ∃ U, Keeps NoB w17.drew U ∧ Keeps NoB U wx ∧ ((V 43) = Value.slice Ak 18 ck) := hd 0 (by decide)
        obtain ⟨u5, hb5, hu5, p5⟩ : ∃ U, Keeps NoB w17.drew U ∧ Keeps NoB U wx ∧ ((V 48) = Value.int .u64 (E : Int)) := hd 5 (by decide)
        clear hd
        clear hb0 hu0
        clear hb5 hu5
        intro K hK
        simp only [rput, List.foldl_cons, List.foldl_nil, Act.put, List.setIfInBounds_toArray, List.set_cons_zero, List.set_cons_succ, p0, p5]
        go_simp; refine (rput_own (((((([] ++ beN 2 16716) ++ beN 1 1) ++ beN 8 S) ++ beN 4 N) ++ beN 2 B) ++ beN 1 Q) Ak 18 ck E 2 z0 wx (OwnInts.kept HOk.out ((Keeps.refl NoB w17).drew.fresh hE)) HLk.out (by have := HZk.out; have := ((Keeps.refl NoB w17).drew.fresh hE).size; omega) (by omega) (by omega) (by omega) (by omega)).mono ?_; rintro e w5 ⟨A5, c5, rfl, ho5, hk5⟩; (with_reducible refine hK.out _ _ ?_ ?_); exact rfl; exact ⟨hk5, A5, c5, rfl, hid ho5⟩
      case s7 =>
        intro V wx hE hd
        clear hd
        intro K hK
        simp only [rput, List.foldl_cons, List.foldl_nil, Act.put, List.setIfInBounds_toArray, List.set_cons_zero, List.set_cons_succ]
        go_simp; (with_reducible refine hK.out _ _ ?_ ?_); exact rfl; exact ⟨Keeps.refl _ _, rfl⟩
      case s8 =>
        intro V wx hE hd
        obtain ⟨u7, hb7, hu7, p7⟩ : ∃ U, Keeps NoB w17.drew U ∧ Keeps NoB U wx ∧ ((V 50) = Value.pointer (some ⟨pb, 0, none⟩)) := hd 7 (by decide)
        clear hd
        clear hb7 hu7
        intro K hK
        simp only [rput, List.foldl_cons, List.foldl_nil, Act.put, List.setIfInBounds_toArray, List.set_cons_zero, List.set_cons_succ, p7]
        go_simp; (with_reducible refine hK.out _ _ ?_ ?_); exact rfl; exact ⟨Keeps.refl _ _, rfl⟩
      case s9 =>
        intro V wx hE hd
        obtain ⟨u8, hb8, hu8, p8⟩ : ∃ U, Keeps NoB w17.drew U ∧ Keeps NoB U wx ∧ ((V 51) = Value.pointer (some ⟨pb, 1, none⟩)) := hd 8 (by decide)
        clear hd
        clear hb8 hu8
        intro K hK
        simp only [rput, List.foldl_cons, List.foldl_nil, Act.put, List.setIfInBounds_toArray, List.set_cons_zero, List.set_cons_succ, p8]
        go_simp; (with_reducible refine hK.out _ _ ?_ ?_); exact rfl; exact ⟨Keeps.refl _ _, rfl⟩
      case s10 =>
        intro V wx hE hd
        obtain ⟨u9, hb9, hu9, p9⟩ : ∃ U, Keeps NoB w17.drew U ∧ Keeps NoB U wx ∧ ((V 52) = Value.pointer (some ⟨pb, 5, none⟩)) := hd 9 (by decide)
        clear hd
        clear hb9 hu9
        intro K hK
        simp only [rput, List.foldl_cons, List.foldl_nil, Act.put, List.setIfInBounds_toArray, List.set_cons_zero, List.set_cons_succ, p9]
        obtain ⟨l0, l1, l2, l3, l4, l5, l6, l7, l8⟩ := HLD.out wx ((HKk.out.drew).fresh hE); go_simp; (with_reducible refine hK.out _ _ ?_ ?_); exact rfl; exact ⟨Keeps.refl _ _, rfl⟩
      case s11 =>
        intro V wx hE hd
        obtain ⟨u10, hb10, hu10, p10⟩ : ∃ U, Keeps NoB w17.drew U ∧ Keeps NoB U wx ∧ ((V 53) = Value.int .i64 (F : Int)) := hd 10 (by decide)
        clear hd
        clear hb10 hu10
        intro K hK
        simp only [rput, List.foldl_cons, List.foldl_nil, Act.put, List.setIfInBounds_toArray, List.set_cons_zero, List.set_cons_succ, p10]
        go_simp; (with_reducible refine hK.out _ _ ?_ ?_); exact rfl; exact ⟨Keeps.refl _ _, rfl⟩
      case s12 =>
        intro V wx hE hd
        obtain ⟨u6, hb6, hu6, p6⟩ : ∃ U, Keeps NoB w17.drew U ∧ Keeps NoB U wx ∧ (∃ A5 c5, (V 49) = Value.slice A5 20 c5 ∧ Hid (OwnB U z0 (Value.slice A5 20 c5) ((((((([] ++ beN 2 16716) ++ beN 1 1) ++ beN 8 S) ++ beN 4 N) ++ beN 2 B) ++ beN 1 Q) ++ beN 2 E))) := hd 6 (by decide)
        obtain ⟨u11, hb11, hu11, p11⟩ : ∃ U, Keeps NoB w17.drew U ∧ Keeps NoB U wx ∧ ((V 54) = Value.int .u64 (F : Int)) := hd 11 (by decide)
        clear hd
        clear hb11 hu11
        obtain ⟨A5, c5, q6, ho5⟩ := p6
        intro K hK
        simp only [rput, List.foldl_cons, List.foldl_nil, Act.put, List.setIfInBounds_toArray, List.set_cons_zero, List.set_cons_succ, p11, q6]
        go_simp; refine (rput_own ((((((([] ++ beN 2 16716) ++ beN 1 1) ++ beN 8 S) ++ beN 4 N) ++ beN 2 B) ++ beN 1 Q) ++ beN 2 E) A5 20 c5 F 2 z0 wx (OwnInts.kept ho5.out hu6) (by rw [List.length_append, HLk.out, beN_length]) (by have := HZk.out; have := ((Keeps.refl NoB w17).drew.fresh hE).size; omega) (by omega) (by omega) (by omega) (by omega)).mono ?_; rintro e w6 ⟨A6, c6, rfl, ho6, hk6⟩; (with_reducible refine hK.out _ _ ?_ ?_); exact rfl; exact ⟨hk6, A6, c6, rfl, hid ho6⟩
      case s13 =>
        intro V wx hE hd
        obtain ⟨u12, hb12, hu12, p12⟩ : ∃ U, Keeps NoB w17.drew U ∧ Keeps NoB U wx ∧ (∃ A5 c5, (V 55) = Value.slice A5 22 c5 ∧ Hid (OwnB U z0 (Value.slice A5 22 c5) (((((((([] ++ beN 2 16716) ++ beN 1 1) ++ beN 8 S) ++ beN 4 N) ++ beN 2 B) ++ beN 1 Q) ++ beN 2 E) ++ beN 2 F))) := hd 12 (by decide)
        clear hd
        obtain ⟨A5, c5, q12, ho5⟩ := p12
        intro K hK
        simp only [rput, List.foldl_cons, List.foldl_nil, Act.put, List.setIfInBounds_toArray, List.set_cons_zero, List.set_cons_succ, q12]
        go_simp; (with_reducible refine hK.out _ _ ?_ ?_); exact rfl; exact ⟨Keeps.refl _ _, A5, c5, rfl, hid (OwnInts.kept ho5.out hu12)⟩
      case fin8 =>
        intro V wz hE hd
        obtain ⟨u13, hb13, hu13, p13⟩ : ∃ U, Keeps NoB w17.drew U ∧ Keeps NoB U wz ∧ (∃ A5 c5, (V 4) = Value.slice A5 22 c5 ∧ Hid (OwnB U z0 (Value.slice A5 22 c5) (((((((([] ++ beN 2 16716) ++ beN 1 1) ++ beN 8 S) ++ beN 4 N) ++ beN 2 B) ++ beN 1 Q) ++ beN 2 E) ++ beN 2 F))) := hd 13 (by decide)
        clear hd
        obtain ⟨A5, c5, q13, ho5⟩ := p13
        simp only [rput, List.foldl_cons, List.foldl_nil, Act.put, List.setIfInBounds_toArray, List.set_cons_zero, List.set_cons_succ, q13]
        have HKk := hid (HKk.out.drew.fresh hE)
        have HOk := hid (OwnInts.kept ho5.out hu13)
        have HZk := hid (show z0 ≤ wz.heap.size by have := HZk.out; have := ((Keeps.refl NoB w17).drew.fresh hE).size; omega)
        have HLk := hid (show ((((((((([] ++ beN 2 16716) ++ beN 1 1) ++ beN 8 S) ++ beN 4 N) ++ beN 2 B) ++ beN 1 Q) ++ beN 2 E) ++ beN 2 F)).length = 22 by rw [List.length_append, List.length_append, HLk.out, beN_length, beN_length])
        clear hE ho5 hu13 hb13 q13
        generalize wz = w18 at *
        generalize A5 = Ak at *
        generalize c5 = ck at *
        go_wp2_with fail
        refine wp_region_list [([], [56], []), ([], [57], []), ([1], [58], [57]), ([1, 2], [59], [57, 58]), ([1, 2, 3], [60], [57, 58, 59]), ([0, 1, 2, 3, 4], [61], [56, 57, 58, 59, 60]), ([], [62], []), ([6], [63], [62]), ([6, 7], [64], [62, 63]), ([0, 1, 2, 3, 4, 5, 6, 7, 8], [65], [56, 57, 58, 59, 60, 61, 62, 63, 64]), ([0, 1, 2, 3, 4, 5, 6, 7, 8, 9], [4], [56, 57, 58, 59, 60, 61, 62, 63, 64, 65])] [56, 57, 58, 59, 60, 61, 62, 63, 64, 65, 4] (Keeps NoB) (fun (i : Nat) => ([(fun rs__ U => (rs__.getD 0 undef) = Value.slice Ak 22 ck), (fun rs__ U => (rs__.getD 0 undef) = Value.pointer (some ⟨pb, 0, none⟩)), (fun rs__ U => (rs__.getD 0 undef) = Value.pointer (some ⟨pb, 6, none⟩)), (fun rs__ U => (rs__.getD 0 undef) = Value.int .i64 (L : Int)), (fun rs__ U => (rs__.getD 0 undef) = Value.int .u64 (L : Int)), (fun rs__ U => ∃ A5 c5, (rs__.getD 0 undef) = Value.slice A5 30 c5 ∧ Hid (OwnB U z0 (Value.slice A5 30 c5) ((((((((([] ++ beN 2 16716) ++ beN 1 1) ++ beN 8 S) ++ beN 4 N) ++ beN 2 B) ++ beN 1 Q) ++ beN 2 E) ++ beN 2 F) ++ beN 8 L))), (fun rs__ U => (rs__.getD 0 undef) = Value.pointer (some ⟨pb, 0, none⟩)), (fun rs__ U => (rs__.getD 0 undef) = Value.pointer (some ⟨pb, 7, none⟩)), (fun rs__ U => (rs__.getD 0 undef) = Value.int .u64 (I : Int)), (fun rs__ U => ∃ A5 c5, (rs__.getD 0 undef) = Value.slice A5 38 c5 ∧ Hid (OwnB U z0 (Value.slice A5 38 c5) (((((((((([] ++ beN 2 16716) ++ beN 1 1) ++ beN 8 S) ++ beN 4 N) ++ beN 2 B) ++ beN 1 Q) ++ beN 2 E) ++ beN 2 F) ++ beN 8 L) ++ beN 8 I))), (fun rs__ U => ∃ A5 c5, (rs__.getD 0 undef) = Value.slice A5 38 c5 ∧ Hid (OwnB U z0 (Value.slice A5 38 c5) (((((((((([] ++ beN 2 16716) ++ beN 1 1) ++ beN 8 S) ++ beN 4 N) ++ beN 2 B) ++ beN 1 Q) ++ beN 2 E) ++ beN 2 F) ++ beN 8 L) ++ beN 8 I)))] : List (List Value → World → Prop)).getD i (fun _ _ => True)) (by kernel_rfl) (by kernel_rfl) (by kernel_rfl) (fun _ _ _ h1 h2 => h1.fresh h2) (fun _ => Keeps.refl _ _) (RL.cons ?s0 (RL.cons ?s1 (RL.cons ?s2 (RL.cons ?s3 (RL.cons ?s4 (RL.cons ?s5 (RL.cons ?s6 (RL.cons ?s7 (RL.cons ?s8 (RL.cons ?s9 (RL.cons ?s10 (RL.nil _ _)))))))))))) ?fin9
        case s0 =>
          intro V wx hE hd
          clear hd
          intro K hK
          simp only [rput, List.foldl_cons, List.foldl_nil, Act.put, List.setIfInBounds_toArray, List.set_cons_zero, List.set_cons_succ]
          go_simp; (with_reducible refine hK.out _ _ ?_ ?_); exact rfl; exact ⟨Keeps.refl _ _, rfl⟩
        case s1 =>
          intro V wx hE hd
          clear hd
          intro K hK
          simp only [rput, List.foldl_cons, List.foldl_nil, Act.put, List.setIfInBounds_toArray, List.set_cons_zero, List.set_cons_succ]
          go_simp; (with_reducible refine hK.out _ _ ?_ ?_); exact rfl; exact ⟨Keeps.refl _ _, rfl⟩
        case s2 =>
          intro V wx hE hd
          obtain ⟨u1, hb1, hu1, p1⟩ : ∃ U, Keeps NoB w18.drew U ∧ Keeps NoB U wx ∧ ((V 57) = Value.pointer (some ⟨pb, 0, none⟩)) := hd 1 (by decide)
          clear hd
          clear hb1 hu1
          intro K hK
          simp only [rput, List.foldl_cons, List.foldl_nil, Act.put, List.setIfInBounds_toArray, List.set_cons_zero, List.set_cons_succ, p1]
          go_simp; (with_reducible refine hK.out _ _ ?_ ?_); exact rfl; exact ⟨Keeps.refl _ _, rfl⟩
        case s3 =>
          intro V wx hE hd
          obtain ⟨u2, hb2, hu2, p2⟩ : ∃ U, Keeps NoB w18.drew U ∧ Keeps NoB U wx ∧ ((V 58) = Value.pointer (some ⟨pb, 6, none⟩)) := hd 2 (by decide)
          clear hd
          clear hb2 hu2
          intro K hK
          simp only [rput, List.foldl_cons, List.foldl_nil, Act.put, List.setIfInBounds_toArray, List.set_cons_zero, List.set_cons_succ, p2]
          obtain ⟨l0, l1, l2, l3, l4, l5, l6, l7, l8⟩ := HLD.out wx ((HKk.out.drew).fresh hE); go_simp; (with_reducible refine hK.out _ _ ?_ ?_); exact rfl; exact ⟨Keeps.refl _ _, rfl⟩
        case s4 =>
          intro V wx hE hd
          obtain ⟨u3, hb3, hu3, p3⟩ : ∃ U, Keeps NoB w18.drew U ∧ Keeps NoB U wx ∧ ((V 59) = Value.int .i64 (L : Int)) := hd 3 (by decide)
          clear hd
          clear hb3 hu3
          intro K hK
          simp only [rput, List.foldl_cons, List.foldl_nil, Act.put, List.setIfInBounds_toArray, List.set_cons_zero, List.set_cons_succ, p3]
          go_simp; (with_reducible refine hK.out _ _ ?_ ?_); exact rfl; exact ⟨Keeps.refl _ _, rfl⟩
        case s5 =>
          intro V wx hE hd
          obtain ⟨u0, hb0, hu0, p0⟩ : ∃ U, Keeps NoB w18.drew U ∧ Keeps NoB U wx ∧ ((V 56) = Value.slice Ak 22 ck) := hd 0 (by decide)
          obtain ⟨u4, hb4, hu4, p4⟩ : ∃ U, Keeps NoB w18.drew U ∧ Keeps NoB U wx ∧ ((V 60) = Value.int .u64 (L : Int)) := hd 4 (by decide)
          clear hd
          clear hb0 hu0
          clear hb4 hu4
          intro K hK
          simp only [rput, List.foldl_cons, List.foldl_nil, Act.put, List.setIfInBounds_toArray, List.set_cons_zero, List.set_cons_succ, p0, p4]
          go_simp; refine (rput_own (((((((([] ++ beN 2 16716) ++ beN 1 1) ++ beN 8 S) ++ beN 4 N) ++ beN 2 B) ++ beN 1 Q) ++ beN 2 E) ++ beN 2 F) Ak 22 ck L 8 z0 wx (OwnInts.kept HOk.out ((Keeps.refl NoB w18).drew.fresh hE)) HLk.out (by have := HZk.out; have := ((Keeps.refl NoB w18).drew.fresh hE).size; omega) (by omega) (by omega) (by omega) (by omega)).mono ?_; rintro e w5 ⟨A5, c5, rfl, ho5, hk5⟩; (with_reducible refine hK.out _ _ ?_ ?_); exact rfl; exact ⟨hk5, A5, c5, rfl, hid ho5⟩
        case s6 =>
          intro V wx hE hd
          clear hd
          intro K hK
          simp only [rput, List.foldl_cons, List.foldl_nil, Act.put, List.setIfInBounds_toArray, List.set_cons_zero, List.set_cons_succ]
          go_simp; (with_reducible refine hK.out _ _ ?_ ?_); exact rfl; exact ⟨Keeps.refl _ _, rfl⟩
        case s7 =>
          intro V wx hE hd
          obtain ⟨u6, hb6, hu6, p6⟩ : ∃ U, Keeps NoB w18.drew U ∧ Keeps NoB U wx ∧ ((V 62) = Value.pointer (some ⟨pb, 0, none⟩)) := hd 6 (by decide)
          clear hd
          clear hb6 hu6
          intro K hK
          simp only [rput, List.foldl_cons, List.foldl_nil, Act.put, List.setIfInBounds_toArray, List.set_cons_zero, List.set_cons_succ, p6]
          go_simp; (with_reducible refine hK.out _ _ ?_ ?_); exact rfl; exact ⟨Keeps.refl _ _, rfl⟩
        case s8 =>
          intro V wx hE hd
          obtain ⟨u7, hb7, hu7, p7⟩ : ∃ U, Keeps NoB w18.drew U ∧ Keeps NoB U wx ∧ ((V 63) = Value.pointer (some ⟨pb, 7, none⟩)) := hd 7 (by decide)
          clear hd
          clear hb7 hu7
          intro K hK
          simp only [rput, List.foldl_cons, List.foldl_nil, Act.put, List.setIfInBounds_toArray, List.set_cons_zero, List.set_cons_succ, p7]
          obtain ⟨l0, l1, l2, l3, l4, l5, l6, l7, l8⟩ := HLD.out wx ((HKk.out.drew).fresh hE); go_simp; (with_reducible refine hK.out _ _ ?_ ?_); exact rfl; exact ⟨Keeps.refl _ _, rfl⟩
        case s9 =>
          intro V wx hE hd
          obtain ⟨u5, hb5, hu5, p5⟩ : ∃ U, Keeps NoB w18.drew U ∧ Keeps NoB U wx ∧ (∃ A5 c5, (V 61) = Value.slice A5 30 c5 ∧ Hid (OwnB U z0 (Value.slice A5 30 c5) ((((((((([] ++ beN 2 16716) ++ beN 1 1) ++ beN 8 S) ++ beN 4 N) ++ beN 2 B) ++ beN 1 Q) ++ beN 2 E) ++ beN 2 F) ++ beN 8 L))) := hd 5 (by decide)
          obtain ⟨u8, hb8, hu8, p8⟩ : ∃ U, Keeps NoB w18.drew U ∧ Keeps NoB U wx ∧ ((V 64) = Value.int .u64 (I : Int)) := hd 8 (by decide)
          clear hd
          clear hb8 hu8
          obtain ⟨A5, c5, q5, ho5⟩ := p5
          intro K hK
          simp only [rput, List.foldl_cons, List.foldl_nil, Act.put, List.setIfInBounds_toArray, List.set_cons_zero, List.set_cons_succ, p8, q5]
          go_simp; refine (rput_own ((((((((([] ++ beN 2 16716) ++ beN 1 1) ++ beN 8 S) ++ beN 4 N) ++ beN 2 B) ++ beN 1 Q) ++ beN 2 E) ++ beN 2 F) ++ beN 8 L) A5 30 c5 I 8 z0 wx (OwnInts.kept ho5.out hu5) (by rw [List.length_append, HLk.out, beN_length]) (by have := HZk.out; have := ((Keeps.refl NoB w18).drew.fresh hE).size; omega) (by omega) (by omega) (by omega) (by omega)).mono ?_; rintro e w6 ⟨A6, c6, rfl, ho6, hk6⟩; (with_reducible refine hK.out _ _ ?_ ?_); exact rfl; exact ⟨hk6, A6, c6, rfl, hid ho6⟩
        case s10 =>
          intro V wx hE hd
          obtain ⟨u9, hb9, hu9, p9⟩ : ∃ U, Keeps NoB w18.drew U ∧ Keeps NoB U wx ∧ (∃ A5 c5, (V 65) = Value.slice A5 38 c5 ∧ Hid (OwnB U z0 (Value.slice A5 38 c5) (((((((((([] ++ beN 2 16716) ++ beN 1 1) ++ beN 8 S) ++ beN 4 N) ++ beN 2 B) ++ beN 1 Q) ++ beN 2 E) ++ beN 2 F) ++ beN 8 L) ++ beN 8 I))) := hd 9 (by decide)
          clear hd
          obtain ⟨A5, c5, q9, ho5⟩ := p9
          intro K hK
          simp only [rput, List.foldl_cons, List.foldl_nil, Act.put, List.setIfInBounds_toArray, List.set_cons_zero, List.set_cons_succ, q9]
          go_simp; (with_reducible refine hK.out _ _ ?_ ?_); exact rfl; exact ⟨Keeps.refl _ _, A5, c5, rfl, hid (OwnInts.kept ho5.out hu9)⟩
        case fin9 =>
          intro V wz hE hd
          obtain ⟨u10, hb10, hu10, p10⟩ : ∃ U, Keeps NoB w18.drew U ∧ Keeps NoB U wz ∧ (∃ A5 c5, (V 4) = Value.slice A5 38 c5 ∧ Hid (OwnB U z0 (Value.slice A5 38 c5) (((((((((([] ++ beN 2 16716) ++ beN 1 1) ++ beN 8 S) ++ beN 4 N) ++ beN 2 B) ++ beN 1 Q) ++ beN 2 E) ++ beN 2 F) ++ beN 8 L) ++ beN 8 I))) := hd 10 (by decide)
          clear hd
          obtain ⟨A5, c5, q10, ho5⟩ := p10
          simp only [rput, List.foldl_cons, List.foldl_nil, Act.put, List.setIfInBounds_toArray, List.set_cons_zero, List.set_cons_succ, q10]
          have HKk := hid (HKk.out.drew.fresh hE)
          have HOk := hid (OwnInts.kept ho5.out hu10)
          have HZk := hid (show z0 ≤ wz.heap.size by have := HZk.out; have := ((Keeps.refl NoB w18).drew.fresh hE).size; omega)
          have HLk := hid (show ((((((((((([] ++ beN 2 16716) ++ beN 1 1) ++ beN 8 S) ++ beN 4 N) ++ beN 2 B) ++ beN 1 Q) ++ beN 2 E) ++ beN 2 F) ++ beN 8 L) ++ beN 8 I)).length = 38 by rw [List.length_append, List.length_append, HLk.out, beN_length, beN_length])
          clear hE ho5 hu10 hb10 q10
          generalize wz = w19 at *
          generalize A5 = Ak at *
          generalize c5 = ck at *
          obtain ⟨l0, l1, l2, l3, l4, l5, l6, l7, l8⟩ := HLD.out w19 HKk.out
          rw [hits.out] at HOk HLk
          have HKw := hid (HK01.out.fresh HKk.out)
          have HP2 := hid (HP.out.kept HKw.out)
          have hzk := HZk.out
          go_wp2_with (at_builtin; go_must (refine wpList_appB _ rfl _ _ 25 rfl z0 hui _ (headN h) rfl HOk.out A B cap pay rfl HPL.out HA.out HP2.out 38 HLk.out (by omega) (by omega) ?_); intro v4 w4 hown4 hgr4; have HK4 := hid (HKw.out.grown hgr4 (fun i e hlt => by have := (OwnInts.base_le HOk.out i e.symm).1; have := HZ0.out; omega)); have HO4 := hid hown4; obtain ⟨A9, c9, e9, _⟩ := OwnB.reads HO4.out; rw [HL38.out] at e9; subst e9; clear hown4 hgr4)
          obtain ⟨A8, c8, e8, hc8, hA8, hb8⟩ := OwnB.reads HO4.out
          rw [HL38.out] at e8
          injection e8 with e1 e2 e3
          subst e1 e3
          refine (rseal_calls (headN h ++ pay) A9 (38 + B) c9 _ _ HL38.out hA8 hb8 (by omega)).mono ?_
          rintro e w9 ⟨v9, rfl, ho9, hk9⟩
          rw [HEN.out] at ho9
          have HO9 := hid (OwnInts.lower (base' := z0) ho9 (by have := HK4.out.size; have := HZ0.out; omega))
          have HK9 := hid (HK4.out.fresh hk9)
          clear ho9 hk9 hb8
          go_wp2_with fail
          go_ret2
          exact ⟨_, rfl, by rw [HZ0.out]; exact HO9.out, HK9.out⟩
end Go.Proofs.Ytpkkaicpbihjfaa
/- Packets and frames by the reference: the walks of almonryref14. Conditions: numbers are of their kinds. -/
set_option linter.unusedVariables false
set_option linter.unusedSimpArgs false
namespace Go.Proofs.Ytpkkaicpbihjfaa
open Go.RowKit

set_option maxHeartbeats 3000000 in
set_option maxRecDepth 20000 in
theorem rpacket_calls (p : Par) (session : Nat) (obj : List UInt8) (A : Option Addr) (cap : Nat) (id : Nat) (R : Nat → Prop) (w : World) (hm : p.may) (hs : session < 18446744073709551616) (hi : id < 18446744073709551616) (ho : BytesIn R w A obj) (hn60 : p.n ≤ 60) :
    Calls Try.prog 25 #[p.val, .int .u64 (session : Int), .slice A obj.length cap, .int .u64 (id : Int)] w fun e w' => ∃ (Ap : Option Addr) (cp : Nat), e = .returned (.agg #[.int .u64 (session : Int), .int .i64 p.n, .int .i64 p.b, .int .i64 p.q, .int .i64 p.eps, .int .i64 p.f, .int .i64 (obj.length : Int), .int .u64 (id : Int), .slice Ap p.b.toNat cp]) ∧ OwnB w' w.heap.size (.slice Ap p.b.toNat cp) (payN p session obj id) ∧ Keeps NoB w w' := by
  have hu := Try.underlying23
  have huh := Try.underlying53
  have hup := Try.underlying55
  obtain ⟨N, B, hpn, hpb, hpn2, hpb2, hN1, hN2, hB1, hB2, hNB, hNB2⟩ := par_sizes hm
  have HPL := hid ((payN_length hm session obj id).trans hpb2)
  have hblk := blkN_range hm session id obj
  have hbl : (blkN p session id).length ≤ 1073741824 := by
    have := blkN_length hm session id
    have := all_bounds hm
    omega
  have HRC := hid (fun (W : World) (hW : Keeps NoB w W) => rcomp_calls p session obj A cap R W hm hs (ho.kept hW) hn60)
  have HIB := hid (fun (W : World) => rblocks_calls p session id W hm hs hi)
  have HPC0 := hid (fun (Ab : Option Addr) (cb : Nat) (R2 : Nat → Prop) (W : World) (A4 : Option Addr) (c4 : Nat) (hr : RowsIn R2 W Ab (compN p session obj)) (hat : IntsAt W .i64 A4 (blkN p session id)) => rpick_calls (compN p session obj) (blkN p session id) Ab cb A4 c4 R2 W hr hat hblk hbl)
  have HRS := hid (fun (W : World) (A5 : Option Addr) (c5 : Nat) (hr : RowsIn (fun _ => True) W A5 (pickR (compN p session obj) (blkN p session id))) => rsum_calls B (pickR (compN p session obj) (blkN p session id)) A5 c5 (fun _ => True) W (by omega) hr (by rw [← hpb2]; exact (checkB_yes (comp_checkB hm session id obj)).2.2.2))
  have hpy : sumB B (pickR (compN p session obj) (blkN p session id)) = payN p session obj id := by unfold payN; rw [hpb2]
  have hpkl := pickR_length (compN p session obj) (blkN p session id)
  obtain ⟨nb, hnb⟩ : ∃ nb, (blkN p session id).length = nb := ⟨_, rfl⟩
  obtain ⟨m, hmm⟩ : ∃ m, (compN p session obj).length = m := ⟨_, rfl⟩
  obtain ⟨L, hL⟩ : ∃ L, obj.length = L := ⟨_, rfl⟩
  rw [hnb] at hpkl
  rw [hnb, hmm] at HPC0
  rw [hpy, hpkl] at HRS
  rw [hL] at HRC ⊢
  rw [hpb2]
  unfold Par.val at HRC HIB ⊢
  rw [hpb] at HRC HIB ⊢
  have HNB := hid hnb
  have HPKL := hid hpkl
  have HMM := hid hmm
  generalize pickR (compN p session obj) (blkN p session id) = pk at *
  generalize payN p session obj id = pay at *
  generalize blkN p session id = bl at *
  generalize compN p session obj = comp at *
  clear hpn hpb hpn2 hpb2 hNB hNB2 hblk hbl hnb hmm hL hpy hpkl hs hi hm ho hn60
  have HK1 := hid (((Keeps.refl NoB w).alloc (.cells #[.int .i64 p.n, .int .i64 (B : Int), .int .i64 p.q, .int .i64 p.eps, .int .i64 p.f] 23)).alloc (.cells #[.int .u64 0, .int .i64 0, .int .i64 0, .int .i64 0, .int .i64 0, .int .i64 0, .int .i64 0, .int .u64 0, .slice none 0 0] 55))
  have HB1 := hid (((Keeps.refl NoB (w.alloc (.cells #[.int .i64 p.n, .int .i64 (B : Int), .int .i64 p.q, .int .i64 p.eps, .int .i64 p.f] 23))).alloc (.cells #[.int .u64 0, .int .i64 0, .int .i64 0, .int .i64 0, .int .i64 0, .int .i64 0, .int .i64 0, .int .u64 0, .slice none 0 0] 55)).heap (heap_alloc_new w (.cells #[.int .i64 p.n, .int .i64 (B : Int), .int .i64 p.q, .int .i64 p.eps, .int .i64 p.f] 23)) (fun h => h))
  have HR1 := hid (heap_alloc2_new w (.cells #[.int .i64 p.n, .int .i64 (B : Int), .int .i64 p.q, .int .i64 p.eps, .int .i64 p.f] 23) (.cells #[.int .u64 0, .int .i64 0, .int .i64 0, .int .i64 0, .int .i64 0, .int .i64 0, .int .i64 0, .int .u64 0, .slice none 0 0] 55))
  obtain ⟨w1, hw1⟩ : ∃ w1, (w.alloc (.cells #[.int .i64 p.n, .int .i64 (B : Int), .int .i64 p.q, .int .i64 p.eps, .int .i64 p.f] 23)).alloc (.cells #[.int .u64 0, .int .i64 0, .int .i64 0, .int .i64 0, .int .i64 0, .int .i64 0, .int .i64 0, .int .u64 0, .slice none 0 0] 55) = w1 := ⟨_, rfl⟩
  rw [hw1] at HK1 HB1 HR1
  obtain ⟨pb, hpb⟩ : ∃ pb, w.heap.size = pb := ⟨_, rfl⟩
  rw [hpb] at HB1 HR1
  obtain ⟨rb, hrb⟩ : ∃ rb, pb + 1 = rb := ⟨_, rfl⟩
  rw [hrb] at HR1
  have HPB := hid hpb
  have HRB := hid hrb
  go_enter Try.func25, Try.ntmps25
  obtain ⟨b0, b1, b2, b3, b4⟩ := cells5 HB1.out
  go_wp2_with fail
  refine (HRC.out _ HK1.out).mono ?_
  rintro e w3 ⟨v3, rfl, hr3, hk3⟩
  clear b0 b1 b2 b3 b4 hw1 hrb
  obtain ⟨Ab, cb, hv3, _, _, hrows⟩ := hr3.reads
  rw [HMM.out] at hv3
  subst hv3
  have HR3 := hid (hk3.heap HR1.out (fun h => h))
  have HB3 := hid (hk3.heap HB1.out (fun h => h))
  have HK3 := hid (HK1.out.fresh hk3)
  have hrows' := hid (hrows.mono (R' := fun _ => True) (fun _ _ _ => trivial))
  have HPC := hid (fun (W : World) (A4 : Option Addr) (c4 : Nat) (hW : Keeps NoB w3 W) (hat : IntsAt W .i64 A4 bl) => HPC0.out Ab cb (fun _ => True) W A4 c4 (hrows'.out.kept hW) hat)
  have HLD := hid (fun (W : World) (hW : Keeps NoB w3 W) => cells5 (hW.heap HB3.out (fun h => h)))
  obtain ⟨z0, hz0⟩ : ∃ z0, w.heap.size = z0 := ⟨_, rfl⟩
  have HZ0 := hid hz0
  have HZ := hid (show z0 ≤ w3.heap.size by have := HK3.out.size; omega)
  have HKd := hid (Keeps.refl NoB w3).drew
  clear hr3 hrows hk3 hz0 HPC0 HRC hpb
  go_wp2_with fail
  refine wp_region_list [([], [15], []), ([0], [16], [15]), ([], [17], []), ([], [18], []), ([], [19], []), ([], [20], []), ([3, 4, 5], [21], [18, 19, 20]), ([2, 3, 4, 5, 6], [22], [17, 18, 19, 20, 21]), ([0, 1, 2, 3, 4, 5, 6, 7], [23], [15, 16, 17, 18, 19, 20, 21, 22]), ([0, 1, 2, 3, 4, 5, 6, 7, 8], [10], [15, 16, 17, 18, 19, 20, 21, 22, 23])] [15, 16, 17, 18, 19, 20, 21, 22, 23, 10] (Keeps NoB) (fun (i : Nat) => ([(fun rs__ U => (rs__.getD 0 undef) = Value.pointer (some ⟨pb, 1, none⟩)), (fun rs__ U => (rs__.getD 0 undef) = Value.int .i64 (B : Int)), (fun rs__ U => (rs__.getD 0 undef) = Value.slice Ab m cb), (fun rs__ U => (rs__.getD 0 undef) = Value.agg #[.int .i64 p.n, .int .i64 (B : Int), .int .i64 p.q, .int .i64 p.eps, .int .i64 p.f]), (fun rs__ U => (rs__.getD 0 undef) = Value.int .u64 (session : Int)), (fun rs__ U => (rs__.getD 0 undef) = Value.int .u64 (id : Int)), (fun rs__ U => ∃ A4 c4, (rs__.getD 0 undef) = Value.slice A4 nb c4 ∧ Hid (IntsAt U .i64 A4 bl)), (fun rs__ U => ∃ A5 c5, (rs__.getD 0 undef) = Value.slice A5 nb c5 ∧ Hid (RowsIn (fun _ => True) U A5 pk)), (fun rs__ U => ∃ A6 c6, (rs__.getD 0 undef) = Value.slice A6 B c6 ∧ Hid (OwnB U z0 (Value.slice A6 B c6) pay)), (fun rs__ U => ∃ A6 c6, (rs__.getD 0 undef) = Value.slice A6 B c6 ∧ Hid (OwnB U z0 (Value.slice A6 B c6) pay))] : List (List Value → World → Prop)).getD i (fun _ _ => True)) (by kernel_rfl) (by kernel_rfl) (by kernel_rfl) (fun _ _ _ h1 h2 => h1.fresh h2) (fun _ => Keeps.refl _ _) (RL.cons ?s0 (RL.cons ?s1 (RL.cons ?s2 (RL.cons ?s3 (RL.cons ?s4 (RL.cons ?s5 (RL.cons ?s6 (RL.cons ?s7 (RL.cons ?s8 (RL.cons ?s9 (RL.nil _ _))))))))))) ?fin
  case s0 =>
    intro V wx hE hd
    clear hd
    intro K hK
    simp only [rput, List.foldl_cons, List.foldl_nil, Act.put, List.setIfInBounds_toArray, List.set_cons_zero, List.set_cons_succ]
    go_simp; (with_reducible refine hK.out _ _ ?_ ?_); exact rfl; exact ⟨Keeps.refl _ _, rfl⟩
  case s1 =>
    intro V wx hE hd
    obtain ⟨u0, hb0, hu0, p0⟩ : ∃ U, Keeps NoB w3.drew U ∧ Keeps NoB U wx ∧ ((V 15) = Value.pointer (some ⟨pb, 1, none⟩)) := hd 0 (by decide)
    clear hd
    clear hb0 hu0
    intro K hK
    simp only [rput, List.foldl_cons, List.foldl_nil, Act.put, List.setIfInBounds_toArray, List.set_cons_zero, List.set_cons_succ, p0]
    obtain ⟨l0, l1, l2, l3, l4⟩ := HLD.out wx (HKd.out.fresh hE); go_simp; (with_reducible refine hK.out _ _ ?_ ?_); exact rfl; exact ⟨Keeps.refl _ _, rfl⟩
  case s2 =>
    intro V wx hE hd
    clear hd
    intro K hK
    simp only [rput, List.foldl_cons, List.foldl_nil, Act.put, List.setIfInBounds_toArray, List.set_cons_zero, List.set_cons_succ]
    go_simp; (with_reducible refine hK.out _ _ ?_ ?_); exact rfl; exact ⟨Keeps.refl _ _, rfl⟩
  case s3 =>
    intro V wx hE hd
    clear hd
    intro K hK
    simp only [rput, List.foldl_cons, List.foldl_nil, Act.put, List.setIfInBounds_toArray, List.set_cons_zero, List.set_cons_succ]
    obtain ⟨l0, l1, l2, l3, l4⟩ := HLD.out wx (HKd.out.fresh hE); go_simp; (with_reducible refine hK.out _ _ ?_ ?_); exact rfl; exact ⟨Keeps.refl _ _, rfl⟩
  case s4 =>
    intro V wx hE hd
    clear hd
    intro K hK
    simp only [rput, List.foldl_cons, List.foldl_nil, Act.put, List.setIfInBounds_toArray, List.set_cons_zero, List.set_cons_succ]
    go_simp; (with_reducible refine hK.out _ _ ?_ ?_); exact rfl; exact ⟨Keeps.refl _ _, rfl⟩
  case s5 =>
    intro V wx hE hd
    clear hd
    intro K hK
    simp only [rput, List.foldl_cons, List.foldl_nil, Act.put, List.setIfInBounds_toArray, List.set_cons_zero, List.set_cons_succ]
    go_simp; (with_reducible refine hK.out _ _ ?_ ?_); exact rfl; exact ⟨Keeps.refl _ _, rfl⟩
  case s6 =>
    intro V wx hE hd
    obtain ⟨u3, hb3, hu3, p3⟩ : ∃ U, Keeps NoB w3.drew U ∧ Keeps NoB U wx ∧ ((V 18) = Value.agg #[.int .i64 p.n, .int .i64 (B : Int), .int .i64 p.q, .int .i64 p.eps, .int .i64 p.f]) := hd 3 (by decide)
    obtain ⟨u4, hb4, hu4, p4⟩ : ∃ U, Keeps NoB w3.drew U ∧ Keeps NoB U wx ∧ ((V 19) = Value.int .u64 (session : Int)) := hd 4 (by decide)
    obtain ⟨u5, hb5, hu5, p5⟩ : ∃ U, Keeps NoB w3.drew U ∧ Keeps NoB U wx ∧ ((V 20) = Value.int .u64 (id : Int)) := hd 5 (by decide)
    clear hd
    clear hb3 hu3
    clear hb4 hu4
    clear hb5 hu5
    intro K hK
    simp only [rput, List.foldl_cons, List.foldl_nil, Act.put, List.setIfInBounds_toArray, List.set_cons_zero, List.set_cons_succ, p3, p4, p5]
    go_simp; refine (HIB.out wx).mono ?_; rintro e w4 ⟨A4, c4, rfl, hat4, hk4⟩; rw [HNB.out]; (with_reducible refine hK.out _ _ ?_ ?_); exact rfl; exact ⟨hk4, A4, c4, rfl, hid hat4⟩
  case s7 =>
    intro V wx hE hd
    obtain ⟨u2, hb2, hu2, p2⟩ : ∃ U, Keeps NoB w3.drew U ∧ Keeps NoB U wx ∧ ((V 17) = Value.slice Ab m cb) := hd 2 (by decide)
    obtain ⟨u6, hb6, hu6, p6⟩ : ∃ U, Keeps NoB w3.drew U ∧ Keeps NoB U wx ∧ (∃ A4 c4, (V 21) = Value.slice A4 nb c4 ∧ Hid (IntsAt U .i64 A4 bl)) := hd 6 (by decide)
    clear hd
    clear hb2 hu2
    obtain ⟨A4, c4, q6, hat4⟩ := p6
    intro K hK
    simp only [rput, List.foldl_cons, List.foldl_nil, Act.put, List.setIfInBounds_toArray, List.set_cons_zero, List.set_cons_succ, p2, q6]
    go_simp; refine (HPC.out wx A4 c4 (HKd.out.fresh hE) (hat4.out.kept hu6)).mono ?_; rintro e w5 ⟨v5, rfl, ho5, hk5⟩; obtain ⟨A5, c5, hv5, _, _, hr5⟩ := ho5.reads; rw [HPKL.out] at hv5; subst hv5; (with_reducible refine hK.out _ _ ?_ ?_); exact rfl; exact ⟨hk5, A5, c5, rfl, hid (hr5.mono (fun _ _ _ => trivial))⟩
  case s8 =>
    intro V wx hE hd
    obtain ⟨u1, hb1, hu1, p1⟩ : ∃ U, Keeps NoB w3.drew U ∧ Keeps NoB U wx ∧ ((V 16) = Value.int .i64 (B : Int)) := hd 1 (by decide)
    obtain ⟨u7, hb7, hu7, p7⟩ : ∃ U, Keeps NoB w3.drew U ∧ Keeps NoB U wx ∧ (∃ A5 c5, (V 22) = Value.slice A5 nb c5 ∧ Hid (RowsIn (fun _ => True) U A5 pk)) := hd 7 (by decide)
    clear hd
    clear hb1 hu1
    obtain ⟨A5, c5, q7, hr5⟩ := p7
    intro K hK
    simp only [rput, List.foldl_cons, List.foldl_nil, Act.put, List.setIfInBounds_toArray, List.set_cons_zero, List.set_cons_succ, p1, q7]
    go_simp; refine (HRS.out wx A5 c5 (hr5.out.kept hu7)).mono ?_; rintro e w6 ⟨v6, rfl, ho6, hk6⟩; obtain ⟨A6, c6, hv6, _⟩ := OwnB.reads ho6; rw [HPL.out] at hv6; subst hv6; (with_reducible refine hK.out _ _ ?_ ?_); exact rfl; exact ⟨hk6, A6, c6, rfl, hid (OwnInts.lower ho6 (Nat.le_trans HZ.out (HKd.out.fresh hE).size))⟩
  case s9 =>
    intro V wx hE hd
    obtain ⟨u8, hb8, hu8, p8⟩ : ∃ U, Keeps NoB w3.drew U ∧ Keeps NoB U wx ∧ (∃ A6 c6, (V 23) = Value.slice A6 B c6 ∧ Hid (OwnB U z0 (Value.slice A6 B c6) pay)) := hd 8 (by decide)
    clear hd
    obtain ⟨A6, c6, q8, ho6⟩ := p8
    intro K hK
    simp only [rput, List.foldl_cons, List.foldl_nil, Act.put, List.setIfInBounds_toArray, List.set_cons_zero, List.set_cons_succ, q8]
    go_simp; (with_reducible refine hK.out _ _ ?_ ?_); exact rfl; exact ⟨Keeps.refl _ _, A6, c6, rfl, hid (OwnInts.kept ho6.out hu8)⟩
  case fin =>
    intro V wz hE hd
    obtain ⟨u9, hb9, hu9, p9⟩ : ∃ U, Keeps NoB w3.drew U ∧ Keeps NoB U wz ∧ (∃ A6 c6, (V 10) = Value.slice A6 B c6 ∧ Hid (OwnB U z0 (Value.slice A6 B c6) pay)) := hd 9 (by decide)
    clear hd
    obtain ⟨A6, c6, q9, ho6⟩ := p9
    simp only [rput, List.foldl_cons, List.foldl_nil, Act.put, List.setIfInBounds_toArray, List.set_cons_zero, List.set_cons_succ, q9]
    have HBz := hid ((HKd.out.fresh hE).heap HB3.out (fun h => h))
    have HRz := hid ((HKd.out.fresh hE).heap HR3.out (fun h => h))
    have HO := hid (OwnInts.kept ho6.out hu9)
    have HKz := hid (HK3.out.fresh (HKd.out.fresh hE))
    obtain ⟨e0, e1, e2, e3, e4⟩ := cells5 HBz.out
    obtain ⟨r0, r1, r2, r3, r4, r5, r6, r7, r8⟩ := cells9 HRz.out
    have f0 : wz.frozen? ⟨rb, 0, none⟩ = false := by simp [World.frozen?, HRz.out]
    have f1 : wz.frozen? ⟨rb, 1, none⟩ = false := by simp [World.frozen?, HRz.out]
    have f2 : wz.frozen? ⟨rb, 2, none⟩ = false := by simp [World.frozen?, HRz.out]
    have f3 : wz.frozen? ⟨rb, 3, none⟩ = false := by simp [World.frozen?, HRz.out]
    have f4 : wz.frozen? ⟨rb, 4, none⟩ = false := by simp [World.frozen?, HRz.out]
    have f5 : wz.frozen? ⟨rb, 5, none⟩ = false := by simp [World.frozen?, HRz.out]
    have f6 : wz.frozen? ⟨rb, 6, none⟩ = false := by simp [World.frozen?, HRz.out]
    have f7 : wz.frozen? ⟨rb, 7, none⟩ = false := by simp [World.frozen?, HRz.out]
    have f8 : wz.frozen? ⟨rb, 8, none⟩ = false := by simp [World.frozen?, HRz.out]
    clear hE HLD HIB HPC HRS ho6 hu9
    go_wp2_with fail
    have hfin := (heap_setAt (heap_setAt (heap_setAt (heap_setAt (heap_setAt (heap_setAt (heap_setAt (heap_setAt (heap_setAt HRz.out 0 (.int .u64 (session : Int))) 1 (.int .i64 p.n)) 2 (.int .i64 (B : Int))) 3 (.int .i64 p.q)) 4 (.int .i64 p.eps)) 5 (.int .i64 p.f)) 6 (.int .i64 (L : Int))) 7 (.int .u64 (id : Int))) 8 (.slice A6 B c6))
    simp only [List.setIfInBounds_toArray, List.set_cons_zero, List.set_cons_succ] at hfin
    have HFN := hid hfin
    have HK9 := hid (show Keeps (· = rb) wz _ from ((((((((((Keeps.refl (· = rb) wz).setCell (p := ⟨rb, 0, none⟩) (fun _ => rfl) (.int .u64 (session : Int))).setCell (p := ⟨rb, 1, none⟩) (fun _ => rfl) (.int .i64 p.n)).setCell (p := ⟨rb, 2, none⟩) (fun _ => rfl) (.int .i64 (B : Int))).setCell (p := ⟨rb, 3, none⟩) (fun _ => rfl) (.int .i64 p.q)).setCell (p := ⟨rb, 4, none⟩) (fun _ => rfl) (.int .i64 p.eps)).setCell (p := ⟨rb, 5, none⟩) (fun _ => rfl) (.int .i64 p.f)).setCell (p := ⟨rb, 6, none⟩) (fun _ => rfl) (.int .i64 (L : Int))).setCell (p := ⟨rb, 7, none⟩) (fun _ => rfl) (.int .u64 (id : Int))).setCell (p := ⟨rb, 8, none⟩) (fun _ => rfl) (.slice A6 B c6)))
    clear hfin r0 r1 r2 r3 r4 r5 r6 r7 r8 e0 e1 e2 e3 e4
    generalize (((((((((wz.setCell ⟨rb, 0, none⟩ (.int .u64 (session : Int))).setCell ⟨rb, 1, none⟩ (.int .i64 p.n)).setCell ⟨rb, 2, none⟩ (.int .i64 (B : Int))).setCell ⟨rb, 3, none⟩ (.int .i64 p.q)).setCell ⟨rb, 4, none⟩ (.int .i64 p.eps)).setCell ⟨rb, 5, none⟩ (.int .i64 p.f)).setCell ⟨rb, 6, none⟩ (.int .i64 (L : Int))).setCell ⟨rb, 7, none⟩ (.int .u64 (id : Int))).setCell ⟨rb, 8, none⟩ (.slice A6 B c6)) = W9 at *
    refine bodyPost_ret (results_cell_row rfl _ _ rb 55 _ (0, 0) _ rfl HFN.out hup rfl (by kernel_rfl)) rfl ?_
    rw [HZ0.out]
    exact ⟨A6, c6, rfl, OwnInts.keeps HO.out HK9.out (fun b hb e => by
      have e : b = rb := e
      rw [e] at hb
      exact own_ne (show wz.ownsRow z0 5 1 _ _ _ from HO.out) HRz.out (by decide) hb), HKz.out.then HK9.out (fun i e hlt => by have := HPB.out; have := HRB.out; have e : i = rb := e; omega)⟩
set_option maxHeartbeats 2000000 in
set_option maxRecDepth 20000 in
theorem rframe_calls (p : Par) (session : Nat) (obj : List UInt8) (A : Option Addr) (cap : Nat) (id : Nat) (R : Nat → Prop) (w : World) (hm : p.may) (hl : (obj.length : Int) ≤ p.n * p.b) (hs : session < 18446744073709551616) (hi : id < 18446744073709551616) (ho : BytesIn R w A obj) (hn60 : p.n ≤ 60) :
    Calls Try.prog 22 #[p.val, .int .u64 (session : Int), .slice A obj.length cap, .int .u64 (id : Int)] w fun e w' => ∃ (A5 : Option Addr) (c5 : Nat), e = .returned (.slice A5 (42 + p.b.toNat) c5) ∧ OwnB w' w.heap.size (.slice A5 (42 + p.b.toNat) c5) (frameN p session obj id) ∧ Keeps NoB w w' := by
  have hu := Try.underlying23
  have HPK := hid (fun (W : World) (hW : Keeps NoB w W) => rpacket_calls p session obj A cap id R W hm hs hi (ho.kept hW) hn60)
  have HFL := hid (frameN_length hm session obj id)
  have hpl := payN_length hm session obj id
  have hbb : (p.b.toNat : Int) = p.b := by have := hm.2.2.1; omega
  have HEN := hid (fun (W : World) (base : Nat) (Ap : Option Addr) (cp : Nat) (hb : OwnB W base (.slice Ap p.b.toNat cp) (payN p session obj id)) => rencode_calls ⟨session, p, (obj.length : Int), id⟩ (payN p session obj id) Ap cp (fun _ => True) W ⟨hm, by simp, hl⟩ hs hi (by
    obtain ⟨A, c, e, _, _, hb⟩ := hb.reads
    injection e with e1 e2 e3
    subst e1
    exact hb.mono (fun _ _ _ => trivial)) (by rw [hpl]; exact hbb) (by
    obtain ⟨A, c, e, hc, hA, hb⟩ := hb.reads
    injection e with e1 e2 e3
    subst e1 e3
    exact hA) (by
    obtain ⟨A, c, e, hc, hA, hb⟩ := hb.reads
    injection e with e1 e2 e3
    subst e1 e3
    exact hc))
  have hfr : encN ⟨session, p, (obj.length : Int), id⟩ (payN p session obj id) = frameN p session obj id := rfl
  rw [hfr, hpl] at HEN
  obtain ⟨L, hL⟩ : ∃ L, obj.length = L := ⟨_, rfl⟩
  simp only [hL] at HPK HEN
  rw [hL]
  generalize frameN p session obj id = fr at *
  generalize payN p session obj id = pay at *
  generalize p.b.toNat = B at *
  clear hpl hbb hfr hL hl hs hi hm ho hn60
  unfold Par.val at HPK ⊢
  have HB := hid (heap_alloc_new w (.cells #[.int .i64 p.n, .int .i64 p.b, .int .i64 p.q, .int .i64 p.eps, .int .i64 p.f] 23))
  have HK := hid ((Keeps.refl NoB w).alloc (.cells #[.int .i64 p.n, .int .i64 p.b, .int .i64 p.q, .int .i64 p.eps, .int .i64 p.f] 23))
  obtain ⟨wa, hwa⟩ : ∃ wa, w.alloc (.cells #[.int .i64 p.n, .int .i64 p.b, .int .i64 p.q, .int .i64 p.eps, .int .i64 p.f] 23) = wa := ⟨_, rfl⟩
  rw [hwa] at HB HK
  obtain ⟨pb, hpb⟩ : ∃ pb, w.heap.size = pb := ⟨_, rfl⟩
  have HPB := hid hpb
  rw [hpb] at HB
  go_enter Try.func22, Try.ntmps22
  obtain ⟨b0, b1, b2, b3, b4⟩ := cells5 HB.out
  go_wp2_with fail
  refine (HPK.out _ HK.out).mono ?_
  rintro e w3 ⟨Ap, cp, rfl, ho3, hk3⟩
  clear b0 b1 b2 b3 b4 hwa hpb
  have HK3 := hid (HK.out.fresh hk3)
  have hz := HK.out.size
  go_wp2_with fail
  refine (HEN.out _ _ Ap cp ho3).mono ?_
  rintro e w4 ⟨v4, rfl, ho4, hk4⟩
  obtain ⟨A5, c5, hv5, _⟩ := OwnB.reads ho4
  rw [HFL.out] at hv5
  subst hv5
  have HO4 := hid (OwnInts.lower (base' := w.heap.size) ho4 HK3.out.size)
  have HK4 := hid (HK3.out.fresh hk4)
  clear ho3 ho4 hk3 hk4
  go_wp2_with fail
  go_ret
  exact ⟨A5, c5, rfl, HO4.out, HK4.out⟩
end Go.Proofs.Ytpkkaicpbihjfaa
/- Whether two packets are one: the walk of almonryref06.Same at packets that are alike. Conditions: bytes that are read. -/
set_option linter.unusedVariables false
set_option linter.unusedSimpArgs false
namespace Go.Proofs.Ytpkkaicpbihjfaa
open Go.RowKit

set_option maxHeartbeats 1000000 in
set_option maxRecDepth 20000 in
theorem same06_calls (p : Par) (session : Nat) (L : Int) (id : Nat) (pay : List UInt8) (A1 A2 : Option Addr) (B c1 c2 : Nat) (R1 R2 : Nat → Prop) (w : World) (h1 : BytesIn R1 w A1 pay) (h2 : BytesIn R2 w A2 pay) (hl : pay.length = B) :
    Calls Try.prog 23 #[.agg #[.int .u64 (session : Int), .int .i64 p.n, .int .i64 p.b, .int .i64 p.q, .int .i64 p.eps, .int .i64 p.f, .int .i64 L, .int .u64 (id : Int), .slice A1 B c1], .agg #[.int .u64 (session : Int), .int .i64 p.n, .int .i64 p.b, .int .i64 p.q, .int .i64 p.eps, .int .i64 p.f, .int .i64 L, .int .u64 (id : Int), .slice A2 B c2]] w fun e w' => e = .returned (.bool true) ∧ Keeps NoB w w' := by
  have hu := Try.underlying23
  have huh := Try.underlying53
  have hup := Try.underlying55
  have H1 := hid h1
  have H2 := hid h2
  have HL := hid hl
  have dl : ((strOf pay).toList == (strOf pay).toList) = true := by simp
  clear h1 h2 hl
  have HK1 := hid (((Keeps.refl NoB w).alloc (.cells #[.int .u64 (session : Int), .int .i64 p.n, .int .i64 p.b, .int .i64 p.q, .int .i64 p.eps, .int .i64 p.f, .int .i64 L, .int .u64 (id : Int), .slice A1 B c1] 55)).alloc (.cells #[.int .u64 (session : Int), .int .i64 p.n, .int .i64 p.b, .int .i64 p.q, .int .i64 p.eps, .int .i64 p.f, .int .i64 L, .int .u64 (id : Int), .slice A2 B c2] 55))
  have f1 := conv_run 25 9 Try.underlying25 Try.underlying9 (H1.out.kept HK1.out) c1
  have f2 := conv_run 25 9 Try.underlying25 Try.underlying9 (H2.out.kept HK1.out) c2
  rw [HL.out] at f1 f2
  go_enter Try.func23, Try.ntmps23
  go_wp2_with fail
  go_ret
  exact ⟨rfl, HK1.out⟩
end Go.Proofs.Ytpkkaicpbihjfaa
/- The frames of any IDs: the walk of the law EmitFrames. Conditions: numbers are of their kinds. -/
set_option linter.unusedVariables false
set_option linter.unusedSimpArgs false
namespace Go.Proofs.Ytpkkaicpbihjfaa
open Go.RowKit
attribute [local go_sem ↓] Go.wp_at_zero Go.wp_at_succ

set_option maxHeartbeats 4000000 in
set_option maxRecDepth 20000 in
theorem emitFrames_walk (p : Par) (session : Nat) (obj : List UInt8) (A : Option Addr) (c : Nat) (ids : List Nat) (D : Option Addr) (d : Nat) (w : World) (hwf : p.wf) (hs : session < 18446744073709551616) (ho : BytesIn (fun _ => True) w A obj) (hcap : obj.length ≤ c) (hA : A = none → c = 0) (hids : NatsAt w D ids) :
    Calls Try.prog 5 #[.agg #[.int .i64 p.n, .int .i64 p.b, .int .i64 p.q, .int .i64 p.eps, .int .i64 p.f, .int .u64 (session : Int), .slice A obj.length c, .slice D ids.length d]] w fun e w' => e = .returned (.bool true) ∧ Keeps NoB w w' := by
  have hu := Try.underlying23
  have hui := Try.underlying25
  have HO := hid ho
  have HWF := hid hwf
  have HI := hid hids
  have HA := hid hA
  have hlen := ho.len
  have hlen2 := hids.1.len
  rw [List.length_map] at hlen2
  obtain ⟨L, hL⟩ : ∃ L, obj.length = L := ⟨_, rfl⟩
  obtain ⟨M, hM⟩ : ∃ M, ids.length = M := ⟨_, rfl⟩
  have HL := hid hL
  have HM := hid hM
  rw [hL] at hcap hlen ⊢
  rw [hM] at hlen2 ⊢
  clear ho hwf hids hL hM hA
  have hbox := hid (heap_alloc_new w (.cells #[.int .i64 p.n, .int .i64 p.b, .int .i64 p.q, .int .i64 p.eps, .int .i64 p.f, .int .u64 (session : Int), .slice A L c, .slice D M d] 45))
  have HKa := hid ((Keeps.refl NoB w).alloc (.cells #[.int .i64 p.n, .int .i64 p.b, .int .i64 p.q, .int .i64 p.eps, .int .i64 p.f, .int .u64 (session : Int), .slice A L c, .slice D M d] 45))
  obtain ⟨wa, hwa⟩ : ∃ wa, w.alloc (.cells #[.int .i64 p.n, .int .i64 p.b, .int .i64 p.q, .int .i64 p.eps, .int .i64 p.f, .int .u64 (session : Int), .slice A L c, .slice D M d] 45) = wa := ⟨_, rfl⟩
  rw [hwa] at hbox HKa
  obtain ⟨pb, hpb⟩ : ∃ pb, w.heap.size = pb := ⟨_, rfl⟩
  rw [hpb] at hbox
  go_enter Try.func5, Try.ntmps5
  go_wp2_with fail
  refine (speaks14_calls _).mono ?_
  rintro e w1 ⟨rfl, HK1⟩
  have hbx := hid (HK1.heap hbox.out (fun h => h))
  have HK1 := hid (HKa.out.fresh HK1)
  clear hbox HKa hwa hpb
  obtain ⟨b0, b1, b2, b3, b4, b5, b6, b7⟩ := cells8' hbx.out
  go_wp2_with fail
  have hlt := World.block_lt_of_cell? w1 _ b0
  go_region_held3 (fun w' => w'.cell? ⟨pb, 0, none⟩ = some (.int .i64 p.n) ∧ w'.cell? ⟨pb, 1, none⟩ = some (.int .i64 p.b) ∧ w'.cell? ⟨pb, 2, none⟩ = some (.int .i64 p.q) ∧ w'.cell? ⟨pb, 3, none⟩ = some (.int .i64 p.eps) ∧ w'.cell? ⟨pb, 4, none⟩ = some (.int .i64 p.f) ∧ w'.cell? ⟨pb, 5, none⟩ = some (.int .u64 (session : Int)) ∧ w'.cell? ⟨pb, 6, none⟩ = some (.slice A L c) ∧ w'.cell? ⟨pb, 7, none⟩ = some (.slice D M d)) (go_keep) (fail)
  have HP3 := hid (((Keeps.refl NoB (w1.alloc (.cells #[.int .i64 p.n, .int .i64 p.b, .int .i64 p.q, .int .i64 p.eps, .int .i64 p.f] 23))).drew).heap (heap_alloc_new w1 (.cells #[.int .i64 p.n, .int .i64 p.b, .int .i64 p.q, .int .i64 p.eps, .int .i64 p.f] 23)) (fun h => h))
  have HK3 := hid (HK1.out.fresh ((Keeps.refl NoB w1).alloc (.cells #[.int .i64 p.n, .int .i64 p.b, .int .i64 p.q, .int .i64 p.eps, .int .i64 p.f] 23)).drew)
  generalize hw3 : (w1.alloc (.cells #[.int .i64 p.n, .int .i64 p.b, .int .i64 p.q, .int .i64 p.eps, .int .i64 p.f] 23)).drew = w3 at *
  obtain ⟨rb, hrb⟩ : ∃ rb, w1.heap.size = rb := ⟨_, rfl⟩
  rw [hrb] at HP3 ⊢
  have HC5 := hid (fun (W : World) (hW : Keeps NoB w3 W) => cells5 (hW.heap HP3.out (fun h => h)))
  obtain ⟨r0, r1, r2, r3, r4⟩ := HC5.out w3 (Keeps.refl _ _)
  have hOE := hid (OwnInts.empty w3 w3.heap.size .u8 5 (Nat.le_refl _))
  have HKA := hid ((Keeps.refl NoB w3).alloc (.cells #[] 5))
  clear b0 b1 b2 b3 b4 b5 b6 b7 hlt hbx hw3 hrb HK1 HP3
  by_cases hg0 : 20 < M
  · have dg0 : decide (20 < M) = true := decide_eq_true hg0
    have dg0' : decide ((20 : Int) < (M : Int)) = true := decide_eq_true (by omega)
    go_wp2_with fail
    go_ret
    exact ⟨rfl, HK3.out⟩
  · have dg0 : decide (20 < M) = false := decide_eq_false hg0
    have dg0' : decide ((20 : Int) < (M : Int)) = false := decide_eq_false (by omega)
    by_cases hg1 : 4000 < L
    · have dg1 : decide (4000 < L) = true := decide_eq_true hg1
      have dg1' : decide ((4000 : Int) < (L : Int)) = true := decide_eq_true (by omega)
      go_wp2_with fail
      go_ret
      exact ⟨rfl, HK3.out⟩
    · have dg1 : decide (4000 < L) = false := decide_eq_false hg1
      have dg1' : decide ((4000 : Int) < (L : Int)) = false := decide_eq_false (by omega)
      by_cases hg2 : 60 < p.n
      · have dg2 : decide (60 < p.n) = true := decide_eq_true hg2
        go_wp2_with fail
        go_ret
        exact ⟨rfl, HK3.out⟩
      · have dg2 : decide (60 < p.n) = false := decide_eq_false hg2
        by_cases hg3 : 60 < p.b
        · have dg3 : decide (60 < p.b) = true := decide_eq_true hg3
          go_wp2_with fail
          go_ret
          exact ⟨rfl, HK3.out⟩
        · have dg3 : decide (60 < p.b) = false := decide_eq_false hg3
          have hn60 : p.n ≤ 60 := by omega
          have hb60 : p.b ≤ 60 := by omega
          by_cases hf : 200 < p.f
          · have df : decide (200 < p.f) = true := decide_eq_true hf
            by_cases hf2 : p.f ≤ 4096
            · have df2 : decide (p.f ≤ 4096) = true := decide_eq_true hf2
              go_wp2_with fail
              go_ret
              exact ⟨rfl, HK3.out⟩
            · have df2 : decide (p.f ≤ 4096) = false := decide_eq_false hf2
              have hm : ¬ p.may := fun h => by unfold Par.may at h; omega
              have hmb := mayB_false hm
              have HNN := hid (fun (V : Option Addr) (cv : Nat) (W : World) => emitNew_no p session obj V cv W hm)
              have HMA := hid (fun (W : World) => may_calls p W)
              rw [hmb] at HMA
              rw [HL.out] at HNN
              unfold Par.val at HNN HMA
              clear hm hmb
              go_wp2_with (at_builtin; go_must (refine wpList_appB _ rfl _ _ 25 rfl w3.heap.size hui _ [] rfl hOE.out A L c obj rfl HL.out HA.out (HO.out.kept (HK3.out.fresh HKA.out)) 0 rfl (by omega) (by simp) ?_); intro v4 w4 hown4 hgr4; have HK4 := hid (HKA.out.grown hgr4 (fun i e hlt => by have e : some i = some w3.heap.size := e; have e := Option.some.inj e; omega)); obtain ⟨r0, r1, r2, r3, r4⟩ := HC5.out w4 HK4.out; have HOW := hid (show OwnB w4 w3.heap.size v4 obj from hown4); obtain ⟨A4, c4, hv4, hc4, hA4, hb4⟩ := OwnB.reads HOW.out; rw [HL.out] at hv4 hc4; subst hv4; have HB4 := hid hb4; clear hown4 hgr4 hb4)
              refine (HNN.out A4 c4 _).mono ?_
              rintro e w5 ⟨rfl, hk5⟩
              have HK5 := hid (HK4.out.fresh hk5)
              clear r0 r1 r2 r3 r4 hk5
              obtain ⟨r0, r1, r2, r3, r4⟩ := HC5.out w5 HK5.out
              go_wp2_with fail
              refine (HMA.out _).mono ?_
              rintro e w6 ⟨rfl, HK6⟩
              have HK6 := hid (HK5.out.fresh HK6)
              go_wp2_with fail
              go_ret
              exact ⟨rfl, HK3.out.fresh HK6.out⟩
          · have df : decide (200 < p.f) = false := decide_eq_false hf
            by_cases hm : p.may
            · have hmb := mayB_true hm
              have HMA := hid (fun (W : World) => may_calls p W)
              rw [hmb] at HMA
              obtain ⟨N, B0, e1, e2, e3, e4, e5, e6, e7, e8, hNB, hNB2⟩ := par_sizes hm
              have hNBi : p.n * p.b = ((N * B0 : Nat) : Int) := hNB
              generalize N * B0 = Q at *
              clear e1 e2 e3 e4 e5 e6 e7 e8 hNB
              have m0 : (0 : Int) ≤ (Q : Int) := by omega
              have m1 : (Q : Int) ≤ 68718428160 := by omega
              have hw1 : wrap64 (Q : Int) = (Q : Int) := IntWalk.wrap64_in _ ⟨by omega, by omega⟩
              unfold Par.val at HMA
              by_cases hlg : Q < L
              · have d5 : decide ((Q : Int) < (L : Int)) = true := decide_eq_true (by omega)
                have d5n : decide (Q < L) = true := decide_eq_true hlg
                have HNN := hid (fun (V : Option Addr) (cv : Nat) (W : World) => emitNew_long p session obj V cv W hm (by rw [hNBi, HL.out]; omega) (by rw [HL.out]; exact hlen))
                rw [HL.out] at HNN
                unfold Par.val at HNN
                clear hm hmb hlg
                go_wp2_with (at_builtin; go_must (refine wpList_appB _ rfl _ _ 25 rfl w3.heap.size hui _ [] rfl hOE.out A L c obj rfl HL.out HA.out (HO.out.kept (HK3.out.fresh HKA.out)) 0 rfl (by omega) (by simp) ?_); intro v4 w4 hown4 hgr4; have HK4 := hid (HKA.out.grown hgr4 (fun i e hlt => by have e : some i = some w3.heap.size := e; have e := Option.some.inj e; omega)); obtain ⟨r0, r1, r2, r3, r4⟩ := HC5.out w4 HK4.out; have HOW := hid (show OwnB w4 w3.heap.size v4 obj from hown4); obtain ⟨A4, c4, hv4, hc4, hA4, hb4⟩ := OwnB.reads HOW.out; rw [HL.out] at hv4 hc4; subst hv4; have HB4 := hid hb4; clear hown4 hgr4 hb4)
                refine (HNN.out A4 c4 _).mono ?_
                rintro e w5 ⟨rfl, hk5⟩
                have HK5 := hid (HK4.out.fresh hk5)
                clear r0 r1 r2 r3 r4 hk5
                obtain ⟨r0, r1, r2, r3, r4⟩ := HC5.out w5 HK5.out
                go_wp2_with fail
                refine (HMA.out _).mono ?_
                rintro e w6 ⟨rfl, HK6⟩
                have HK6 := hid (HK5.out.fresh HK6)
                clear r0 r1 r2 r3 r4
                obtain ⟨r0, r1, r2, r3, r4⟩ := HC5.out w6 HK6.out
                go_wp2_with fail
                go_ret
                exact ⟨rfl, HK3.out.fresh HK6.out⟩
              · have d5 : decide ((Q : Int) < (L : Int)) = false := decide_eq_false (by omega)
                have d5n : decide (Q < L) = false := decide_eq_false hlg
                have hle : (obj.length : Int) ≤ p.n * p.b := by rw [hNBi, HL.out]; omega
                have HLE := hid hle
                have HNN := hid (fun (R : Nat → Prop) (V : Option Addr) (cv : Nat) (W : World) (hb : BytesIn R W V obj) (hc : L ≤ cv) => emitNew_core p session obj V cv R W hm hs hb (by rw [HL.out]; exact hc) hle)
                have HRP := hid (fun (id : Nat) (W : World) (hi : id < 18446744073709551616) (hW : Keeps NoB w3 W) => rpacket_calls p session obj A c id (fun _ => True) W hm hs hi (HO.out.kept (HK3.out.fresh hW)) hn60)
                have HRF := hid (fun (id : Nat) (W : World) (hi : id < 18446744073709551616) (hW : Keeps NoB w3 W) => rframe_calls p session obj A c id (fun _ => True) W hm hle hs hi (HO.out.kept (HK3.out.fresh hW)) hn60)
                have HPK := hid (fun (z id : Nat) (W : World) (hz : EncAt W z p session obj) (hi : id < 18446744073709551616) => packet_calls z p session obj id W hz hm hs hi)
                have HFR := hid (fun (z id : Nat) (W : World) (hz : EncAt W z p session obj) (hi : id < 18446744073709551616) => frame_calls z p session obj id W hz hm hle hs hi)
                have HPL := hid (fun (id : Nat) => payN_length hm session obj id)
                have HFL := hid (fun (id : Nat) => frameN_length hm session obj id)
                rw [HL.out] at HNN HRP HRF HPK
                unfold Par.val at HNN HRP HRF
                have HB1 := hid (show 1 ≤ p.b ∧ p.b ≤ 60 from ⟨hm.2.2.1, hb60⟩)
                clear hm hmb hlg hle
                go_wp2_with (at_builtin; go_must (refine wpList_appB _ rfl _ _ 25 rfl w3.heap.size hui _ [] rfl hOE.out A L c obj rfl HL.out HA.out (HO.out.kept (HK3.out.fresh HKA.out)) 0 rfl (by omega) (by simp) ?_); intro v4 w4 hown4 hgr4; have HK4 := hid (HKA.out.grown hgr4 (fun i e hlt => by have e : some i = some w3.heap.size := e; have e := Option.some.inj e; omega)); obtain ⟨r0, r1, r2, r3, r4⟩ := HC5.out w4 HK4.out; have HOW := hid (show OwnB w4 w3.heap.size v4 obj from hown4); obtain ⟨A4, c4, hv4, hc4, hA4, hb4⟩ := OwnB.reads HOW.out; rw [HL.out] at hv4 hc4; subst hv4; have HB4 := hid hb4; clear hown4 hgr4 hb4)
                refine (HNN.out _ A4 c4 _ HB4.out hc4).mono ?_
                rintro e w5 ⟨en, rfl, hcore, hk5⟩
                have HCO := hid hcore
                have HK45 := hid hk5
                have HK5 := hid (HK4.out.fresh hk5)
                clear r0 r1 r2 r3 r4 hk5 hcore
                obtain ⟨r0, r1, r2, r3, r4⟩ := HC5.out w5 HK5.out
                go_wp2_with fail
                refine (HMA.out _).mono ?_
                rintro e w6 ⟨rfl, hk6⟩
                have HK56 := hid hk6
                have HK6 := hid (HK5.out.fresh hk6)
                clear r0 r1 r2 r3 r4 hk6
                obtain ⟨r0, r1, r2, r3, r4⟩ := HC5.out w6 HK6.out
                go_wp2_with fail
                have HOW6 := hid (OwnInts.kept HOW.out (HK45.out.fresh HK56.out))
                clear r0 r1 r2 r3 r4
                go_loopw [95] (fun v95 wr => ∃ k : Nat, k ≤ L ∧ v95 = .int .i64 (k : Int) ∧ Hid (∃ l : List UInt8, l.length = L ∧ OwnB wr w3.heap.size (.slice A4 L c4) l) ∧ Hid (Keeps NoB w3 wr) ∧ Hid (Keeps (fun b => b < w4.heap.size) w6 wr)) (fun v95 _ => L - (intOf v95).toNat)
                case atStart => exact ⟨0, Nat.zero_le _, rfl, hid ⟨obj, HL.out, HOW6.out⟩, HK6, Keeps.refl _ _⟩
                case round =>
                  obtain ⟨k, hk, rfl, HOL, HKr, HKB⟩ := hrel
                  by_cases hlt : k < L
                  · obtain ⟨l, hl, hol⟩ := HOL.out
                    obtain ⟨g4, cc4, hf4⟩ := OwnInts.form hol (by rw [enc8_length]; omega)
                    rw [enc8_length, hl] at hf4
                    have e5 := hf4
                    injection hf4 with f1 f2 f3
                    subst f1 f3
                    have hcell := OwnInts.cell hol (j := k) (by rw [enc8_length]; omega)
                    rw [gi_enc8 l k (by omega)] at hcell
                    have hfree := OwnInts.free hol k
                    have hbl := OwnInts.base_le HOW.out g4 rfl
                    have hx := (gb l k).toNat_lt
                    have hset := hid (OwnInts.set hol (j := k) (by rw [enc8_length]; omega) ((((gb l k).toNat : Int) + 1) % 256))
                    have q0 : (0 : Int) ≤ (k : Int) := by omega
                    have q1 : (k : Int) < (L : Int) := by omega
                    have HLL := hid hl
                    generalize hgx : (gb l k).toNat = x at *
                    have HX := hid hx
                    have hwx : ∃ y : UInt8, ((x : Int) + 1) % 256 = (y.toNat : Int) := by
                      by_cases h : x = 255
                      · exact ⟨0, by subst h; decide⟩
                      · refine ⟨UInt8.ofNat (x + 1), ?_⟩
                        have : (UInt8.ofNat (x + 1)).toNat = x + 1 := by
                          rw [UInt8.toNat_ofNat', Nat.mod_eq_of_lt (by omega)]
                        rw [this]
                        show (((x : Int) + 1) % 256) = _
                        omega
                    obtain ⟨y, hy⟩ := hwx
                    have HNEW := hid (show OwnB (wr.setCell ⟨g4, k, none⟩ (.int .u8 (((x : Int) + 1) % 256))) w3.heap.size (.slice (some ⟨g4, 0, none⟩) L c4) (l.set k y) by
                      have := hset.out
                      rw [hy, enc8_set] at this
                      rw [hy]
                      exact this)
                    have HK1s := hid (HKr.out.setCell (p := ⟨g4, k, none⟩) (fun h => absurd h (by show ¬ g4 < _; omega)) (.int .u8 (((x : Int) + 1) % 256)))
                    have HK2s := hid (HKB.out.setCell (p := ⟨g4, k, none⟩) (fun h => by show g4 < w4.heap.size; omega) (.int .u8 (((x : Int) + 1) % 256)))
                    clear hol hset hy hgx hl hbl
                    go_wp2_with fail
                    go_roundw
                    case rel => exact ⟨k + 1, by omega, by go_num, hid ⟨l.set k y, by rw [List.length_set]; exact HLL.out, HNEW.out⟩, HK1s, HK2s⟩
                    case measure => simp [intOf]; omega
                  · obtain rfl : L = k := by omega
                    have HE := hid (HCO.out wr ((HK56.out.mono (fun _ h _ => h.elim)).then HKB.out (fun i h _ => h)))
                    have HKw := hid HKr.out
                    have HD := hid (show IntsAt wr .u64 D (ids.map (fun n : Nat => (n : Int))) ∧ ∀ x ∈ ids, x < 18446744073709551616 from ⟨HI.out.1.kept (HK3.out.fresh HKw.out), HI.out.2⟩)
                    obtain ⟨w8, hw8⟩ : ∃ x, x = wr := ⟨_, rfl⟩
                    rw [← hw8] at HE HKw HD ⊢
                    clear hw8 HKr HKB HOL HCO HOW HOW6 HB4 HK4 HK5 HK6 HK56 HK45 hA4 hc4
                    go_wp2_with fail
                    go_loopw [107] (fun v107 wr => ∃ k : Nat, k ≤ M ∧ v107 = .int .i64 (k : Int) ∧ Hid (Keeps NoB w8 wr)) (fun v107 _ => M - (intOf v107).toNat)
                    case atStart => exact ⟨0, Nat.zero_le _, rfl, Keeps.refl _ _⟩
                    case round =>
                      obtain ⟨j, hj, rfl, HKr⟩ := hrel
                      by_cases hltj : j < M
                      · obtain ⟨b, off, rfl, hc⟩ := HD.out.1.get (by rw [List.length_map, HM.out]; omega)
                        have hck := HKr.out.cell (hc j (by rw [List.length_map, HM.out]; exact hltj)) (fun h => h)
                        rw [gi_map ids j (by rw [HM.out]; exact hltj)] at hck
                        have hid64 := HD.out.2 (ids.getD j 0) (getD_mem ids 0 (by rw [HM.out]; exact hltj))
                        generalize ids.getD j 0 = id at *
                        have HQP := hid (fun (W : World) (hW : Keeps NoB w8 W) => HPK.out en id W (HE.out.kept hW) hid64)
                        have HQF := hid (fun (W : World) (hW : Keeps NoB w8 W) => HFR.out en id W (HE.out.kept hW) hid64)
                        have HQR := hid (fun (W : World) (hW : Keeps NoB w8 W) => HRP.out id W hid64 (HKw.out.fresh hW))
                        have HQG := hid (fun (W : World) (hW : Keeps NoB w8 W) => HRF.out id W hid64 (HKw.out.fresh hW))
                        have HPLi := hid (HPL.out id)
                        have HFLi := hid (HFL.out id)
                        have HC8 := hid (fun (W : World) (hW : Keeps NoB w8 W) => HC5.out W (HKw.out.fresh hW))
                        have HSA := hid (fun (A1 A2 : Option Addr) (c1 c2 : Nat) (R1 R2 : Nat → Prop) (W : World) (h1 : BytesIn R1 W A1 (payN p session obj id)) (h2 : BytesIn R2 W A2 (payN p session obj id)) => same06_calls p session (L : Int) id (payN p session obj id) A1 A2 p.b.toNat c1 c2 R1 R2 W h1 h2 HPLi.out)
                        generalize payN p session obj id = pay at *
                        generalize frameN p session obj id = fr at *
                        obtain ⟨B, hB⟩ : ∃ B, p.b.toNat = B := ⟨_, rfl⟩
                        rw [hB] at HQP HQF HQR HQG HPLi HFLi HSA
                        obtain ⟨r0, r1, r2, r3, r4⟩ := HC8.out wr HKr.out
                        clear hc hB
                        go_wp2_with fail
                        have HKd := hid (HKr.out.drew)
                        have dl : ((strOf fr).toList != (strOf fr).toList) = false := by simp
                        refine wp_region_list [([], [111], []), ([], [112], []), ([0, 1], [113], [111, 112]), ([0, 1, 2], [114], [111, 112, 113]), ([], [115], []), ([], [116], []), ([], [117], []), ([], [118], []), ([0, 1, 2, 4, 5, 6, 7], [119], [111, 112, 113, 115, 116, 117, 118]), ([0, 1, 2, 4, 5, 6, 7, 8], [120], [111, 112, 113, 115, 116, 117, 118, 119]), ([0, 1, 2, 3, 4, 5, 6, 7, 8, 9], [121], [111, 112, 113, 114, 115, 116, 117, 118, 119, 120]), ([0, 1, 2, 3, 4, 5, 6, 7, 8, 9, 10], [122], [111, 112, 113, 114, 115, 116, 117, 118, 119, 120, 121]), ([0, 1, 2, 3, 4, 5, 6, 7, 8, 9, 10, 11], [123], [111, 112, 113, 114, 115, 116, 117, 118, 119, 120, 121, 122]), ([0, 1, 2, 3, 4, 5, 6, 7, 8, 9, 10, 11], [124], [111, 112, 113, 114, 115, 116, 117, 118, 119, 120, 121, 122]), ([0, 1, 2, 3, 4, 5, 6, 7, 8, 9, 10, 11, 12, 13], [125], [111, 112, 113, 114, 115, 116, 117, 118, 119, 120, 121, 122, 123, 124]), ([0, 1, 2, 3, 4, 5, 6, 7, 8, 9, 10, 11], [126], [111, 112, 113, 114, 115, 116, 117, 118, 119, 120, 121, 122]), ([0, 1, 2, 3, 4, 5, 6, 7, 8, 9, 10, 11], [127], [111, 112, 113, 114, 115, 116, 117, 118, 119, 120, 121, 122]), ([0, 1, 2, 3, 4, 5, 6, 7, 8, 9, 10, 11], [128], [111, 112, 113, 114, 115, 116, 117, 118, 119, 120, 121, 122]), ([0, 1, 2, 3, 4, 5, 6, 7, 8, 9, 10, 11], [129], [111, 112, 113, 114, 115, 116, 117, 118, 119, 120, 121, 122]), ([0, 1, 2, 3, 4, 5, 6, 7, 8, 9, 10, 11, 12, 13, 14, 15, 16, 17, 18], [130], [111, 112, 113, 114, 115, 116, 117, 118, 119, 120, 121, 122, 123, 124, 125, 126, 127, 128, 129]), ([0, 1, 2, 3, 4, 5, 6, 7, 8, 9, 10, 11, 12, 13, 14, 15, 16, 17, 18, 19], [131], [111, 112, 113, 114, 115, 116, 117, 118, 119, 120, 121, 122, 123, 124, 125, 126, 127, 128, 129, 130]), ([0, 1, 2, 3, 4, 5, 6, 7, 8, 9, 10, 11, 12, 13, 14, 15, 16, 17, 18, 19, 20], [132], [111, 112, 113, 114, 115, 116, 117, 118, 119, 120, 121, 122, 123, 124, 125, 126, 127, 128, 129, 130, 131]), ([0, 1, 2, 3, 4, 5, 6, 7, 8, 9, 10, 11, 12, 13, 14, 15, 16, 17, 18, 19, 20, 21], [133], [111, 112, 113, 114, 115, 116, 117, 118, 119, 120, 121, 122, 123, 124, 125, 126, 127, 128, 129, 130, 131, 132])] [111, 112, 113, 114, 115, 116, 117, 118, 119, 120, 121, 122, 123, 124, 125, 126, 127, 128, 129, 130, 131, 132, 133] (Keeps NoB) (fun (i : Nat) => ([(fun rs__ U => (rs__.getD 0 undef) = Value.pointer (some ⟨en, 0, none⟩)), (fun rs__ U => (rs__.getD 0 undef) = Value.int .u64 (id : Int)), (fun rs__ U => ∃ A5 c5, (rs__.getD 0 undef) = Value.slice A5 (42 + B) c5 ∧ Hid (BytesIn (fun _ => True) U A5 fr)), (fun rs__ U => (rs__.getD 0 undef) = Value.string (strOf fr)), (fun rs__ U => (rs__.getD 0 undef) = Value.agg #[.int .i64 p.n, .int .i64 p.b, .int .i64 p.q, .int .i64 p.eps, .int .i64 p.f]), (fun rs__ U => (rs__.getD 0 undef) = Value.int .u64 (session : Int)), (fun rs__ U => (rs__.getD 0 undef) = Value.slice A L c), (fun rs__ U => (rs__.getD 0 undef) = Value.int .u64 (id : Int)), (fun rs__ U => ∃ A5 c5, (rs__.getD 0 undef) = Value.slice A5 (42 + B) c5 ∧ Hid (BytesIn (fun _ => True) U A5 fr)), (fun rs__ U => (rs__.getD 0 undef) = Value.string (strOf fr)), (fun rs__ U => (rs__.getD 0 undef) = Value.bool false), (fun rs__ U => (rs__.getD 0 undef) = Value.bool false), (fun rs__ U => (rs__.getD 0 undef) = Value.pointer (some ⟨en, 0, none⟩)), (fun rs__ U => (rs__.getD 0 undef) = Value.int .u64 (id : Int)), (fun rs__ U => ∃ Ap cp, (rs__.getD 0 undef) = Value.agg #[.int .u64 (session : Int), .int .i64 p.n, .int .i64 p.b, .int .i64 p.q, .int .i64 p.eps, .int .i64 p.f, .int .i64 (L : Int), .int .u64 (id : Int), .slice Ap B cp] ∧ Hid (BytesIn (fun _ => True) U Ap pay)), (fun rs__ U => (rs__.getD 0 undef) = Value.agg #[.int .i64 p.n, .int .i64 p.b, .int .i64 p.q, .int .i64 p.eps, .int .i64 p.f]), (fun rs__ U => (rs__.getD 0 undef) = Value.int .u64 (session : Int)), (fun rs__ U => (rs__.getD 0 undef) = Value.slice A L c), (fun rs__ U => (rs__.getD 0 undef) = Value.int .u64 (id : Int)), (fun rs__ U => ∃ Ap cp, (rs__.getD 0 undef) = Value.agg #[.int .u64 (session : Int), .int .i64 p.n, .int .i64 p.b, .int .i64 p.q, .int .i64 p.eps, .int .i64 p.f, .int .i64 (L : Int), .int .u64 (id : Int), .slice Ap B cp] ∧ Hid (BytesIn (fun _ => True) U Ap pay)), (fun rs__ U => (rs__.getD 0 undef) = Value.bool true), (fun rs__ U => (rs__.getD 0 undef) = Value.bool false), (fun rs__ U => (rs__.getD 0 undef) = Value.bool false)] : List (List Value → World → Prop)).getD i (fun _ _ => True)) (by kernel_rfl) (by kernel_rfl) (by kernel_rfl) (fun _ _ _ h1 h2 => h1.fresh h2) (fun _ => Keeps.refl _ _) (RL.cons ?s0 (RL.cons ?s1 (RL.cons ?s2 (RL.cons ?s3 (RL.cons ?s4 (RL.cons ?s5 (RL.cons ?s6 (RL.cons ?s7 (RL.cons ?s8 (RL.cons ?s9 (RL.cons ?s10 (RL.cons ?s11 (RL.cons ?s12 (RL.cons ?s13 (RL.cons ?s14 (RL.cons ?s15 (RL.cons ?s16 (RL.cons ?s17 (RL.cons ?s18 (RL.cons ?s19 (RL.cons ?s20 (RL.cons ?s21 (RL.cons ?s22 (RL.nil _ _)))))))))))))))))))))))) ?fin
                        case s0 =>
                          intro V wx hE hd
                          clear hd
                          intro K hK
                          simp only [rput, List.foldl_cons, List.foldl_nil, Act.put, List.setIfInBounds_toArray, List.set_cons_zero, List.set_cons_succ]
                          go_simp; (with_reducible refine hK.out _ _ ?_ ?_); exact rfl; exact ⟨Keeps.refl _ _, rfl⟩
                        case s1 =>
                          intro V wx hE hd
                          clear hd
                          intro K hK
                          simp only [rput, List.foldl_cons, List.foldl_nil, Act.put, List.setIfInBounds_toArray, List.set_cons_zero, List.set_cons_succ]
                          go_simp; (with_reducible refine hK.out _ _ ?_ ?_); exact rfl; exact ⟨Keeps.refl _ _, rfl⟩
                        case s2 =>
                          intro V wx hE hd
                          obtain ⟨u0, hb0, hu0, p0⟩ : ∃ U, Keeps NoB wr.drew U ∧ Keeps NoB U wx ∧ ((V 111) = Value.pointer (some ⟨en, 0, none⟩)) := hd 0 (by decide)
                          obtain ⟨u1, hb1, hu1, p1⟩ : ∃ U, Keeps NoB wr.drew U ∧ Keeps NoB U wx ∧ ((V 112) = Value.int .u64 (id : Int)) := hd 1 (by decide)
                          clear hd
                          clear hb0 hu0
                          clear hb1 hu1
                          intro K hK
                          simp only [rput, List.foldl_cons, List.foldl_nil, Act.put, List.setIfInBounds_toArray, List.set_cons_zero, List.set_cons_succ, p0, p1]
                          go_simp; refine (HQF.out wx (HKd.out.fresh hE)).mono ?_; rintro e w9 ⟨A5, c5, rfl, ho9, hk9⟩; (with_reducible refine hK.out _ _ ?_ ?_); exact rfl; exact ⟨hk9, A5, c5, rfl, hid ((OwnB.bytes ho9).mono (fun _ _ _ => trivial))⟩
                        case s3 =>
                          intro V wx hE hd
                          obtain ⟨u2, hb2, hu2, p2⟩ : ∃ U, Keeps NoB wr.drew U ∧ Keeps NoB U wx ∧ (∃ A5 c5, (V 113) = Value.slice A5 (42 + B) c5 ∧ Hid (BytesIn (fun _ => True) U A5 fr)) := hd 2 (by decide)
                          clear hd
                          obtain ⟨A5, c5, q2, hby⟩ := p2
                          intro K hK
                          simp only [rput, List.foldl_cons, List.foldl_nil, Act.put, List.setIfInBounds_toArray, List.set_cons_zero, List.set_cons_succ, q2]
                          have hcv := conv_run 25 9 Try.underlying25 Try.underlying9 (hby.out.kept hu2) c5; rw [HFLi.out] at hcv; go_simp; (with_reducible refine hK.out _ _ ?_ ?_); exact rfl; exact ⟨Keeps.refl _ _, rfl⟩
                        case s4 =>
                          intro V wx hE hd
                          clear hd
                          intro K hK
                          simp only [rput, List.foldl_cons, List.foldl_nil, Act.put, List.setIfInBounds_toArray, List.set_cons_zero, List.set_cons_succ]
                          obtain ⟨r0, r1, r2, r3, r4⟩ := HC8.out wx (HKd.out.fresh hE); go_simp; (with_reducible refine hK.out _ _ ?_ ?_); exact rfl; exact ⟨Keeps.refl _ _, rfl⟩
                        case s5 =>
                          intro V wx hE hd
                          clear hd
                          intro K hK
                          simp only [rput, List.foldl_cons, List.foldl_nil, Act.put, List.setIfInBounds_toArray, List.set_cons_zero, List.set_cons_succ]
                          go_simp; (with_reducible refine hK.out _ _ ?_ ?_); exact rfl; exact ⟨Keeps.refl _ _, rfl⟩
                        case s6 =>
                          intro V wx hE hd
                          clear hd
                          intro K hK
                          simp only [rput, List.foldl_cons, List.foldl_nil, Act.put, List.setIfInBounds_toArray, List.set_cons_zero, List.set_cons_succ]
                          go_simp; (with_reducible refine hK.out _ _ ?_ ?_); exact rfl; exact ⟨Keeps.refl _ _, rfl⟩
                        case s7 =>
                          intro V wx hE hd
                          clear hd
                          intro K hK
                          simp only [rput, List.foldl_cons, List.foldl_nil, Act.put, List.setIfInBounds_toArray, List.set_cons_zero, List.set_cons_succ]
                          go_simp; (with_reducible refine hK.out _ _ ?_ ?_); exact rfl; exact ⟨Keeps.refl _ _, rfl⟩
                        case s8 =>
                          intro V wx hE hd
                          obtain ⟨u4, hb4, hu4, p4⟩ : ∃ U, Keeps NoB wr.drew U ∧ Keeps NoB U wx ∧ ((V 115) = Value.agg #[.int .i64 p.n, .int .i64 p.b, .int .i64 p.q, .int .i64 p.eps, .int .i64 p.f]) := hd 4 (by decide)
                          obtain ⟨u5, hb5, hu5, p5⟩ : ∃ U, Keeps NoB wr.drew U ∧ Keeps NoB U wx ∧ ((V 116) = Value.int .u64 (session : Int)) := hd 5 (by decide)
                          obtain ⟨u6, hb6, hu6, p6⟩ : ∃ U, Keeps NoB wr.drew U ∧ Keeps NoB U wx ∧ ((V 117) = Value.slice A L c) := hd 6 (by decide)
                          obtain ⟨u7, hb7, hu7, p7⟩ : ∃ U, Keeps NoB wr.drew U ∧ Keeps NoB U wx ∧ ((V 118) = Value.int .u64 (id : Int)) := hd 7 (by decide)
                          clear hd
                          clear hb4 hu4
                          clear hb5 hu5
                          clear hb6 hu6
                          clear hb7 hu7
                          intro K hK
                          simp only [rput, List.foldl_cons, List.foldl_nil, Act.put, List.setIfInBounds_toArray, List.set_cons_zero, List.set_cons_succ, p4, p5, p6, p7]
                          go_simp; refine (HQG.out wx (HKd.out.fresh hE)).mono ?_; rintro e w9 ⟨A5, c5, rfl, ho9, hk9⟩; (with_reducible refine hK.out _ _ ?_ ?_); exact rfl; exact ⟨hk9, A5, c5, rfl, hid ((OwnB.bytes ho9).mono (fun _ _ _ => trivial))⟩
                        case s9 =>
                          intro V wx hE hd
                          obtain ⟨u8, hb8, hu8, p8⟩ : ∃ U, Keeps NoB wr.drew U ∧ Keeps NoB U wx ∧ (∃ A5 c5, (V 119) = Value.slice A5 (42 + B) c5 ∧ Hid (BytesIn (fun _ => True) U A5 fr)) := hd 8 (by decide)
                          clear hd
                          obtain ⟨A5, c5, q8, hby⟩ := p8
                          intro K hK
                          simp only [rput, List.foldl_cons, List.foldl_nil, Act.put, List.setIfInBounds_toArray, List.set_cons_zero, List.set_cons_succ, q8]
                          have hcv := conv_run 25 9 Try.underlying25 Try.underlying9 (hby.out.kept hu8) c5; rw [HFLi.out] at hcv; go_simp; (with_reducible refine hK.out _ _ ?_ ?_); exact rfl; exact ⟨Keeps.refl _ _, rfl⟩
                        case s10 =>
                          intro V wx hE hd
                          obtain ⟨u3, hb3, hu3, p3⟩ : ∃ U, Keeps NoB wr.drew U ∧ Keeps NoB U wx ∧ ((V 114) = Value.string (strOf fr)) := hd 3 (by decide)
                          obtain ⟨u9, hb9, hu9, p9⟩ : ∃ U, Keeps NoB wr.drew U ∧ Keeps NoB U wx ∧ ((V 120) = Value.string (strOf fr)) := hd 9 (by decide)
                          clear hd
                          clear hb3 hu3
                          clear hb9 hu9
                          intro K hK
                          simp only [rput, List.foldl_cons, List.foldl_nil, Act.put, List.setIfInBounds_toArray, List.set_cons_zero, List.set_cons_succ, p3, p9]
                          go_simp; (with_reducible refine hK.out _ _ ?_ ?_); exact rfl; exact ⟨Keeps.refl _ _, rfl⟩
                        case s11 =>
                          intro V wx hE hd
                          obtain ⟨u10, hb10, hu10, p10⟩ : ∃ U, Keeps NoB wr.drew U ∧ Keeps NoB U wx ∧ ((V 121) = Value.bool false) := hd 10 (by decide)
                          clear hd
                          clear hb10 hu10
                          intro K hK
                          simp only [rput, List.foldl_cons, List.foldl_nil, Act.put, List.setIfInBounds_toArray, List.set_cons_zero, List.set_cons_succ, p10]
                          go_simp; (with_reducible refine hK.out _ _ ?_ ?_); exact rfl; exact ⟨Keeps.refl _ _, rfl⟩
                        case s12 =>
                          intro V wx hE hd
                          obtain ⟨u11, hb11, hu11, p11⟩ : ∃ U, Keeps NoB wr.drew U ∧ Keeps NoB U wx ∧ ((V 122) = Value.bool false) := hd 11 (by decide)
                          clear hd
                          clear hb11 hu11
                          intro K hK
                          simp only [rput, List.foldl_cons, List.foldl_nil, Act.put, List.setIfInBounds_toArray, List.set_cons_zero, List.set_cons_succ, p11]
                          go_simp; (with_reducible refine hK.out _ _ ?_ ?_); exact rfl; exact ⟨Keeps.refl _ _, rfl⟩
                        case s13 =>
                          intro V wx hE hd
                          obtain ⟨u11, hb11, hu11, p11⟩ : ∃ U, Keeps NoB wr.drew U ∧ Keeps NoB U wx ∧ ((V 122) = Value.bool false) := hd 11 (by decide)
                          clear hd
                          clear hb11 hu11
                          intro K hK
                          simp only [rput, List.foldl_cons, List.foldl_nil, Act.put, List.setIfInBounds_toArray, List.set_cons_zero, List.set_cons_succ, p11]
                          go_simp; (with_reducible refine hK.out _ _ ?_ ?_); exact rfl; exact ⟨Keeps.refl _ _, rfl⟩
                        case s14 =>
                          intro V wx hE hd
                          obtain ⟨u11, hb11, hu11, p11⟩ : ∃ U, Keeps NoB wr.drew U ∧ Keeps NoB U wx ∧ ((V 122) = Value.bool false) := hd 11 (by decide)
                          obtain ⟨u12, hb12, hu12, p12⟩ : ∃ U, Keeps NoB wr.drew U ∧ Keeps NoB U wx ∧ ((V 123) = Value.pointer (some ⟨en, 0, none⟩)) := hd 12 (by decide)
                          obtain ⟨u13, hb13, hu13, p13⟩ : ∃ U, Keeps NoB wr.drew U ∧ Keeps NoB U wx ∧ ((V 124) = Value.int .u64 (id : Int)) := hd 13 (by decide)
                          clear hd
                          clear hb11 hu11
                          clear hb12 hu12
                          clear hb13 hu13
                          intro K hK
                          simp only [rput, List.foldl_cons, List.foldl_nil, Act.put, List.setIfInBounds_toArray, List.set_cons_zero, List.set_cons_succ, p11, p12, p13]
                          go_simp; refine (HQP.out wx (HKd.out.fresh hE)).mono ?_; rintro e w9 ⟨Ap, cp, rfl, ho9, hk9⟩; (with_reducible refine hK.out _ _ ?_ ?_); exact rfl; exact ⟨hk9, Ap, cp, rfl, hid ((OwnB.bytes ho9).mono (fun _ _ _ => trivial))⟩
                        case s15 =>
                          intro V wx hE hd
                          obtain ⟨u11, hb11, hu11, p11⟩ : ∃ U, Keeps NoB wr.drew U ∧ Keeps NoB U wx ∧ ((V 122) = Value.bool false) := hd 11 (by decide)
                          clear hd
                          clear hb11 hu11
                          intro K hK
                          simp only [rput, List.foldl_cons, List.foldl_nil, Act.put, List.setIfInBounds_toArray, List.set_cons_zero, List.set_cons_succ, p11]
                          obtain ⟨r0, r1, r2, r3, r4⟩ := HC8.out wx (HKd.out.fresh hE); go_simp; (with_reducible refine hK.out _ _ ?_ ?_); exact rfl; exact ⟨Keeps.refl _ _, rfl⟩
                        case s16 =>
                          intro V wx hE hd
                          obtain ⟨u11, hb11, hu11, p11⟩ : ∃ U, Keeps NoB wr.drew U ∧ Keeps NoB U wx ∧ ((V 122) = Value.bool false) := hd 11 (by decide)
                          clear hd
                          clear hb11 hu11
                          intro K hK
                          simp only [rput, List.foldl_cons, List.foldl_nil, Act.put, List.setIfInBounds_toArray, List.set_cons_zero, List.set_cons_succ, p11]
                          go_simp; (with_reducible refine hK.out _ _ ?_ ?_); exact rfl; exact ⟨Keeps.refl _ _, rfl⟩
                        case s17 =>
                          intro V wx hE hd
                          obtain ⟨u11, hb11, hu11, p11⟩ : ∃ U, Keeps NoB wr.drew U ∧ Keeps NoB U wx ∧ ((V 122) = Value.bool false) := hd 11 (by decide)
                          clear hd
                          clear hb11 hu11
                          intro K hK
                          simp only [rput, List.foldl_cons, List.foldl_nil, Act.put, List.setIfInBounds_toArray, List.set_cons_zero, List.set_cons_succ, p11]
                          go_simp; (with_reducible refine hK.out _ _ ?_ ?_); exact rfl; exact ⟨Keeps.refl _ _, rfl⟩
                        case s18 =>
                          intro V wx hE hd
                          obtain ⟨u11, hb11, hu11, p11⟩ : ∃ U, Keeps NoB wr.drew U ∧ Keeps NoB U wx ∧ ((V 122) = Value.bool false) := hd 11 (by decide)
                          clear hd
                          clear hb11 hu11
                          intro K hK
                          simp only [rput, List.foldl_cons, List.foldl_nil, Act.put, List.setIfInBounds_toArray, List.set_cons_zero, List.set_cons_succ, p11]
                          go_simp; (with_reducible refine hK.out _ _ ?_ ?_); exact rfl; exact ⟨Keeps.refl _ _, rfl⟩
                        case s19 =>
                          intro V wx hE hd
                          obtain ⟨u11, hb11, hu11, p11⟩ : ∃ U, Keeps NoB wr.drew U ∧ Keeps NoB U wx ∧ ((V 122) = Value.bool false) := hd 11 (by decide)
                          obtain ⟨u15, hb15, hu15, p15⟩ : ∃ U, Keeps NoB wr.drew U ∧ Keeps NoB U wx ∧ ((V 126) = Value.agg #[.int .i64 p.n, .int .i64 p.b, .int .i64 p.q, .int .i64 p.eps, .int .i64 p.f]) := hd 15 (by decide)
                          obtain ⟨u16, hb16, hu16, p16⟩ : ∃ U, Keeps NoB wr.drew U ∧ Keeps NoB U wx ∧ ((V 127) = Value.int .u64 (session : Int)) := hd 16 (by decide)
                          obtain ⟨u17, hb17, hu17, p17⟩ : ∃ U, Keeps NoB wr.drew U ∧ Keeps NoB U wx ∧ ((V 128) = Value.slice A L c) := hd 17 (by decide)
                          obtain ⟨u18, hb18, hu18, p18⟩ : ∃ U, Keeps NoB wr.drew U ∧ Keeps NoB U wx ∧ ((V 129) = Value.int .u64 (id : Int)) := hd 18 (by decide)
                          clear hd
                          clear hb11 hu11
                          clear hb15 hu15
                          clear hb16 hu16
                          clear hb17 hu17
                          clear hb18 hu18
                          intro K hK
                          simp only [rput, List.foldl_cons, List.foldl_nil, Act.put, List.setIfInBounds_toArray, List.set_cons_zero, List.set_cons_succ, p11, p15, p16, p17, p18]
                          go_simp; refine (HQR.out wx (HKd.out.fresh hE)).mono ?_; rintro e w9 ⟨Ap, cp, rfl, ho9, hk9⟩; (with_reducible refine hK.out _ _ ?_ ?_); exact rfl; exact ⟨hk9, Ap, cp, rfl, hid ((OwnB.bytes ho9).mono (fun _ _ _ => trivial))⟩
                        case s20 =>
                          intro V wx hE hd
                          obtain ⟨u11, hb11, hu11, p11⟩ : ∃ U, Keeps NoB wr.drew U ∧ Keeps NoB U wx ∧ ((V 122) = Value.bool false) := hd 11 (by decide)
                          obtain ⟨u14, hb14, hu14, p14⟩ : ∃ U, Keeps NoB wr.drew U ∧ Keeps NoB U wx ∧ (∃ Ap cp, (V 125) = Value.agg #[.int .u64 (session : Int), .int .i64 p.n, .int .i64 p.b, .int .i64 p.q, .int .i64 p.eps, .int .i64 p.f, .int .i64 (L : Int), .int .u64 (id : Int), .slice Ap B cp] ∧ Hid (BytesIn (fun _ => True) U Ap pay)) := hd 14 (by decide)
                          obtain ⟨u19, hb19, hu19, p19⟩ : ∃ U, Keeps NoB wr.drew U ∧ Keeps NoB U wx ∧ (∃ Ap cp, (V 130) = Value.agg #[.int .u64 (session : Int), .int .i64 p.n, .int .i64 p.b, .int .i64 p.q, .int .i64 p.eps, .int .i64 p.f, .int .i64 (L : Int), .int .u64 (id : Int), .slice Ap B cp] ∧ Hid (BytesIn (fun _ => True) U Ap pay)) := hd 19 (by decide)
                          clear hd
                          clear hb11 hu11
                          obtain ⟨Ap14, cp14, q14, hby14⟩ := p14
                          obtain ⟨Ap19, cp19, q19, hby19⟩ := p19
                          intro K hK
                          simp only [rput, List.foldl_cons, List.foldl_nil, Act.put, List.setIfInBounds_toArray, List.set_cons_zero, List.set_cons_succ, p11, q14, q19]
                          go_simp; refine (HSA.out Ap14 Ap19 cp14 cp19 _ _ wx (hby14.out.kept hu14) (hby19.out.kept hu19)).mono ?_; rintro e w9 ⟨rfl, hk9⟩; (with_reducible refine hK.out _ _ ?_ ?_); exact rfl; exact ⟨hk9, rfl⟩
                        case s21 =>
                          intro V wx hE hd
                          obtain ⟨u11, hb11, hu11, p11⟩ : ∃ U, Keeps NoB wr.drew U ∧ Keeps NoB U wx ∧ ((V 122) = Value.bool false) := hd 11 (by decide)
                          obtain ⟨u20, hb20, hu20, p20⟩ : ∃ U, Keeps NoB wr.drew U ∧ Keeps NoB U wx ∧ ((V 131) = Value.bool true) := hd 20 (by decide)
                          clear hd
                          clear hb11 hu11
                          clear hb20 hu20
                          intro K hK
                          simp only [rput, List.foldl_cons, List.foldl_nil, Act.put, List.setIfInBounds_toArray, List.set_cons_zero, List.set_cons_succ, p11, p20]
                          go_simp; (with_reducible refine hK.out _ _ ?_ ?_); exact rfl; exact ⟨Keeps.refl _ _, rfl⟩
                        case s22 =>
                          intro V wx hE hd
                          obtain ⟨u11, hb11, hu11, p11⟩ : ∃ U, Keeps NoB wr.drew U ∧ Keeps NoB U wx ∧ ((V 122) = Value.bool false) := hd 11 (by decide)
                          obtain ⟨u21, hb21, hu21, p21⟩ : ∃ U, Keeps NoB wr.drew U ∧ Keeps NoB U wx ∧ ((V 132) = Value.bool false) := hd 21 (by decide)
                          clear hd
                          clear hb11 hu11
                          clear hb21 hu21
                          intro K hK
                          simp only [rput, List.foldl_cons, List.foldl_nil, Act.put, List.setIfInBounds_toArray, List.set_cons_zero, List.set_cons_succ, p11, p21]
                          go_simp; (with_reducible refine hK.out _ _ ?_ ?_); exact rfl; exact ⟨Keeps.refl _ _, rfl⟩
                        case fin =>
                          intro V wz hE hd
                          obtain ⟨u22, hb22, hu22, p22⟩ : ∃ U, Keeps NoB wr.drew U ∧ Keeps NoB U wz ∧ ((V 133) = Value.bool false) := hd 22 (by decide)
                          clear hd
                          clear hb22 hu22
                          simp only [rput, List.foldl_cons, List.foldl_nil, Act.put, List.setIfInBounds_toArray, List.set_cons_zero, List.set_cons_succ, p22]
                          clear p22
                          go_wp2_with fail
                          go_roundw
                          case rel => exact ⟨j + 1, by omega, by go_num, hid (HKd.out.fresh hE)⟩
                          case measure => simp [intOf]; omega
                      · obtain rfl : j = M := by omega
                        go_wp2_with fail
                        go_ret
                        exact ⟨rfl, HK3.out.fresh (HKw.out.fresh HKr.out)⟩
            · have hmb := mayB_false hm
              have HNN := hid (fun (V : Option Addr) (cv : Nat) (W : World) => emitNew_no p session obj V cv W hm)
              have HMA := hid (fun (W : World) => may_calls p W)
              rw [hmb] at HMA
              rw [HL.out] at HNN
              unfold Par.val at HNN HMA
              clear hm hmb
              go_wp2_with (at_builtin; go_must (refine wpList_appB _ rfl _ _ 25 rfl w3.heap.size hui _ [] rfl hOE.out A L c obj rfl HL.out HA.out (HO.out.kept (HK3.out.fresh HKA.out)) 0 rfl (by omega) (by simp) ?_); intro v4 w4 hown4 hgr4; have HK4 := hid (HKA.out.grown hgr4 (fun i e hlt => by have e : some i = some w3.heap.size := e; have e := Option.some.inj e; omega)); obtain ⟨r0, r1, r2, r3, r4⟩ := HC5.out w4 HK4.out; have HOW := hid (show OwnB w4 w3.heap.size v4 obj from hown4); obtain ⟨A4, c4, hv4, hc4, hA4, hb4⟩ := OwnB.reads HOW.out; rw [HL.out] at hv4 hc4; subst hv4; have HB4 := hid hb4; clear hown4 hgr4 hb4)
              refine (HNN.out A4 c4 _).mono ?_
              rintro e w5 ⟨rfl, hk5⟩
              have HK5 := hid (HK4.out.fresh hk5)
              clear r0 r1 r2 r3 r4 hk5
              obtain ⟨r0, r1, r2, r3, r4⟩ := HC5.out w5 HK5.out
              go_wp2_with fail
              refine (HMA.out _).mono ?_
              rintro e w6 ⟨rfl, HK6⟩
              have HK6 := hid (HK5.out.fresh HK6)
              go_wp2_with fail
              go_ret
              exact ⟨rfl, HK3.out.fresh HK6.out⟩
end Go.Proofs.Ytpkkaicpbihjfaa
/- An argument that is a slice of bytes. Conditions: the row's. -/
set_option linter.unusedVariables false
namespace Go.Proofs.Ytpkkaicpbihjfaa
open Go.RowKit

theorem bytes_of_ints : ∀ xs : List Int, (∀ n ∈ xs, (Lit.int .u8 n).wf = true) → ∃ l : List UInt8, xs = enc8 l
  | [], _ => ⟨[], rfl⟩
  | n :: r, h => by
    obtain ⟨l, hl⟩ := bytes_of_ints r (fun m hm => h m (List.mem_cons_of_mem _ hm))
    have hn := Go.bounds_u8 (h n (List.mem_cons_self ..))
    refine ⟨UInt8.ofNat n.toNat :: l, ?_⟩
    rw [hl]
    simp only [enc8, List.map_cons, List.cons.injEq, and_true]
    have : (UInt8.ofNat n.toNat).toNat = n.toNat := by
      rw [UInt8.toNat_ofNat', Nat.mod_eq_of_lt (by omega)]
    omega
theorem BytesIn.ofInts {w : World} {a : Option Addr} {xs : List Int} (h : IntsAt w .u8 a xs) (hw : ∀ n ∈ xs, (Lit.int .u8 n).wf = true) : ∃ l : List UInt8, xs.length = l.length ∧ BytesIn (fun _ => True) w a l := by
  obtain ⟨l, rfl⟩ := bytes_of_ints xs hw
  exact ⟨l, enc8_length l, h, fun _ _ _ _ => trivial⟩
end Go.Proofs.Ytpkkaicpbihjfaa
/- An argument that is an array of two slices of bytes. Conditions: the row's. -/
set_option linter.unusedVariables false
namespace Go.Proofs.Ytpkkaicpbihjfaa
open Go.ChangeShapes Go.WideShapes Go.ChangeAt Go.RowKit

theorem cell_bytes {H : Type} {enc : TypeId × Value → H} {W : World} {base : Nat} {sp : Nat → Bool} {held : Bool} {n : Nat} {v : Value} {y : DataW H × List MemPlace}
    (hsp : ∀ b, sp b = true) (h : DataW.trod enc Try.prog W base sp held n 25 [v] = some y) : ∃ (l : List UInt8) (a : Option Addr) (cap : Nat), v = .slice a l.length cap ∧ l.length ≤ cap ∧ (a = none → cap = 0) ∧ BytesIn (fun _ => True) W a l := by
  rcases open_ints Try.underlying25 Try.underlying5 (by kernel_rfl) h with ⟨hcs, _⟩ | ⟨x, l, c, zs, hcs, _, hl, hm, hz, _, hcell, hwz⟩
  · have : v = .slice none 0 0 := by simpa using hcs
    subst this
    exact ⟨[], none, 0, rfl, Nat.le_refl _, fun _ => rfl, BytesIn.nil _ _⟩
  · have : v = .slice (some x) l c := by simpa using hcs
    subst this
    rw [hsp, if_pos rfl] at hz
    obtain ⟨xs, rfl, h1, h2, h3⟩ := IsRow.ints (k := .u8) (w := W) (a := some x) (len := l) (cap := c) (zs := zs) (.inr ⟨x, rfl, hl, hm, hz, hcell, hwz⟩)
    obtain ⟨b, hb, hbi⟩ := BytesIn.ofInts h2 h3
    exact ⟨b, some x, c, by rw [hb], by omega, (fun e => by cases e), hbi⟩
set_option maxRecDepth 100000 in
theorem open_two {H : Type} {enc : TypeId × Value → H} {W : World} {r : Reach} {b0 base : Nat} {sp : Nat → Bool} {held : Bool} {v : Value} {d : DataW H} {p : List MemPlace}
    (hv : Value.okWide Try.prog W r b0 37 v) (hsp : ∀ b, sp b = true) (h : DataW.Trod enc Try.prog W base sp held 37 v d p) :
    ∃ l1 A1 c1 l2 A2 c2, v = .agg #[.slice A1 (List.length l1) c1, .slice A2 (List.length l2) c2] ∧ (l1.length ≤ c1 ∧ (A1 = none → c1 = 0) ∧ BytesIn (fun _ => True) W A1 l1) ∧ (l2.length ≤ c2 ∧ (A2 = none → c2 = 0) ∧ BytesIn (fun _ => True) W A2 l2) := by
  have hu := Try.underlying37
  have hC : Try.prog.cellsOf 37 = 2 := by kernel_rfl
  have hI : Try.prog.cellsOf 25 = 1 := by kernel_rfl
  unfold Value.okWide at hv
  rw [hu] at hv
  obtain ⟨cs, rfl, hsz, _⟩ := hv
  rw [hC] at hsz
  obtain ⟨fuel, hf⟩ := h
  obtain ⟨ys, n, _, _, hcl, hyl, hi⟩ := DataW.trod_array hu hf
  rw [hI] at hi
  simp only [Value.cells] at hcl hi
  have one : ∀ (i : Nat), i < 2 → ∃ (l : List UInt8) (a : Option Addr) (cap : Nat), cs.toList[i]? = some (.slice a l.length cap) ∧ l.length ≤ cap ∧ (a = none → cap = 0) ∧ BytesIn (fun _ => True) W a l := by
    intro i hi2
    have ht := hi i hi2
    have hlen : i < cs.toList.length := by simp; omega
    have e1 : (cs.toList.drop (i * 1)).take 1 = [cs.toList[i]] := by rw [Nat.mul_one, List.drop_eq_getElem_cons hlen]; rfl
    rw [e1, List.getElem?_eq_getElem (by omega)] at ht
    obtain ⟨l, a, cap, hx, hr⟩ := cell_bytes hsp ht
    exact ⟨l, a, cap, by rw [List.getElem?_eq_getElem hlen, hx], hr⟩
  obtain ⟨l1, A1, c1, e1, r1⟩ := one 0 (by omega)
  obtain ⟨l2, A2, c2, e2, r2⟩ := one 1 (by omega)
  refine ⟨l1, A1, c1, l2, A2, c2, ?_, r1, r2⟩
  obtain ⟨l⟩ := cs
  simp only [] at e1 e2 hsz
  have : l = [.slice A1 l1.length c1, .slice A2 l2.length c2] := by
    apply List.ext_getElem?
    intro i
    match i with
    | 0 => exact e1
    | 1 => exact e2
    | i + 2 => rw [List.getElem?_eq_none (by simp at hsz; omega), List.getElem?_eq_none (by simp)]
  subst this
  rfl
end Go.Proofs.Ytpkkaicpbihjfaa
/- Parameters by value, as a row's argument. No condition. -/
set_option linter.unusedVariables false
namespace Go.Proofs.Ytpkkaicpbihjfaa
open Go.ChangeShapes Go.WideShapes Go.ChangeAt Go.RowKit
set_option maxRecDepth 100000 in
theorem open_par {H : Type} {enc : TypeId × Value → H} {W : World} {r : Reach} {b0 base : Nat} {sp : Nat → Bool} {held : Bool} {v : Value} {d : DataW H} {p : List MemPlace}
    (hv : Value.okWide Try.prog W r b0 23 v) (h : DataW.Trod enc Try.prog W base sp held 23 v d p) : ∃ q : Par, v = q.val ∧ q.wf := by
  obtain ⟨cs, rfl, hsz⟩ := okWide_struct Try.underlying23 hv
  have hC : Try.prog.cellsOf 23 = 5 := by kernel_rfl
  have hI : Try.prog.cellsOf 3 = 1 := by kernel_rfl
  rw [hC] at hsz
  obtain ⟨fuel, hf⟩ := h
  obtain ⟨ys, n, _, _, hcl, hyl, hi⟩ := DataW.trod_struct Try.underlying23 hf
  rw [hC] at hcl
  simp only [Value.cells] at hf hcl hi
  have hyl5 : ys.length = 5 := hyl
  have one : ∀ (i : Nat) (hi5 : i < 5) (f : Field), (Try.prog.underlying 23 = some (.struct #[]) ∨ True) → f.type = 3 → f.offset = i →
      DataW.trod enc Try.prog W base sp held n f.type ((cs.toList.drop f.offset).take (Try.prog.cellsOf f.type)) = ys[i]? → ∃ x : Int, cs.toList[i]? = some (.int .i64 x) ∧ (Lit.int .i64 x).wf = true := by
    intro i hi5 f _ hT ho ht
    rw [hT, ho, hI] at ht
    have hlen : i < cs.toList.length := by simp at hcl ⊢; omega
    have e1 : (cs.toList.drop i).take 1 = [cs.toList[i]] := by rw [List.drop_eq_getElem_cons hlen]; rfl
    rw [e1, List.getElem?_eq_getElem (by omega)] at ht
    obtain ⟨x, hx, hw⟩ := cell_int Try.underlying3 ht
    exact ⟨x, by rw [List.getElem?_eq_getElem hlen, hx], hw⟩
  obtain ⟨x0, c0, w0⟩ := one 0 (by omega) _ (.inr trivial) rfl rfl (hi 0 _ rfl)
  obtain ⟨x1, c1, w1⟩ := one 1 (by omega) _ (.inr trivial) rfl rfl (hi 1 _ rfl)
  obtain ⟨x2, c2, w2⟩ := one 2 (by omega) _ (.inr trivial) rfl rfl (hi 2 _ rfl)
  obtain ⟨x3, c3, w3⟩ := one 3 (by omega) _ (.inr trivial) rfl rfl (hi 3 _ rfl)
  obtain ⟨x4, c4, w4⟩ := one 4 (by omega) _ (.inr trivial) rfl rfl (hi 4 _ rfl)
  refine ⟨⟨x0, x1, x2, x3, x4⟩, ?_, wf_i64_bounds w0, wf_i64_bounds w1, wf_i64_bounds w2, wf_i64_bounds w3, wf_i64_bounds w4⟩
  obtain ⟨l⟩ := cs
  simp only [] at c0 c1 c2 c3 c4 hsz
  have : l = [.int .i64 x0, .int .i64 x1, .int .i64 x2, .int .i64 x3, .int .i64 x4] := by
    apply List.ext_getElem?
    intro i
    match i with
    | 0 => exact c0
    | 1 => exact c1
    | 2 => exact c2
    | 3 => exact c3
    | 4 => exact c4
    | i + 5 => rw [List.getElem?_eq_none (by simp at hsz; omega), List.getElem?_eq_none (by simp)]
  subst this
  rfl
end Go.Proofs.Ytpkkaicpbihjfaa
/- An argument that is almonrylaw13's Turned, by value. Conditions: the row's. -/
set_option linter.unusedVariables false
namespace Go.Proofs.Ytpkkaicpbihjfaa
open Go.ChangeShapes Go.WideShapes Go.ChangeAt Go.RowKit

theorem one_cell {l : List Value} {o : Nat} (h : o < l.length) : (l.drop o).take 1 = [l[o]] := by
  rw [List.drop_eq_getElem_cons h]; rfl
/-- A number that is a field, of one cell. -/
theorem field_int {H : Type} {enc : TypeId × Value → H} {W : World} {base : Nat} {sp : Nat → Bool} {held : Bool} {n : Nat} {T : TypeId} {k : IntKind} {l : List Value} {o : Nat} {y : DataW H × List MemPlace} (ht : Try.prog.underlying T = some (.int k)) (hc : Try.prog.cellsOf T = 1)
    (h : DataW.trod enc Try.prog W base sp held n T ((l.drop o).take (Try.prog.cellsOf T)) = some y) (ho : o < l.length) : ∃ x : Int, l[o]? = some (.int k x) ∧ (Lit.int k x).wf = true := by
  rw [hc, one_cell ho] at h
  obtain ⟨x, hx, hw⟩ := cell_int ht h
  exact ⟨x, by rw [List.getElem?_eq_getElem ho, hx], hw⟩
theorem get_sub {l : List Value} {o m i : Nat} (h : i < m) : ((l.drop o).take m)[i]? = l[o + i]? := by
  rw [List.getElem?_take_of_lt h, List.getElem?_drop]
set_option maxRecDepth 100000 in
theorem open_turned {H : Type} {enc : TypeId × Value → H} {W : World} {r : Reach} {b0 base : Nat} {sp : Nat → Bool} {held : Bool} {v : Value} {d : DataW H} {p : List MemPlace}
    (hv : Value.okWide Try.prog W r b0 29 v) (hsp : ∀ b, sp b = true) (h : DataW.Trod enc Try.prog W base sp held 29 v d p) :
    ∃ (q : Par) (s : Int) (l : List UInt8) (A : Option Addr) (c : Nat) (tb ta ty tm tl : Int), v = .agg #[.int .i64 q.n, .int .i64 q.b, .int .i64 q.q, .int .i64 q.eps, .int .i64 q.f, .int .u64 s, .slice A (List.length l) c, .int .u8 tb, .int .u8 ta, .int .u8 ty, .int .i64 tm, .int .i64 tl] ∧ q.wf ∧
      (Lit.int .u64 s).wf = true ∧ (l.length ≤ c ∧ (A = none → c = 0) ∧ BytesIn (fun _ => True) W A l) ∧ (Lit.int .u8 tb).wf = true ∧ (Lit.int .u8 ta).wf = true ∧ (Lit.int .u8 ty).wf = true ∧ (Lit.int .i64 tm).wf = true ∧ (Lit.int .i64 tl).wf = true := by
  obtain ⟨cs, rfl, hsz⟩ := okWide_struct Try.underlying29 hv
  have hC : Try.prog.cellsOf 29 = 12 := by kernel_rfl
  have hP : Try.prog.cellsOf 23 = 5 := by kernel_rfl
  have hT : Try.prog.cellsOf 27 = 5 := by kernel_rfl
  have hI : Try.prog.cellsOf 3 = 1 := by kernel_rfl
  have hU : Try.prog.cellsOf 24 = 1 := by kernel_rfl
  have hB : Try.prog.cellsOf 5 = 1 := by kernel_rfl
  have hS : Try.prog.cellsOf 25 = 1 := by kernel_rfl
  rw [hC] at hsz
  obtain ⟨fuel, hf⟩ := h
  obtain ⟨ys, n, _, _, hcl, hyl, hi⟩ := DataW.trod_struct Try.underlying29 hf
  rw [hC] at hcl
  simp only [Value.cells] at hf hcl hi
  obtain ⟨l⟩ := cs
  simp only [] at hsz hcl hi
  have hyl4 : ys.length = 4 := hyl
  have g := fun (i : Nat) (h : i < 4) => List.getElem?_eq_getElem (l := ys) (show i < ys.length by omega)
  have f0 := (hi 0 _ rfl).trans (g 0 (by omega))
  have f1 := (hi 1 _ rfl).trans (g 1 (by omega))
  have f2 := (hi 2 _ rfl).trans (g 2 (by omega))
  have f3 := (hi 3 _ rfl).trans (g 3 (by omega))
  obtain ⟨s, e5, w5⟩ := field_int (l := l) (o := 5) Try.underlying24 hU f1 (by omega)
  have f2' : DataW.trod enc Try.prog W base sp held n 25 [l[6]] = some ys[2] := by
    have e1 := one_cell (l := l) (o := 6) (by omega)
    rw [← e1]
    exact f2
  obtain ⟨ob, A, c, hx6, r6⟩ := cell_bytes hsp f2'
  have e6 : l[6]? = some (.slice A ob.length c) := by rw [List.getElem?_eq_getElem (by omega), hx6]
  have f0' : DataW.trod enc Try.prog W base sp held n 23 ((l.drop 0).take 5) = some ys[0] := f0
  have f3' : DataW.trod enc Try.prog W base sp held n 27 ((l.drop 7).take 5) = some ys[3] := f3
  have l0 : ((l.drop 0).take 5).length = 5 := by simp; omega
  have l3 : ((l.drop 7).take 5).length = 5 := by simp; omega
  obtain ⟨zs, n0, _, _, _, hz, hi0⟩ := DataW.trod_struct Try.underlying23 f0'
  obtain ⟨us, n3, _, _, _, hu3, hi3⟩ := DataW.trod_struct Try.underlying27 f3'
  have hz5 : zs.length = 5 := hz
  have hu5 : us.length = 5 := hu3
  have gz := fun (i : Nat) (h : i < 5) => List.getElem?_eq_getElem (l := zs) (show i < zs.length by omega)
  have gu := fun (i : Nat) (h : i < 5) => List.getElem?_eq_getElem (l := us) (show i < us.length by omega)
  obtain ⟨x0, c0, w0⟩ := field_int (o := 0) Try.underlying3 hI ((hi0 0 _ rfl).trans (gz 0 (by omega))) (by omega)
  obtain ⟨x1, c1, w1⟩ := field_int (o := 1) Try.underlying3 hI ((hi0 1 _ rfl).trans (gz 1 (by omega))) (by omega)
  obtain ⟨x2, c2, w2⟩ := field_int (o := 2) Try.underlying3 hI ((hi0 2 _ rfl).trans (gz 2 (by omega))) (by omega)
  obtain ⟨x3, c3, w3⟩ := field_int (o := 3) Try.underlying3 hI ((hi0 3 _ rfl).trans (gz 3 (by omega))) (by omega)
  obtain ⟨x4, c4, w4⟩ := field_int (o := 4) Try.underlying3 hI ((hi0 4 _ rfl).trans (gz 4 (by omega))) (by omega)
  obtain ⟨t0, c7, w7⟩ := field_int (o := 0) Try.underlying5 hB ((hi3 0 _ rfl).trans (gu 0 (by omega))) (by omega)
  obtain ⟨t1, c8, w8⟩ := field_int (o := 1) Try.underlying5 hB ((hi3 1 _ rfl).trans (gu 1 (by omega))) (by omega)
  obtain ⟨t2, c9, w9⟩ := field_int (o := 2) Try.underlying5 hB ((hi3 2 _ rfl).trans (gu 2 (by omega))) (by omega)
  obtain ⟨t3, c10, w10⟩ := field_int (o := 3) Try.underlying3 hI ((hi3 3 _ rfl).trans (gu 3 (by omega))) (by omega)
  obtain ⟨t4, c11, w11⟩ := field_int (o := 4) Try.underlying3 hI ((hi3 4 _ rfl).trans (gu 4 (by omega))) (by omega)
  rw [get_sub (by omega)] at c0 c1 c2 c3 c4 c7 c8 c9 c10 c11
  refine ⟨⟨x0, x1, x2, x3, x4⟩, s, ob, A, c, t0, t1, t2, t3, t4, ?_, ⟨wf_i64_bounds w0, wf_i64_bounds w1, wf_i64_bounds w2, wf_i64_bounds w3, wf_i64_bounds w4⟩, w5, r6, w7, w8, w9, w10, w11⟩
  have : l = [.int .i64 x0, .int .i64 x1, .int .i64 x2, .int .i64 x3, .int .i64 x4, .int .u64 s, .slice A ob.length c, .int .u8 t0, .int .u8 t1, .int .u8 t2, .int .i64 t3, .int .i64 t4] := by
    apply List.ext_getElem?
    intro i
    match i with
    | 0 => exact c0
    | 1 => exact c1
    | 2 => exact c2
    | 3 => exact c3
    | 4 => exact c4
    | 5 => exact e5
    | 6 => exact e6
    | 7 => exact c7
    | 8 => exact c8
    | 9 => exact c9
    | 10 => exact c10
    | 11 => exact c11
    | i + 12 => rw [List.getElem?_eq_none (by simp at hsz; omega), List.getElem?_eq_none (by simp)]
  subst this
  rfl
end Go.Proofs.Ytpkkaicpbihjfaa
/- An argument that is almonrylaw14's Case, by value. Conditions: the row's. -/
set_option linter.unusedVariables false
namespace Go.Proofs.Ytpkkaicpbihjfaa
open Go.ChangeShapes Go.WideShapes Go.ChangeAt Go.RowKit

set_option maxRecDepth 100000 in
theorem open_case14 {H : Type} {enc : TypeId × Value → H} {W : World} {r : Reach} {b0 base : Nat} {sp : Nat → Bool} {held : Bool} {v : Value} {d : DataW H} {p : List MemPlace}
    (hv : Value.okWide Try.prog W r b0 45 v) (hsp : ∀ b, sp b = true) (h : DataW.Trod enc Try.prog W base sp held 45 v d p) :
    ∃ (q : Par) (s : Nat) (l : List UInt8) (A : Option Addr) (c : Nat) (ids : List Nat) (B : Option Addr) (e : Nat), v = .agg #[.int .i64 q.n, .int .i64 q.b, .int .i64 q.q, .int .i64 q.eps, .int .i64 q.f, .int .u64 (s : Int), .slice A (List.length l) c, .slice B (List.length ids) e] ∧ q.wf ∧
      s < 18446744073709551616 ∧ (l.length ≤ c ∧ (A = none → c = 0) ∧ BytesIn (fun _ => True) W A l) ∧ NatsAt W B ids := by
  obtain ⟨cs, rfl, hsz⟩ := okWide_struct Try.underlying45 hv
  have hC : Try.prog.cellsOf 45 = 8 := by kernel_rfl
  have hP : Try.prog.cellsOf 23 = 5 := by kernel_rfl
  have hI : Try.prog.cellsOf 3 = 1 := by kernel_rfl
  have hU : Try.prog.cellsOf 24 = 1 := by kernel_rfl
  have hS : Try.prog.cellsOf 25 = 1 := by kernel_rfl
  have hS2 : Try.prog.cellsOf 43 = 1 := by kernel_rfl
  rw [hC] at hsz
  obtain ⟨fuel, hf⟩ := h
  obtain ⟨ys, n, _, _, hcl, hyl, hi⟩ := DataW.trod_struct Try.underlying45 hf
  rw [hC] at hcl
  simp only [Value.cells] at hf hcl hi
  obtain ⟨l⟩ := cs
  simp only [] at hsz hcl hi
  have hyl4 : ys.length = 4 := hyl
  have g := fun (i : Nat) (h : i < 4) => List.getElem?_eq_getElem (l := ys) (show i < ys.length by omega)
  have f0 := (hi 0 _ rfl).trans (g 0 (by omega))
  have f1 := (hi 1 _ rfl).trans (g 1 (by omega))
  have f2 := (hi 2 _ rfl).trans (g 2 (by omega))
  have f3 := (hi 3 _ rfl).trans (g 3 (by omega))
  obtain ⟨s, e5, w5⟩ := field_int (l := l) (o := 5) Try.underlying24 hU f1 (by omega)
  have f2' : DataW.trod enc Try.prog W base sp held n 25 [l[6]] = some ys[2] := by
    have e1 := one_cell (l := l) (o := 6) (by omega)
    rw [← e1]
    exact f2
  obtain ⟨ob, A, c, hx6, r6⟩ := cell_bytes hsp f2'
  have e6 : l[6]? = some (.slice A ob.length c) := by rw [List.getElem?_eq_getElem (by omega), hx6]
  have f3' : DataW.trod enc Try.prog W base sp held n 43 [l[7]] = some ys[3] := by
    have e1 := one_cell (l := l) (o := 7) (by omega)
    rw [← e1]
    exact f3
  obtain ⟨fx, fa, fc, hx7, _, xa, xw⟩ := cell_ints Try.underlying43 Try.underlying24 (by kernel_rfl) hsp f3'
  obtain ⟨ids, nl, na⟩ := NatsAt.ofInts xa xw
  have e7 : l[7]? = some (.slice fa ids.length fc) := by rw [List.getElem?_eq_getElem (by omega), hx7, nl]
  have f0' : DataW.trod enc Try.prog W base sp held n 23 ((l.drop 0).take 5) = some ys[0] := f0
  have l0 : ((l.drop 0).take 5).length = 5 := by simp; omega
  obtain ⟨zs, n0, _, _, _, hz, hi0⟩ := DataW.trod_struct Try.underlying23 f0'
  have hz5 : zs.length = 5 := hz
  have gz := fun (i : Nat) (h : i < 5) => List.getElem?_eq_getElem (l := zs) (show i < zs.length by omega)
  obtain ⟨x0, c0, w0⟩ := field_int (o := 0) Try.underlying3 hI ((hi0 0 _ rfl).trans (gz 0 (by omega))) (by omega)
  obtain ⟨x1, c1, w1⟩ := field_int (o := 1) Try.underlying3 hI ((hi0 1 _ rfl).trans (gz 1 (by omega))) (by omega)
  obtain ⟨x2, c2, w2⟩ := field_int (o := 2) Try.underlying3 hI ((hi0 2 _ rfl).trans (gz 2 (by omega))) (by omega)
  obtain ⟨x3, c3, w3⟩ := field_int (o := 3) Try.underlying3 hI ((hi0 3 _ rfl).trans (gz 3 (by omega))) (by omega)
  obtain ⟨x4, c4, w4⟩ := field_int (o := 4) Try.underlying3 hI ((hi0 4 _ rfl).trans (gz 4 (by omega))) (by omega)
  rw [get_sub (by omega)] at c0 c1 c2 c3 c4
  have hs := wf_u64_bounds w5
  obtain ⟨sn, rfl⟩ : ∃ sn : Nat, s = (sn : Int) := ⟨s.toNat, by omega⟩
  refine ⟨⟨x0, x1, x2, x3, x4⟩, sn, ob, A, c, ids, fa, fc, ?_, ⟨wf_i64_bounds w0, wf_i64_bounds w1, wf_i64_bounds w2, wf_i64_bounds w3, wf_i64_bounds w4⟩, by omega, r6, na⟩
  have : l = [.int .i64 x0, .int .i64 x1, .int .i64 x2, .int .i64 x3, .int .i64 x4, .int .u64 (sn : Int), .slice A ob.length c, .slice fa ids.length fc] := by
    apply List.ext_getElem?
    intro i
    match i with
    | 0 => exact c0
    | 1 => exact c1
    | 2 => exact c2
    | 3 => exact c3
    | 4 => exact c4
    | 5 => exact e5
    | 6 => exact e6
    | 7 => exact e7
    | i + 8 => rw [List.getElem?_eq_none (by simp at hsz; omega), List.getElem?_eq_none (by simp)]
  subst this
  rfl
end Go.Proofs.Ytpkkaicpbihjfaa
