/- The last texts ahead of the law EmitBlocks, one behind the other: what each proves, and its conditions, stands ahead of it. -/
import Derived.Test.YtpkkaicpbihjfaaRef13
import Derived.Deep.QuietTactic
import Derived.Test.YtpkkaicpbihjfaaJoin
import Derived.Test.YtpkkaicpbihjfaaComposite
import Derived.Test.YtpkkaicpbihjfaaRef10Eqs
import Derived.Test.YtpkkaicpbihjfaaRowsB
import Derived.RangeFuncNested
import Derived.RangeFuncBound
import Derived.RangeFuncBox
import Derived.RangeFuncCalls
import Derived.RangeFuncLeaves
import Derived.Shelf.Abstract
import Derived.Shelf.RegionOpen
import Derived.WalkKit
import Derived.OwnWalkIn
import Derived.TacticsInMore
import Derived.LoopNIn
import Derived.LoopIn
import Derived.Maps.AppendAt
import Derived.Test.YtpkkaicpbihjfaaSort
import Derived.Test.YtpkkaicpbihjfaaRows2
import Derived.Test.YtpkkaicpbihjfaaSampleMath
import Derived.BigQuiet
import Derived.Laws.Rows
import Derived.Test.YtpkkaicpbihjfaaEmit
import Derived.Deep.RegionHeld3
import Derived.Deep.AppendLies
import Derived.Deep.DrawnRows
import Derived.Test.YtpkkaicpbihjfaaRegionInv
import Derived.Test.YtpkkaicpbihjfaaRow
import Derived.Test.YtpkkaicpbihjfaaBytes
import Derived.Test.YtpkkaicpbihjfaaParams
/- Small walks of layer 13's laws: same, big. No condition but that numbers are of their kinds. -/
set_option linter.unusedVariables false
namespace Go.Proofs.Ytpkkaicpbihjfaa
open Go.RowKit
attribute [local go_sem ↓] Go.wp_at_zero Go.wp_at_succ

def sameB (a b : List (List UInt8)) : Bool := decide (a = b)
theorem rows_ext {a b : List (List UInt8)} (hl : a.length = b.length) (h : ∀ j, j < a.length → gr a j = gr b j) : a = b := by
  apply List.ext_getElem hl
  intro j h1 h2
  have := h j h1
  rwa [gr_eq a j h1, gr_eq b j h2] at this
set_option maxHeartbeats 1000000 in
set_option maxRecDepth 20000 in
theorem same13_calls (a b : List (List UInt8)) (A1 A2 : Option Addr) (c1 c2 : Nat) (R1 R2 : Nat → Prop) (w : World) (h1 : RowsIn R1 w A1 a) (h2 : RowsIn R2 w A2 b) :
    Calls Try.prog 15 #[.slice A1 a.length c1, .slice A2 b.length c2] w fun e w' => e = .returned (.bool (sameB a b)) ∧ Keeps NoB w w' := by
  have hl1 := h1.len
  have hl2 := h2.len
  have H1 := hid h1
  have H2 := hid h2
  have hext := hid (rows_ext (a := a) (b := b))
  by_cases hl : a.length = b.length
  · obtain ⟨n, hn⟩ : ∃ n, b.length = n := ⟨_, rfl⟩
    rw [hn] at hl
    rw [hl, hn]
    have hn1 := hid hl
    have hn2 := hid hn
    have dne : ((n : Int) != (n : Int)) = false := by simp
    rw [hl] at hl1
    clear h1 h2 hl hn hl2
    go_enter Try.func15, Try.ntmps15
    go_wp2_with fail
    go_loopw [13] (fun v13 wr => ∃ k : Nat, k ≤ n ∧ v13 = .int .i64 (k : Int) ∧ Hid (∀ j, j < k → gr a j = gr b j) ∧ Hid (Keeps NoB w wr)) (fun v13 _ => n - (intOf v13).toNat)
    case atStart => exact ⟨0, Nat.zero_le _, rfl, fun j h => absurd h (Nat.not_lt_zero _), Keeps.refl _ _⟩
    case round =>
      obtain ⟨k, hk, rfl, HJ, HK⟩ := hrel
      by_cases hlt : k < n
      · obtain ⟨b1, o1, rfl, _, hc1⟩ := (H1.out.kept HK.out).2 (by rw [hn1.out]; omega)
        obtain ⟨u1, k1, B1, d1, rfl, _, _, r1⟩ := hc1 k (by rw [hn1.out]; exact hlt)
        obtain ⟨b2, o2, rfl, _, hc2⟩ := (H2.out.kept HK.out).2 (by rw [hn2.out]; omega)
        obtain ⟨u2, k2, B2, d2, rfl, _, _, r2⟩ := hc2 k (by rw [hn2.out]; exact hlt)
        have e1 := fun n => conv_run 25 9 Try.underlying25 Try.underlying9 (r1.kept ((Keeps.refl NoB wr).drewN n)) d1
        have e2 := fun n => conv_run 25 9 Try.underlying25 Try.underlying9 (r2.kept ((Keeps.refl NoB wr).drewN n)) d2
        have q0 : (0 : Int) ≤ (k : Int) := by omega
        have q1 : (k : Int) < (n : Int) := by omega
        clear hc1 hc2 r1 r2
        by_cases hx : gr a k = gr b k
        · have HJ2 := hid (show ∀ j, j < k + 1 → gr a j = gr b j from fun j hj => by
            by_cases e : j = k
            · rw [e]; exact hx
            · exact HJ.out j (by omega))
          have deq : ((strOf (gr a k)).toList == (strOf (gr b k)).toList) = true := by rw [hx]; simp
          clear hx
          generalize gr a k = x at *
          generalize gr b k = y at *
          go_wp2_with fail
          go_quiet (fail)
          go_wp2_with fail
          go_roundw
          case rel => exact ⟨k + 1, by omega, by go_num, HJ2, hid (HK.out.drewN _)⟩
          case measure => simp [intOf]; omega
        · have hs := hid (show sameB a b = false from decide_eq_false (fun e => hx (by rw [e])))
          have deq : ((strOf (gr a k)).toList == (strOf (gr b k)).toList) = false := by
            rw [strOf_toList, strOf_toList]; simpa using hx
          clear hx
          generalize gr a k = x at *
          generalize gr b k = y at *
          go_wp2_with fail
          go_quiet (fail)
          go_wp2_with fail
          go_ret
          rw [hs.out]
          exact ⟨rfl, HK.out.drewN _⟩
      · obtain rfl : k = n := by omega
        have hs := hid (show sameB a b = true from decide_eq_true (hext.out (by rw [hn1.out, hn2.out]) (fun j hj => HJ.out j (by rw [← hn1.out]; exact hj))))
        go_wp2_with fail
        go_ret
        rw [hs.out]
        exact ⟨rfl, HK.out⟩
  · have hs := hid (show sameB a b = false from decide_eq_false (fun e => hl (by rw [e])))
    have dne : (((a.length : Nat) : Int) != ((b.length : Nat) : Int)) = true := by simp; omega
    generalize a.length = n at *
    generalize b.length = m at *
    clear h1 h2 hl
    go_enter Try.func15, Try.ntmps15
    go_wp2_with fail
    go_ret
    rw [hs.out]
    exact ⟨rfl, Keeps.refl _ _⟩
def bigN (p : Par) : Bool := decide (60 < p.n ∨ 60 < p.b ∨ p.n < -60)
set_option maxHeartbeats 1000000 in
set_option maxRecDepth 20000 in
theorem big13_calls (p : Par) (w : World) :
    Calls Try.prog 12 #[p.val] w fun e w' => e = .returned (.bool (bigN p)) ∧ Keeps NoB w w' := by
  have hu := Try.underlying23
  have HK := hid ((Keeps.refl NoB w).alloc (.cells #[.int .i64 p.n, .int .i64 p.b, .int .i64 p.q, .int .i64 p.eps, .int .i64 p.f] 23))
  unfold Par.val
  by_cases h1 : 60 < p.n
  · have hb := hid (show bigN p = true from decide_eq_true (.inl h1))
    have d1 : decide ((60 : Int) < p.n) = true := decide_eq_true h1
    clear h1
    go_enter Try.func12, Try.ntmps12
    go_wp2_with fail
    go_ret
    rw [hb.out]
    exact ⟨rfl, HK.out⟩
  · have d1 : decide ((60 : Int) < p.n) = false := decide_eq_false h1
    by_cases h2 : 60 < p.b
    · have hb := hid (show bigN p = true from decide_eq_true (.inr (.inl h2)))
      have d2 : decide ((60 : Int) < p.b) = true := decide_eq_true h2
      clear h1 h2
      go_enter Try.func12, Try.ntmps12
      go_wp2_with fail
      go_ret
      rw [hb.out]
      exact ⟨rfl, HK.out⟩
    · have d2 : decide ((60 : Int) < p.b) = false := decide_eq_false h2
      by_cases h3 : p.n < -60
      · have hb := hid (show bigN p = true from decide_eq_true (.inr (.inr h3)))
        have d3 : decide (p.n < -60) = true := decide_eq_true h3
        clear h1 h2 h3
        go_enter Try.func12, Try.ntmps12
        go_wp2_with fail
        go_ret
        rw [hb.out]
        exact ⟨rfl, HK.out⟩
      · have hb := hid (show bigN p = false from decide_eq_false (by omega))
        have d3 : decide (p.n < -60) = false := decide_eq_false h3
        clear h1 h2 h3
        go_enter Try.func12, Try.ntmps12
        go_wp2_with fail
        go_ret
        rw [hb.out]
        exact ⟨rfl, HK.out⟩
end Go.Proofs.Ytpkkaicpbihjfaa
/- Whether blocks are the composite ones of an object: the walk of compose.Right. Conditions: numbers are of their kinds. -/
set_option linter.unusedVariables false
namespace Go.Proofs.Ytpkkaicpbihjfaa
open Go.RowKit
attribute [local go_sem ↓] Go.wp_at_zero Go.wp_at_succ

def RightOk (p : Par) (session : Nat) (n : Int) (ls : List (List UInt8)) : Prop :=
  p.may ∧ p.n ≤ ls.length ∧ JoinOk p n (ls.take p.n.toNat) ∧ ls = compN p session (joinN n.toNat (ls.take p.n.toNat))
noncomputable def rightB (p : Par) (session : Nat) (n : Int) (ls : List (List UInt8)) : Bool := @decide (RightOk p session n ls) (Classical.propDecidable _)
theorem rightB_true {p : Par} {session : Nat} {n : Int} {ls : List (List UInt8)} (h : RightOk p session n ls) : rightB p session n ls = true := @decide_eq_true _ (Classical.propDecidable _) h
theorem rightB_false {p : Par} {session : Nat} {n : Int} {ls : List (List UInt8)} (h : ¬ RightOk p session n ls) : rightB p session n ls = false := @decide_eq_false _ (Classical.propDecidable _) h
theorem RowsIn.take {R : Nat → Prop} {w : World} {A : Option Addr} {ls : List (List UInt8)} (h : RowsIn R w A ls) (k : Nat) : RowsIn R w A (ls.take k) := by
  refine ⟨by have := h.1; rw [List.length_take]; omega, fun h0 => ?_⟩
  rw [List.length_take] at h0
  obtain ⟨b, off, e, hb, hc⟩ := h.2 (by omega)
  refine ⟨b, off, e, hb, fun j hj => ?_⟩
  rw [List.length_take] at hj
  have : gr (ls.take k) j = gr ls j := by unfold gr; rw [List.getD_eq_getElem?_getD, List.getD_eq_getElem?_getD, List.getElem?_take_of_lt (by omega)]
  rw [this]
  exact hc j (by omega)
theorem joinN_le (n : Nat) (ls : List (List UInt8)) : (joinN n ls).length ≤ n := by unfold joinN; rw [List.length_take]; omega
theorem join_bad (p : Par) (n : Int) (ls : List (List UInt8)) (A : Option Addr) (c : Nat) (R : Nat → Prop) (w : World) (hm : p.may) (hb : RowsIn R w A ls) (hn : -9223372036854775808 ≤ n) (hn2 : n ≤ 9223372036854775807) (hj : ¬ JoinOk p n ls) :
    Calls Try.prog 46 #[p.val, .int .i64 n, .slice A ls.length c] w fun e w' => e = .returned (.tuple #[.slice none 0 0, .int .i64 2]) ∧ Keeps NoB w w' := by
  refine (join_calls p n ls A c R w hm hb hn hn2).mono ?_
  rintro e w' ⟨hk, ⟨_, he⟩ | ⟨h, _⟩⟩
  · exact ⟨he, hk⟩
  · exact absurd h hj
theorem join_ok (p : Par) (n : Int) (ls : List (List UInt8)) (A : Option Addr) (c : Nat) (R : Nat → Prop) (w : World) (hm : p.may) (hb : RowsIn R w A ls) (hn : -9223372036854775808 ≤ n) (hn2 : n ≤ 9223372036854775807) (hj : JoinOk p n ls) :
    Calls Try.prog 46 #[p.val, .int .i64 n, .slice A ls.length c] w fun e w' => ∃ v, e = .returned (.tuple #[v, .int .i64 0]) ∧ OwnB w' w.heap.size v (joinN n.toNat ls) ∧ Keeps NoB w w' := by
  refine (join_calls p n ls A c R w hm hb hn hn2).mono ?_
  rintro e w' ⟨hk, ⟨h, _⟩ | ⟨_, v, he, ho⟩⟩
  · exact absurd hj h
  · exact ⟨v, he, ho, hk⟩
set_option maxHeartbeats 4000000 in
set_option maxRecDepth 20000 in
theorem right_calls (p : Par) (session : Nat) (n : Int) (ls : List (List UInt8)) (A : Option Addr) (c : Nat) (R : Nat → Prop) (w : World) (hwf : p.wf) (hs : session < 18446744073709551616) (hn : -9223372036854775808 ≤ n) (hn2 : n ≤ 9223372036854775807) (hb : RowsIn R w A ls) (hcap : ls.length ≤ c) (hA : A = none → c = 0) :
    Calls Try.prog 16 #[p.val, .int .u64 (session : Int), .int .i64 n, .slice A ls.length c] w fun e w' => e = .returned (.bool (rightB p session n ls)) ∧ Keeps NoB w w' := by
  have hu := Try.underlying23
  have HB := hid hb
  have hl := hb.len
  have HRT := hid (@rightB_true p session n ls)
  have HRF := hid (@rightB_false p session n ls)
  have HAn := hid hA
  have hpn0 := hwf.1.1
  have hpn1 := hwf.1.2
  obtain ⟨m, hm⟩ : ∃ m, ls.length = m := ⟨_, rfl⟩
  rw [hm] at hl hcap ⊢
  have HM := hid hm
  clear hb hm hwf hA
  have hbA := hid (heap_alloc_new w (.cells #[.int .i64 p.n, .int .i64 p.b, .int .i64 p.q, .int .i64 p.eps, .int .i64 p.f] 23))
  have HKa := hid ((Keeps.refl NoB w).alloc (.cells #[.int .i64 p.n, .int .i64 p.b, .int .i64 p.q, .int .i64 p.eps, .int .i64 p.f] 23))
  unfold Par.val
  by_cases h1 : (m : Int) < p.n
  · have d1 : decide ((m : Int) < p.n) = true := decide_eq_true h1
    have hf := hid (HRF.out (fun h => by have := h.2.1; rw [HM.out] at this; omega))
    go_enter Try.func16, Try.ntmps16
    go_wp2_with fail
    go_ret
    rw [hf.out]
    exact ⟨rfl, HKa.out⟩
  by_cases h2 : p.n < 0
  · have d1 : decide ((m : Int) < p.n) = false := decide_eq_false h1
    have d2 : decide (p.n < 0) = true := decide_eq_true h2
    have hf := hid (HRF.out (fun h => by have := h.1.1; omega))
    go_enter Try.func16, Try.ntmps16
    go_wp2_with fail
    go_ret
    rw [hf.out]
    exact ⟨rfl, HKa.out⟩
  obtain ⟨N, hN⟩ : ∃ N : Nat, p.n = (N : Int) := ⟨p.n.toNat, by omega⟩
  have hN2 : p.n.toNat = N := by omega
  have HN := hid hN
  have HN2 := hid hN2
  have hNm : N ≤ m := by omega
  have d1 : decide ((m : Int) < (N : Int)) = false := decide_eq_false (by omega)
  have d1' : decide (m < N) = false := decide_eq_false (by omega)
  have d2 : decide ((N : Int) < 0) = false := decide_eq_false (by omega)
  have htk := hid (show (ls.take N).length = N by rw [List.length_take, HM.out]; omega)
  clear h1 h2 hN hN2 hpn0 hpn1
  have hcells := cells5 hbA.out
  rw [HN.out] at hcells
  have hSall := hid (show ∀ w', Keeps NoB (w.alloc (.cells #[.int .i64 p.n, .int .i64 p.b, .int .i64 p.q, .int .i64 p.eps, .int .i64 p.f] 23)) w' → (w'.cell? ⟨w.heap.size, 0, none⟩ = some (.int .i64 (N : Int)) ∧ w'.cell? ⟨w.heap.size, 1, none⟩ = some (.int .i64 p.b) ∧ w'.cell? ⟨w.heap.size, 2, none⟩ = some (.int .i64 p.q) ∧ w'.cell? ⟨w.heap.size, 3, none⟩ = some (.int .i64 p.eps) ∧ w'.cell? ⟨w.heap.size, 4, none⟩ = some (.int .i64 p.f)) from fun w' hk => by
    have := cells5 (hk.heap hbA.out (fun h => h)); rw [HN.out] at this; exact this)
  have hbxN := hid hcells
  clear hcells
  generalize hwa : w.alloc (.cells #[.int .i64 p.n, .int .i64 p.b, .int .i64 p.q, .int .i64 p.eps, .int .i64 p.f] 23) = wa at *
  have hwa := hid hwa
  have HKr := hid (Keeps.refl NoB wa)
  have HBa := hid (HB.out.kept HKa.out)
  have e1 : (0 : Int) ≤ (N : Int) := by omega
  have e2 : (N : Int) ≤ (m : Int) := by omega
  have e3 : (N : Int) ≤ (c : Int) := by omega
  obtain ⟨b0, b1, b2, b3, b4⟩ := hSall.out _ HKr.out
  by_cases hm : p.may
  · by_cases hj : JoinOk p n (ls.take N)
    · obtain ⟨ob, hob⟩ : ∃ ob, joinN n.toNat (ls.take N) = ob := ⟨_, rfl⟩
      have hobl := hid (show (ob.length : Int) ≤ p.n * p.b by
        have h1 := hj.2.1
        have h2 := hj.2.2.1
        have h3 := joinN_le n.toNat (ls.take N)
        rw [hob] at h3
        omega)
      have HRT2 := hid (fun (h : ls = compN p session ob) => HRT.out ⟨hm, by rw [HN.out, HM.out]; exact e2, by rw [HN2.out]; exact hj, by rw [HN2.out, hob]; exact h⟩)
      have HRF2 := hid (fun (h : ls ≠ compN p session ob) => HRF.out (fun h' => h (by have := h'.2.2.2; rw [HN2.out, hob] at this; exact this)))
      have hjc := hid (fun (w' : World) (hk : Keeps NoB wa w') => join_ok p n (ls.take N) A c _ w' hm ((HBa.out.kept hk).take N) hn hn2 hj)
      have hcc := hid (fun (w' : World) (B : Option Addr) (cB : Nat) (R' : Nat → Prop) (h : BytesIn R' w' B ob) (hc : ob.length ≤ cB) => comp_yes p session ob B cB R' w' hm hs h hc hobl.out)
      rw [hob] at hjc
      unfold Par.val at hjc hcc
      rw [HN.out] at hjc hcc
      rw [htk.out] at hjc
      obtain ⟨L, hL⟩ : ∃ L, ob.length = L := ⟨_, rfl⟩
      rw [hL] at hcc
      obtain ⟨W, hW⟩ : ∃ W, compN p session ob = W := ⟨_, rfl⟩
      rw [hW] at hcc HRT2 HRF2
      have HL := hid hL
      have hext := hid (rows_ext (a := ls) (b := W))
      clear hm hj hob hL hW HRT HRF
      go_enter Try.func16, Try.ntmps16
      go_wp2_with fail
      go_region_held3 (fun w' => w'.cell? ⟨w.heap.size, 0, none⟩ = some (.int .i64 (N : Int)) ∧ w'.cell? ⟨w.heap.size, 1, none⟩ = some (.int .i64 p.b) ∧ w'.cell? ⟨w.heap.size, 2, none⟩ = some (.int .i64 p.q) ∧ w'.cell? ⟨w.heap.size, 3, none⟩ = some (.int .i64 p.eps) ∧ w'.cell? ⟨w.heap.size, 4, none⟩ = some (.int .i64 p.f)) (first | (exact hSall.out _ HKr.out) | (exact hSall.out _ HKr.out.drew) | go_keep) ((go_at_call 46; refine (hjc.out _ (by first | exact HKr.out | exact HKr.out.drew)).mono ?_; rintro e w4 ⟨v4, rfl, hown4, HK4⟩; have HKr := hid (show Keeps NoB wa w4 by first | exact HKr.out.fresh HK4 | exact HKr.out.drew.fresh HK4)))
      obtain ⟨A4, c4, hv4, hc4, _, hb4⟩ := OwnB.reads hown4
      rw [HL.out] at hc4 hv4
      subst hv4
      have HKn := hid HKr.out
      have HB4 := hid hb4
      clear HKr b0 b1 b2 b3 b4 hown4 hb4
      obtain ⟨b0, b1, b2, b3, b4⟩ := hSall.out _ HKn.out
      go_wp2_with fail
      refine (hcc.out _ A4 c4 _ HB4.out hc4).mono ?_
      rintro e w5 ⟨v5, rfl, hown5, HK5⟩
      obtain ⟨A5, c5, rfl, hc5, _, hb5⟩ := OwnRows.reads hown5
      have HKm := hid (HKa.out.fresh (HKn.out.fresh HK5))
      have HBm := hid (HBa.out.kept (HKn.out.fresh HK5))
      have HB5 := hid hb5
      have hl5 := hb5.len
      clear b0 b1 b2 b3 b4 hown5 hb5
      by_cases hlen : W.length = m
      · have HWL := hid hlen
        rw [hlen] at hc5 hl5 ⊢
        have dne : ((m : Int) != (m : Int)) = false := by simp
        clear hlen
        go_wp2_with fail
        go_loopw [54] (fun v54 wr => ∃ k : Nat, k ≤ m ∧ v54 = .int .i64 (k : Int) ∧ Hid (∀ j, j < k → gr ls j = gr W j) ∧ Hid (Keeps NoB w5 wr)) (fun v54 _ => m - (intOf v54).toNat)
        case atStart => exact ⟨0, Nat.zero_le _, rfl, fun j h => absurd h (Nat.not_lt_zero _), Keeps.refl _ _⟩
        case round =>
          obtain ⟨k, hk, rfl, HJ, HK⟩ := hrel
          by_cases hlt : k < m
          · obtain ⟨g1, o1, rfl, _, hc1⟩ := (HBm.out.kept HK.out).2 (by rw [HM.out]; omega)
            obtain ⟨u1, k1, B1, d1x, rfl, _, _, r1⟩ := hc1 k (by rw [HM.out]; exact hlt)
            obtain ⟨g2, o2, rfl, _, hc2⟩ := (HB5.out.kept HK.out).2 (by rw [HWL.out]; omega)
            obtain ⟨u2, k2, B2, d2x, rfl, _, _, r2⟩ := hc2 k (by rw [HWL.out]; exact hlt)
            have f1 := fun n => conv_run 25 9 Try.underlying25 Try.underlying9 (r1.kept ((Keeps.refl NoB wr).drewN n)) d1x
            have f2 := fun n => conv_run 25 9 Try.underlying25 Try.underlying9 (r2.kept ((Keeps.refl NoB wr).drewN n)) d2x
            have q0 : (0 : Int) ≤ (k : Int) := by omega
            have q1 : (k : Int) < (m : Int) := by omega
            clear hc1 hc2 r1 r2
            by_cases hx : gr ls k = gr W k
            · have HJ2 := hid (show ∀ j, j < k + 1 → gr ls j = gr W j from fun j hj => by
                by_cases e : j = k
                · rw [e]; exact hx
                · exact HJ.out j (by omega))
              have deq : ((strOf (gr W k)).toList == (strOf (gr ls k)).toList) = true := by rw [hx]; simp
              have dnq : ((strOf (gr W k)).toList != (strOf (gr ls k)).toList) = false := by rw [hx]; simp
              clear hx
              generalize gr ls k = x at *
              generalize gr W k = y at *
              go_wp2_with fail
              go_quiet (fail)
              go_wp2_with fail
              go_roundw
              case rel => exact ⟨k + 1, by omega, by go_num, HJ2, hid (HK.out.drewN _)⟩
              case measure => simp [intOf]; omega
            · have hs := hid (HRF2.out (fun e => hx (by rw [e])))
              have deq : ((strOf (gr W k)).toList == (strOf (gr ls k)).toList) = false := by
                rw [strOf_toList, strOf_toList]; simpa using fun h => hx h.symm
              have dnq : ((strOf (gr W k)).toList != (strOf (gr ls k)).toList) = true := by
                rw [strOf_toList, strOf_toList]; simpa using fun h => hx h.symm
              clear hx
              generalize gr ls k = x at *
              generalize gr W k = y at *
              go_wp2_with fail
              go_quiet (fail)
              go_wp2_with fail
              go_ret
              rw [hs.out]
              exact ⟨rfl, HKm.out.fresh (HK.out.drewN _)⟩
          · obtain rfl : k = m := by omega
            have hs := hid (HRT2.out (hext.out (by rw [HM.out, HWL.out]) (fun j hj => HJ.out j (by rw [← HM.out]; exact hj))))
            go_wp2_with fail
            go_ret
            rw [hs.out]
            exact ⟨rfl, HKm.out.fresh HK.out⟩
      · have hs := hid (HRF2.out (fun e => hlen (by rw [← e, HM.out])))
        obtain ⟨M2, hM2⟩ : ∃ M2, W.length = M2 := ⟨_, rfl⟩
        rw [hM2] at hc5 hl5 hlen ⊢
        have dne : ((M2 : Int) != (m : Int)) = true := by simp; omega
        clear hlen hM2
        go_wp2_with fail
        go_ret
        rw [hs.out]
        exact ⟨rfl, HKm.out⟩
    · have hf := hid (HRF.out (fun h => hj (by have := h.2.2.1; rw [HN2.out] at this; exact this)))
      have hjc := hid (fun (w' : World) (hk : Keeps NoB wa w') => join_bad p n (ls.take N) A c _ w' hm ((HBa.out.kept hk).take N) hn hn2 hj)
      unfold Par.val at hjc
      rw [HN.out, htk.out] at hjc
      clear hm hj
      go_enter Try.func16, Try.ntmps16
      go_wp2_with fail
      go_region_held3 (fun w' => w'.cell? ⟨w.heap.size, 0, none⟩ = some (.int .i64 (N : Int)) ∧ w'.cell? ⟨w.heap.size, 1, none⟩ = some (.int .i64 p.b) ∧ w'.cell? ⟨w.heap.size, 2, none⟩ = some (.int .i64 p.q) ∧ w'.cell? ⟨w.heap.size, 3, none⟩ = some (.int .i64 p.eps) ∧ w'.cell? ⟨w.heap.size, 4, none⟩ = some (.int .i64 p.f)) (first | (exact hSall.out _ HKr.out) | (exact hSall.out _ HKr.out.drew) | go_keep) ((go_at_call 46; refine (hjc.out _ (by first | exact HKr.out | exact HKr.out.drew)).mono ?_; rintro e w4 ⟨rfl, HK4⟩; have HKr := hid (show Keeps NoB wa w4 by first | exact HKr.out.fresh HK4 | exact HKr.out.drew.fresh HK4)))
      go_wp2_with fail
      go_ret
      rw [hf.out]
      exact ⟨rfl, HKa.out.fresh HKr.out⟩
  · have hf := hid (HRF.out (fun h => hm h.1))
    have hjc := hid (fun (w' : World) => join_no p n A N c w' hm)
    unfold Par.val at hjc
    rw [HN.out] at hjc
    clear hm
    go_enter Try.func16, Try.ntmps16
    go_wp2_with fail
    go_region_held3 (fun w' => w'.cell? ⟨w.heap.size, 0, none⟩ = some (.int .i64 (N : Int)) ∧ w'.cell? ⟨w.heap.size, 1, none⟩ = some (.int .i64 p.b) ∧ w'.cell? ⟨w.heap.size, 2, none⟩ = some (.int .i64 p.q) ∧ w'.cell? ⟨w.heap.size, 3, none⟩ = some (.int .i64 p.eps) ∧ w'.cell? ⟨w.heap.size, 4, none⟩ = some (.int .i64 p.f)) (first | (exact hSall.out _ HKr.out) | (exact hSall.out _ HKr.out.drew) | go_keep) ((go_at_call 46; refine (hjc.out _).mono ?_; rintro e w4 ⟨rfl, HK4⟩; have HKr := hid (show Keeps NoB wa w4 by first | exact HKr.out.fresh HK4 | exact HKr.out.drew.fresh HK4)))
    go_wp2_with fail
    go_ret
    rw [hf.out]
    exact ⟨rfl, HKa.out.fresh HKr.out⟩
end Go.Proofs.Ytpkkaicpbihjfaa
/- The first words of the laws of composite blocks: the walk of almonrylaw13.speaks. Conditions: none. -/
set_option linter.unusedVariables false
namespace Go.Proofs.Ytpkkaicpbihjfaa
open Go.RowKit
attribute [local go_sem ↓] Go.wp_at_zero Go.wp_at_succ

theorem RowsIn.ofBlock {R : Nat → Prop} {w : World} {b : Nat} {e : TypeId} {fr : Nat × Nat} (us : List Value) (ls : List (List UInt8)) (h : w.heap[b]? = some (.cells us.toArray e fr)) (hl : us.length = ls.length) (hm : ls.length ≤ 9223372036854775807) (hR : R b)
    (hr : ∀ j u, us[j]? = some u → RowIn R w u (gr ls j)) : RowsIn R w (some ⟨b, 0, none⟩) ls := by
  refine ⟨hm, fun _ => ⟨b, 0, rfl, hR, fun j hj => ?_⟩⟩
  have hj2 : j < us.length := by omega
  refine ⟨us[j], ?_, hr j _ (List.getElem?_eq_getElem hj2)⟩
  simp [World.cell?, h, Nat.zero_add, List.getElem?_eq_getElem hj2]
theorem BytesIn.ofBlock {R : Nat → Prop} {w : World} {b : Nat} {e : TypeId} {fr : Nat × Nat} (l : List UInt8) (h : w.heap[b]? = some (.cells ((enc8 l).map (Value.int .u8)).toArray e fr)) (hl : l.length ≤ 9223372036854775807) (hR : R b) : BytesIn R w (some ⟨b, 0, none⟩) l :=
  ⟨IntsAt.ofBlock (enc8 l) h (by rw [enc8_length]; exact hl), fun b' off e' _ => by injection e' with e'; injection e' with e' _; subst e'; exact hR⟩
def par13 : Par := ⟨2, 1, 1, 900, 2⟩
theorem par13_may : par13.may := by decide
theorem par13_wf : par13.wf := by unfold Par.wf; decide
theorem aux13 : auxN par13 = 1 := by decide
theorem of13 (s i : Nat) : ofN par13 s i = [0] := by
  unfold ofN
  rw [aux13]
  exact someN_all _ 1
theorem has13 (s : Nat) : hasN par13 s 2 = [[0, 1]] := by
  show putAll (putAll (List.replicate (auxN par13).toNat []) 0 (ofN par13 s 0)) 1 (ofN par13 s 1) = _
  rw [of13, of13, aux13]; rfl
theorem comp13 (s : Nat) (obj : List UInt8) : compN par13 s obj = [[gb obj 0], [gb obj 1], [0 ^^^ gb obj 0 ^^^ gb obj 1]] := by
  have e : compN par13 s obj = splitN par13 obj ++ [sumB 1 (pickR (splitN par13 obj) (gl (hasN par13 s 2) 0))] := by
    unfold compN; rw [aux13]; rfl
  rw [e, has13]
  rfl
theorem comp13a : compN par13 5 [6, 3] = [[6], [3], [5]] := by rw [comp13]; decide
theorem right13a : rightB par13 5 2 [[6], [3], [5]] = true := by
  refine rightB_true ⟨par13_may, by decide, ⟨by decide, by decide, by decide, by decide⟩, ?_⟩
  rw [comp13]; decide
theorem right13b : rightB par13 5 2 [[6], [3], [3]] = false := by
  refine rightB_false (fun h => ?_)
  have := h.2.2.2
  rw [comp13] at this
  exact absurd this (by decide)
set_option maxHeartbeats 1000000 in
set_option maxRecDepth 20000 in
theorem speaks13_calls (w : World) :
    Calls Try.prog 11 #[] w fun e w' => e = .returned (.bool true) ∧ Keeps NoB w w' := by
  have hu := Try.underlying23
  have hcc := hid (fun (w' : World) (B : Option Addr) (cB : Nat) (R' : Nat → Prop) (h : BytesIn R' w' B [6, 3]) (hc : 2 ≤ cB) => comp_yes par13 5 [6, 3] B cB R' w' par13_may (by decide) h hc (by decide))
  rw [comp13a] at hcc
  go_enter Try.func11, Try.ntmps11
  go_wp2_with fail
  refine (hcc.out _ (some ⟨w.heap.size + 1, 0, none⟩) 2 (fun _ => True) (BytesIn.ofBlock [6, 3] (by exact heap_alloc2_new w _ _) (by decide) trivial) (by omega)).mono ?_
  rintro e w1 ⟨v1, rfl, hown1, HK1⟩
  have hbA := hid (heap_alloc_new w (.cells #[.int .i64 2, .int .i64 1, .int .i64 1, .int .i64 900, .int .i64 2] 23))
  have hS := hid (fun w' (hk : Keeps NoB (w.alloc (.cells #[.int .i64 2, .int .i64 1, .int .i64 1, .int .i64 900, .int .i64 2] 23)) w') => cells5 (hk.heap hbA.out (fun h => h)))
  have HKb := hid (((Keeps.refl NoB (w.alloc (.cells #[.int .i64 2, .int .i64 1, .int .i64 1, .int .i64 900, .int .i64 2] 23))).alloc _).fresh HK1)
  have HKw := hid (((Keeps.refl NoB w).alloc _).fresh HKb.out)
  obtain ⟨A1, c1, hv1, hc1, hA1, hrows⟩ := hown1.reads
  obtain ⟨g, o, rfl, _, hcl⟩ := hrows.2 (by decide)
  obtain ⟨u0, k0, B0, d0, rfl, hd0, hz0, r0⟩ := hcl 0 (by decide)
  obtain ⟨u1, k1, B1, d1, rfl, hd1, hz1, r1⟩ := hcl 1 (by decide)
  obtain ⟨u2, k2, B2, d2, rfl, hd2, hz2, r2⟩ := hcl 2 (by decide)
  simp only [gr, List.getD_cons_zero, List.getD_cons_succ, List.length_cons, List.length_nil, Nat.zero_add, Nat.add_zero, Nat.reduceAdd] at k0 k1 k2 r0 r1 r2 hv1 hc1 hd0 hd1 hd2
  have f2 := conv_run 25 9 Try.underlying25 Try.underlying9 r2 d2
  simp only [List.length_cons, List.length_nil, Nat.zero_add] at f2
  have deq : ((strOf [5]).toList == [5]) = true := by rw [strOf_toList]; rfl
  subst hv1
  have HB := hid hrows
  have hx0 := hid (show RowIn _ w1 (Value.slice B0 1 d0) [6] from ⟨B0, d0, rfl, hd0, hz0, r0.mono (R' := fun _ => True) (fun _ _ _ => trivial)⟩)
  have hx1 := hid (show RowIn _ w1 (Value.slice B1 1 d1) [3] from ⟨B1, d1, rfl, hd1, hz1, r1.mono (R' := fun _ => True) (fun _ _ _ => trivial)⟩)
  have hA1 := hid hA1
  have HSC := hid (fun w' (hk : Keeps NoB w1 w') => (⟨hS.out _ (HKb.out.fresh hk), hk.cell k0 (fun h => h), hk.cell k1 (fun h => h)⟩ : _ ∧ _ ∧ _))
  clear hown1 hcl hrows r0 r1 r2 hz0 hz1 hz2 HK1
  go_wp2_with fail
  refine (check_in 1 [[6], [3], [5]] [0, 2] _ c1 (some ⟨w1.heap.size, 0, none⟩) 2 _ (w1.alloc (.cells #[.int .i64 0, .int .i64 2] 3)) (by decide) (by decide) (HB.out.kept ((Keeps.refl NoB w1).alloc _)) (by exact IntsAt.ofBlock [0, 2] (heap_alloc_new w1 _) (by decide)) (by unfold inRange; decide) (by decide)).mono ?_
  rintro e w2 ⟨HK2, ⟨h, _⟩ | ⟨_, v2, rfl, hown2⟩⟩
  · exact absurd h (by decide)
  rw [show sumB (Int.toNat 1) (pickR [[6], [3], [5]] [0, 2]) = [3] by decide] at hown2
  obtain ⟨A3, c3, rfl, _, _, hb3⟩ := hown2.reads
  have HKr := hid (((Keeps.refl NoB w1).alloc (.cells #[.int .i64 0, .int .i64 2] 3)).fresh HK2)
  have hcv := hid (fun (w' : World) (hk : Keeps NoB w2 w') => conv_run 25 9 Try.underlying25 Try.underlying9 (hb3.kept hk) c3)
  simp only [List.length_cons, List.length_nil, Nat.zero_add] at hcv
  have deq3 : ((strOf [3]).toList == [3]) = true := by rw [strOf_toList]; rfl
  have hrc1 := hid (fun (w' : World) (hk : Keeps NoB w2 w') => right_calls par13 5 2 [[6], [3], [5]] (some ⟨g, o, none⟩) c1 _ w' par13_wf (by decide) (by decide) (by decide) (HB.out.kept (HKr.out.fresh hk)) hc1 (fun e => by cases e))
  rw [right13a] at hrc1
  have hrc2 := hid (fun (w' : World) (hk : Keeps NoB w2 w') => right_calls par13 5 2 [[6], [3], [3]] (some ⟨w'.heap.size, 0, none⟩) 3 (fun _ => True) (w'.alloc (.cells #[Value.slice B0 1 d0, Value.slice B1 1 d1, Value.slice B1 1 d1] 25)) par13_wf (by decide) (by decide) (by decide)
    (RowsIn.ofBlock [Value.slice B0 1 d0, Value.slice B1 1 d1, Value.slice B1 1 d1] [[6], [3], [3]] (by exact heap_alloc_new w' _) rfl (by decide) trivial (by
      have hk := HKr.out.fresh hk
      have hx0 := RowIn.keeps (R := fun _ => True) hx0.out (hk.alloc (.cells #[Value.slice B0 1 d0, Value.slice B1 1 d1, Value.slice B1 1 d1] 25)) (fun _ _ h => h)
      have hx1 := RowIn.keeps (R := fun _ => True) hx1.out (hk.alloc (.cells #[Value.slice B0 1 d0, Value.slice B1 1 d1, Value.slice B1 1 d1] 25)) (fun _ _ h => h)
      intro j u hu
      rcases j with _ | _ | _ | j
      · obtain rfl := Option.some.inj hu; exact hx0
      · obtain rfl := Option.some.inj hu; exact hx1
      · obtain rfl := Option.some.inj hu; exact hx1
      · exact absurd hu (by simp))) (by decide) (fun e => by cases e))
  rw [right13b] at hrc2
  have tk1 := hid trivial
  have HS2 := hid (fun w' (hk : Keeps NoB w2 w') => (⟨(HSC.out _ (HKr.out.fresh hk)).1.1, (HSC.out _ (HKr.out.fresh hk)).1.2.1, (HSC.out _ (HKr.out.fresh hk)).1.2.2.1, (HSC.out _ (HKr.out.fresh hk)).1.2.2.2.1, (HSC.out _ (HKr.out.fresh hk)).1.2.2.2.2, (HSC.out _ (HKr.out.fresh hk)).2.1, (HSC.out _ (HKr.out.fresh hk)).2.2, hcv.out _ hk⟩ : _ ∧ _ ∧ _ ∧ _ ∧ _ ∧ _ ∧ _ ∧ _))
  have HKw2 := hid (HKw.out.fresh HKr.out)
  clear hown2 k0 k1 k2 f2 deq HKr hb3
  have HKr := hid (Keeps.refl NoB w2)
  go_wp2_with fail
  go_region_held3 (fun w' => w'.cell? ⟨w.heap.size, 0, none⟩ = some (.int .i64 2) ∧ w'.cell? ⟨w.heap.size, 1, none⟩ = some (.int .i64 1) ∧ w'.cell? ⟨w.heap.size, 2, none⟩ = some (.int .i64 1) ∧ w'.cell? ⟨w.heap.size, 3, none⟩ = some (.int .i64 900) ∧ w'.cell? ⟨w.heap.size, 4, none⟩ = some (.int .i64 2) ∧ w'.cell? ⟨g, o, none⟩ = some (Value.slice B0 1 d0) ∧ w'.cell? ⟨g, o + 1, none⟩ = some (Value.slice B1 1 d1) ∧ Sem.run Try.prog (convert 25 9 (Value.slice A3 1 c3)) w' = Result.ok (Value.string (strOf [3])) w') (first | (exact HS2.out _ HKr.out) | (exact HS2.out _ HKr.out.drew) | (exact HS2.out _ (HKr.out.alloc _)) | go_keep) (first
    | (go_at_call 16; clear tk1; refine (hrc1.out _ (by first | exact HKr.out | exact HKr.out.drew)).mono ?_; rintro e w4 ⟨rfl, HK4⟩; have HKr := hid (show Keeps NoB w2 w4 by first | exact HKr.out.fresh HK4 | exact HKr.out.drew.fresh HK4))
    | (go_at_call 16; refine (hrc2.out _ HKr.out).mono ?_; rintro e w5 ⟨rfl, HK5⟩; have HKr := hid (show Keeps NoB w2 w5 from (HKr.out.alloc _).fresh HK5)))
  go_wp2_with fail
  go_ret
  exact ⟨rfl, HKw2.out.fresh HKr.out⟩
end Go.Proofs.Ytpkkaicpbihjfaa
/- The first words of the laws of frames: the walks of almonrylaw14.speaks, small. No condition. -/
set_option linter.unusedVariables false
set_option linter.unusedSimpArgs false
namespace Go.Proofs.Ytpkkaicpbihjfaa
open Go.RowKit
attribute [local go_sem ↓] Go.wp_at_zero Go.wp_at_succ

def par14 : Par := ⟨1, 2, 1, 1000, 2⟩
theorem par14_may : par14.may := by decide
theorem aux14 : auxN par14 = 1 := by decide
theorem of14 (s i : Nat) : ofN par14 s i = [0] := by
  unfold ofN
  rw [aux14]
  exact someN_all _ 1
theorem has14 (s : Nat) : hasN par14 s 1 = [[0]] := by
  show putAll (List.replicate (auxN par14).toNat []) 0 (ofN par14 s 0) = _
  rw [of14, aux14]; rfl
theorem comp14 (s : Nat) : compN par14 s [5, 6] = [[5, 6], [5, 6]] := by
  have e : compN par14 s [5, 6] = splitN par14 [5, 6] ++ [sumB 2 (pickR (splitN par14 [5, 6]) (gl (hasN par14 s 1) 0))] := by
    unfold compN; rw [aux14]; rfl
  rw [e, has14]
  rfl
set_option maxHeartbeats 2000000 in
set_option maxRecDepth 20000 in
theorem speaks14_calls (w : World) : Calls Try.prog 19 #[] w fun e w' => e = .returned (.bool true) ∧ Keeps NoB w w' := by
  have hu := Try.underlying23
  have huh := Try.underlying53
  have hup := Try.underlying55
  have HN := hid (fun (W : World) (B : Option Addr) (cB : Nat) (R' : Nat → Prop) (h : BytesIn R' W B [5, 6]) (hc : 2 ≤ cB) => emitNew_yes par14 7 [5, 6] B cB R' W par14_may (by decide) h hc (by decide))
  have HP := hid (fun (W : World) (c : Nat) (h : EncAt W c par14 7 [5, 6]) => packet_calls c par14 7 [5, 6] 3 W h par14_may (by decide) (by decide))
  have HF := hid (fun (W : World) (c : Nat) (h : EncAt W c par14 7 [5, 6]) => frame_calls c par14 7 [5, 6] 3 W h par14_may (by decide) (by decide) (by decide))
  have HC := hid (fun (W : World) (c : Nat) (h : EncAt W c par14 7 [5, 6]) => composite_calls c par14 7 [5, 6] 1 W h par14_may)
  rw [comp14] at HC
  rw [show cmpN [[5, 6], [5, 6]] 1 = [5, 6] from rfl] at HC
  rw [show 42 + par14.b.toNat = 44 from rfl] at HF
  rw [show par14.b.toNat = 2 from rfl] at HP
  rw [show ([5, 6] : List UInt8).length = 2 from rfl] at HP HN
  have hv : par14.val = .agg #[.int .i64 1, .int .i64 2, .int .i64 1, .int .i64 1000, .int .i64 2] := rfl
  rw [hv] at HN
  have hv2 : (par14.n, par14.b, par14.q, par14.eps, par14.f) = ((1 : Int), (2 : Int), (1 : Int), (1000 : Int), (2 : Int)) := rfl
  simp only [show par14.n = 1 from rfl, show par14.b = 2 from rfl, show par14.q = 1 from rfl, show par14.eps = 1000 from rfl, show par14.f = 2 from rfl] at HP
  clear hv hv2
  go_enter Try.func19, Try.ntmps19
  go_wp2_with fail
  refine (HN.out _ (some ⟨w.heap.size, 0, none⟩) 2 (fun _ => True) (BytesIn.ofBlock [5, 6] (by exact heap_alloc_new w _) (by decide) trivial) (by omega)).mono ?_
  rintro e w1 ⟨c, rfl, he, hk1⟩
  have HE := hid he
  have HK1 := hid (((Keeps.refl NoB w).alloc _).fresh hk1)
  clear he hk1
  go_wp2_with fail
  refine (HP.out _ c HE.out).mono ?_
  rintro e w2 ⟨Ap, cp, rfl, ho2, hk2⟩
  have HE2 := hid (HE.out.kept hk2)
  have HK2 := hid (HK1.out.fresh hk2)
  have HB3 := hid (heap_alloc_new w2 (.cells #[.int .u64 7, .int .i64 1, .int .i64 2, .int .i64 1, .int .i64 1000, .int .i64 2, .int .i64 2, .int .u64 3, .slice Ap 2 cp] 55))
  have HK3 := hid ((Keeps.refl NoB w2).alloc (.cells #[.int .u64 7, .int .i64 1, .int .i64 2, .int .i64 1, .int .i64 1000, .int .i64 2, .int .i64 2, .int .u64 3, .slice Ap 2 cp] 55))
  clear ho2 hk2 HE
  go_wp2_with fail
  refine (HF.out _ c (HE2.out.kept HK3.out)).mono ?_
  rintro e w4 ⟨A4, c4, rfl, ho4, hk4⟩
  have HE4 := hid ((HE2.out.kept HK3.out).kept hk4)
  have HK4 := hid ((HK2.out.fresh HK3.out).fresh hk4)
  clear ho4 hk4
  go_wp2_with fail
  refine (HC.out _ c HE4.out).mono ?_
  rintro e w5 ⟨v5, rfl, ho5, hk5⟩
  obtain ⟨A5, c5, hv5, _, _, hb5⟩ := OwnB.reads ho5
  have f5 := conv_run 25 9 Try.underlying25 Try.underlying9 hb5 c5
  subst hv5
  simp only [List.length_cons, List.length_nil, Nat.zero_add, Nat.reduceAdd] at f5 ⊢
  have HKW := hid (HK4.out.fresh hk5)
  have deq : ((strOf [5, 6]).toList == [5, 6]) = true := by rw [strOf_toList]; rfl
  clear ho5 hk5 hb5
  go_wp2_with fail
  go_ret
  exact ⟨rfl, HKW.out⟩
/-- Is an object one that may be, and no more than is looked at? -/
def smallN (p : Par) (L : Nat) : Bool := mayB p && decide (p.n ≤ 60) && decide (p.b ≤ 60) && decide (p.f ≤ 200) && decide ((L : Int) ≤ p.n * p.b)
theorem smallN_yes {p : Par} {L : Nat} (h : smallN p L = true) : p.may ∧ p.n ≤ 60 ∧ p.b ≤ 60 ∧ p.f ≤ 200 ∧ (L : Int) ≤ p.n * p.b := by
  unfold smallN mayB at h
  simp only [Bool.and_eq_true, decide_eq_true_eq] at h
  obtain ⟨⟨⟨⟨h1, h2⟩, h3⟩, h4⟩, h5⟩ := h
  exact ⟨h1, h2, h3, h4, h5⟩
set_option maxHeartbeats 2000000 in
set_option maxRecDepth 20000 in
theorem small_calls (p : Par) (A : Option Addr) (L c : Nat) (w : World) (hL : L ≤ 9223372036854775807) : Calls Try.prog 26 #[p.val, .slice A L c] w fun e w' => e = .returned (.bool (smallN p L)) ∧ Keeps NoB w w' := by
  have hu := Try.underlying23
  have HCK := hid (may_calls p)
  unfold Par.val at HCK ⊢
  have HB := hid (heap_alloc_new w (.cells #[.int .i64 p.n, .int .i64 p.b, .int .i64 p.q, .int .i64 p.eps, .int .i64 p.f] 23))
  have HK := hid ((Keeps.refl NoB w).alloc (.cells #[.int .i64 p.n, .int .i64 p.b, .int .i64 p.q, .int .i64 p.eps, .int .i64 p.f] 23))
  obtain ⟨wa, hwa⟩ : ∃ wa, w.alloc (.cells #[.int .i64 p.n, .int .i64 p.b, .int .i64 p.q, .int .i64 p.eps, .int .i64 p.f] 23) = wa := ⟨_, rfl⟩
  rw [hwa] at HB HK
  obtain ⟨pb, hpb⟩ : ∃ pb, w.heap.size = pb := ⟨_, rfl⟩
  rw [hpb] at HB
  have HC0 := hid (fun (W : World) (hW : Keeps NoB wa W) => cells5 (hW.heap HB.out (fun h => h)))
  by_cases hm : p.may
  · have hc := hid (mayB_true hm)
    obtain ⟨N, B, e1, e2, e3, e4, e5, e6, e7, e8, hNB, hNB2⟩ := par_sizes hm
    have hr := hid (show smallN p L = (decide (p.n ≤ 60) && decide (p.b ≤ 60) && decide (p.f ≤ 200) && decide ((L : Int) ≤ p.n * p.b)) by unfold smallN; rw [mayB_true hm, Bool.true_and])
    rw [hNB] at hr
    have hNBi : p.n * p.b = ((N * B : Nat) : Int) := hNB
    generalize N * B = M at *
    clear e1 e2 e3 e4 e5 e6 e7 e8 hm hNB
    have m0 : (0 : Int) ≤ (M : Int) := by omega
    have m1 : (M : Int) ≤ 68718428160 := by omega
    have hw1 : wrap64 (M : Int) = (M : Int) := IntWalk.wrap64_in _ ⟨by omega, by omega⟩
    go_enter Try.func26, Try.ntmps26
    obtain ⟨b0, b1, b2, b3, b4⟩ := HC0.out wa (Keeps.refl _ _)
    by_cases h1 : p.n ≤ 60
    · have d1 : decide (p.n ≤ 60) = true := decide_eq_true h1
      by_cases h2 : p.b ≤ 60
      · have d2 : decide (p.b ≤ 60) = true := decide_eq_true h2
        by_cases h3 : p.f ≤ 200
        · have d3 : decide (p.f ≤ 200) = true := decide_eq_true h3
          rw [d1, d2, d3] at hr
          have hr := hid (show smallN p L = decide (L ≤ M) by rw [hr.out, show decide ((L : Int) ≤ (M : Int)) = decide (L ≤ M) from decide_eq_decide.mpr (by omega)]; rfl)
          clear h1 h2 h3
          go_wp2_with fail
          refine (HCK.out _).mono ?_
          rintro e w1 ⟨rfl, HK1⟩
          rw [hc.out]
          have HK1 := hid HK1
          clear b0 b1 b2 b3 b4 hwa hpb
          obtain ⟨b0, b1, b2, b3, b4⟩ := HC0.out w1 HK1.out
          go_wp2_with fail
          go_ret
          exact ⟨by rw [hr.out]; rfl, HK.out.fresh HK1.out⟩
        · have d3 : decide (p.f ≤ 200) = false := decide_eq_false h3
          have hr := hid (show smallN p L = false by rw [hr.out, d3]; simp)
          clear h1 h2 h3
          go_wp2_with fail
          refine (HCK.out _).mono ?_
          rintro e w1 ⟨rfl, HK1⟩
          rw [hc.out]
          have HK1 := hid HK1
          clear b0 b1 b2 b3 b4 hwa hpb
          obtain ⟨b0, b1, b2, b3, b4⟩ := HC0.out w1 HK1.out
          go_wp2_with fail
          go_ret
          exact ⟨by rw [hr.out]; rfl, HK.out.fresh HK1.out⟩
      · have d2 : decide (p.b ≤ 60) = false := decide_eq_false h2
        have hr := hid (show smallN p L = false by rw [hr.out, d2]; simp)
        clear h1 h2
        go_wp2_with fail
        refine (HCK.out _).mono ?_
        rintro e w1 ⟨rfl, HK1⟩
        rw [hc.out]
        have HK1 := hid HK1
        clear b0 b1 b2 b3 b4 hwa hpb
        obtain ⟨b0, b1, b2, b3, b4⟩ := HC0.out w1 HK1.out
        go_wp2_with fail
        go_ret
        exact ⟨by rw [hr.out]; rfl, HK.out.fresh HK1.out⟩
    · have d1 : decide (p.n ≤ 60) = false := decide_eq_false h1
      have hr := hid (show smallN p L = false by rw [hr.out, d1]; simp)
      clear h1
      go_wp2_with fail
      refine (HCK.out _).mono ?_
      rintro e w1 ⟨rfl, HK1⟩
      rw [hc.out]
      have HK1 := hid HK1
      clear b0 b1 b2 b3 b4 hwa hpb
      obtain ⟨b0, b1, b2, b3, b4⟩ := HC0.out w1 HK1.out
      go_wp2_with fail
      go_ret
      exact ⟨by rw [hr.out]; rfl, HK.out.fresh HK1.out⟩
  · have hc := hid (mayB_false hm)
    have hr := hid (show smallN p L = false by unfold smallN; rw [mayB_false hm]; simp)
    clear hm
    go_enter Try.func26, Try.ntmps26
    obtain ⟨b0, b1, b2, b3, b4⟩ := HC0.out wa (Keeps.refl _ _)
    go_wp2_with fail
    refine (HCK.out _).mono ?_
    rintro e w1 ⟨rfl, HK1⟩
    rw [hc.out]
    have HK1 := hid HK1
    clear b0 b1 b2 b3 b4 hwa hpb
    obtain ⟨b0, b1, b2, b3, b4⟩ := HC0.out w1 HK1.out
    go_wp2_with fail
    go_ret
    exact ⟨by rw [hr.out]; rfl, HK.out.fresh HK1.out⟩
end Go.Proofs.Ytpkkaicpbihjfaa
/- Composite blocks of an object are right: the plain law. Conditions: parameters that may be. -/
set_option linter.unusedVariables false
namespace Go.Proofs.Ytpkkaicpbihjfaa
open Go.RowKit

theorem chunks_flat (B : Nat) (obj : List UInt8) (N : Nat) : ((List.range N).map (chunkN B obj)).flatten = (List.range (N * B)).map (gb obj) := by
  induction N with
  | zero => simp
  | succ N ih =>
    rw [List.range_succ, List.map_append, List.flatten_append, ih, Nat.succ_mul, List.range_add, List.map_append]
    simp [chunkN, Function.comp_def]
theorem map_gb (obj : List UInt8) : (List.range obj.length).map (gb obj) = obj := by
  apply List.ext_getElem (by simp)
  intro j h1 h2
  simp [gb, h2]
theorem join_split {p : Par} {obj : List UInt8} (h : obj.length ≤ p.n.toNat * p.b.toNat) : joinN obj.length (splitN p obj) = obj := by
  unfold joinN splitN
  rw [chunks_flat, ← List.map_take, List.take_range, Nat.min_eq_left h]
  exact map_gb obj
theorem comp_take (p : Par) (session : Nat) (obj : List UInt8) : (compN p session obj).take p.n.toNat = splitN p obj := by
  unfold compN compK
  rw [List.take_append_of_le_length (by rw [splitN_length]; omega), ← splitN_length p obj, List.take_length]
theorem split_fitB (p : Par) (obj : List UInt8) : fitB p.b.toNat (splitN p obj) = true := by
  unfold fitB splitN
  rw [List.all_eq_true]
  intro l hl
  obtain ⟨i, _, rfl⟩ := List.mem_map.1 hl
  simp [chunkN_length]
theorem right_comp {p : Par} (hm : p.may) (session : Nat) (obj : List UInt8) (h : (obj.length : Int) ≤ p.n * p.b) : rightB p session (obj.length : Int) (compN p session obj) = true := by
  obtain ⟨N, B, hpn, hpb, hpn2, hpb2, hN1, hN2, hB1, hB2, hNB, hNB2⟩ := par_sizes hm
  have hl : obj.length ≤ p.n.toNat * p.b.toNat := by rw [hpn2, hpb2]; rw [hNB] at h; omega
  refine rightB_true ⟨hm, ?_, ⟨?_, by omega, h, ?_⟩, ?_⟩
  · unfold compN; rw [compK_length]; omega
  · rw [comp_take, splitN_length]; omega
  · rw [comp_take]; exact split_fitB p obj
  · rw [comp_take, Int.toNat_natCast, join_split hl]
end Go.Proofs.Ytpkkaicpbihjfaa
/- Of an object's composite blocks the outer equations hold: the plain law. Conditions: parameters that may be. -/
set_option linter.unusedVariables false
namespace Go.Proofs.Ytpkkaicpbihjfaa
open Go.RowKit

theorem xorL_self (s : List UInt8) : xorL s s = List.replicate s.length 0 := by
  induction s with
  | nil => rfl
  | cons x r ih =>
    have : xorL (x :: r) (x :: r) = (x ^^^ x) :: xorL r r := rfl
    rw [this, ih, UInt8.xor_self]; rfl
theorem sumB_snoc (n : Nat) (ls : List (List UInt8)) (l : List UInt8) : sumB n (ls ++ [l]) = xorL (sumB n ls) l := by
  unfold sumB xorAll; rw [List.foldl_append]; rfl
theorem comp_aux (p : Par) (session : Nat) (obj : List UInt8) (j : Nat) (hj : j < (auxN p).toNat) : gr (compN p session obj) (p.n.toNat + j) = auxB p session obj j := by
  unfold gr compN compK
  rw [List.getD_eq_getElem?_getD, List.getElem?_append_right (by rw [splitN_length]; omega), splitN_length]
  simp [hj]
theorem holds_at {p : Par} (hm : p.may) (session : Nat) (obj : List UInt8) (j : Nat) (hj : j < (auxN p).toNat) :
    inRange (compN p session obj).length (gl (hasN p session p.n.toNat) j ++ [p.n + (j : Int)]) ∧ fitN p.b (pickR (compN p session obj) (gl (hasN p session p.n.toNat) j ++ [p.n + (j : Int)])) = true ∧
    sumB p.b.toNat (pickR (compN p session obj) (gl (hasN p session p.n.toNat) j ++ [p.n + (j : Int)])) = List.replicate p.b.toNat 0 ∧ (gl (hasN p session p.n.toNat) j ++ [p.n + (j : Int)]).length ≤ 1073741824 := by
  have hn : 1 ≤ p.n ∧ p.n ≤ 1048576 := ⟨hm.1, hm.2.1⟩
  have hpb : 1 ≤ p.b := hm.2.2.1
  have hr := has_range' hm session obj j
  have e1 : pickR (compN p session obj) (gl (hasN p session p.n.toNat) j) = pickR (splitN p obj) (gl (hasN p session p.n.toNat) j) := pick_append hr
  have e2 : (p.n + (j : Int)).toNat = p.n.toNat + j := by omega
  have e3 : pickR (compN p session obj) (gl (hasN p session p.n.toNat) j ++ [p.n + (j : Int)]) = pickR (splitN p obj) (gl (hasN p session p.n.toNat) j) ++ [auxB p session obj j] := by
    rw [pickR_snoc, e1, e2, comp_aux p session obj j hj]
  have hf := pick_fit p obj hr
  have hl := auxB_length hm session obj j
  have hb := hasN_bound p session hm p.n.toNat j
  refine ⟨?_, ?_, ?_, ?_⟩
  · intro i hi
    unfold compN
    rw [compK_length]
    rcases List.mem_append.1 hi with h | h
    · have := hr i h; rw [splitN_length] at this; omega
    · have := List.mem_singleton.1 h; omega
  · rw [e3]
    unfold fitN fitB
    rw [List.all_append]
    unfold fitB at hf
    rw [hf]
    simp [hl]; omega
  · rw [e3, sumB_snoc, show auxB p session obj j = sumB p.b.toNat (pickR (splitN p obj) (gl (hasN p session p.n.toNat) j)) from rfl, xorL_self, sumB_length hf]
  · rw [List.length_append]; simp; omega
theorem zero_repl (n : Nat) : zeroB (List.replicate n 0) = true := by simp [zeroB]
theorem check_holds {p : Par} (hm : p.may) (session : Nat) (obj : List UInt8) (j : Nat) (hj : j < (auxN p).toNat) (A : Option Addr) (c : Nat) (A2 : Option Addr) (c2 : Nat) (R : Nat → Prop) (w : World) (hb : RowsIn R w A (compN p session obj)) (hi : IntsAt w .i64 A2 (gl (eqsN (hasN p session p.n.toNat) p.n (auxN p).toNat) j)) :
    Calls Try.prog 42 #[.int .i64 p.b, .slice A (compN p session obj).length c, .slice A2 (gl (eqsN (hasN p session p.n.toNat) p.n (auxN p).toNat) j).length c2] w fun e w' => ∃ v, e = .returned (.tuple #[v, .bool true]) ∧ OwnB w' w.heap.size v (List.replicate p.b.toNat 0) ∧ Keeps NoB w w' := by
  obtain ⟨h1, h2, h3, h4⟩ := holds_at hm session obj j hj
  have hpb : 1 ≤ p.b ∧ p.b ≤ 65535 := ⟨hm.2.2.1, hm.2.2.2.1⟩
  rw [eqsN_gl _ _ _ _ hj] at hi ⊢
  refine (check_in p.b (compN p session obj) _ A c A2 c2 R w (by omega) (by omega) hb hi h1 h4).mono ?_
  rintro e w' ⟨hk, ⟨hf, _⟩ | ⟨_, v, he, ho⟩⟩
  · rw [h2] at hf; cases hf
  · rw [h3] at ho; exact ⟨v, he, ho, hk⟩
end Go.Proofs.Ytpkkaicpbihjfaa
/- Does an equation hold of blocks: the program's walk. Conditions: lengths are small; what is read lies below. -/
set_option linter.unusedVariables false
namespace Go.Proofs.Ytpkkaicpbihjfaa
open Go.RowKit

/-- Is there such a block, as long? -/
def okB (n : Nat) (bs : List (List UInt8)) (i : Int) : Bool := decide (0 ≤ i) && decide (i < (bs.length : Int)) && decide ((gr bs i.toNat).length = n)
def selB (bs : List (List UInt8)) (is : List Int) : List (List UInt8) := is.map fun i => gr bs i.toNat
/-- Does an equation hold of blocks? -/
def holdsE (is : List Int) (val : List UInt8) (bs : List (List UInt8)) : Bool := is.all (okB val.length bs) && zeroB (xorAll val (selB bs is))
theorem take_gi2 (is : List Int) (k : Nat) (h : k < is.length) : is.take (k + 1) = is.take k ++ [gi is k] := by rw [List.take_succ_eq_append_getElem h, gi_eq is k h]
theorem selB_snoc (bs : List (List UInt8)) (is : List Int) (i : Int) : selB bs (is ++ [i]) = selB bs is ++ [gr bs i.toNat] := by simp [selB]
theorem holdsE_no {is : List Int} {val : List UInt8} {bs : List (List UInt8)} {k : Nat} (hk : k < is.length) (h : okB val.length bs (gi is k) = false) : holdsE is val bs = false := by
  unfold holdsE
  rw [show is.all (okB val.length bs) = false from List.all_eq_false.2 ⟨gi is k, gi_mem is k hk, by simp [h]⟩, Bool.false_and]
theorem allOk_fit {n : Nat} {bs : List (List UInt8)} {is : List Int} (h : is.all (okB n bs) = true) : fitB n (selB bs is) = true := by
  unfold fitB selB
  rw [List.all_map, List.all_eq_true]
  intro i hi
  have := List.all_eq_true.1 h i hi
  simp only [okB, Bool.and_eq_true, decide_eq_true_eq] at this
  simpa using this.2
theorem bytes_one (R : Nat → Prop) (w : World) {u : Value} {l : List UInt8} {T : TypeId} (h : RowIn R w u l) (hR : ∀ b, R b → b < w.heap.size) : RowsIn (fun b => R b ∨ b = w.heap.size) (w.alloc (.cells #[u] T)) (some ⟨w.heap.size, 0, none⟩) [l] := by
  refine ⟨by simp, fun _ => ⟨w.heap.size, 0, rfl, .inr rfl, fun j hj => ?_⟩⟩
  obtain rfl : j = 0 := by simpa using hj
  exact ⟨u, cell_one _ _ _, (h.keeps ((Keeps.refl NoB w).alloc _) (fun _ _ h => h)).mono (fun b _ hb => .inl hb)⟩
theorem box_two (w : World) (a b : Value) (T : TypeId) : (w.alloc (.cells #[a, b] T)).cell? ⟨w.heap.size, 0, none⟩ = some a ∧ (w.alloc (.cells #[a, b] T)).cell? ⟨w.heap.size, 1, none⟩ = some b := by
  constructor <;> (unfold World.cell?; rw [heap_alloc_new]; rfl)
theorem OwnInts.empty1 (w : World) (o : Obj) (base : Nat) (k : IntKind) (e : TypeId) (hb : base ≤ w.heap.size) : OwnInts ((w.alloc o).alloc (.cells #[] e)) base k e (.slice (some ⟨w.heap.size + 1, 0, none⟩) 0 0) [] := by
  have := OwnInts.empty (w.alloc o) base k e (by simp; omega)
  rwa [World.size_alloc] at this
set_option maxHeartbeats 1600000 in
set_option maxRecDepth 20000 in
theorem eholds_calls (is : List Int) (val : List UInt8) (bs : List (List UInt8)) (A1 A2 A3 : Option Addr) (c1 c2 c3 : Nat) (R : Nat → Prop) (w : World) (hi : IntsAt w .i64 A1 is) (hA2 : A2 = none → c2 = 0) (hv : BytesIn R w A2 val) (hb : RowsIn R w A3 bs) (hl : is.length ≤ 1073741824) (hvl : val.length ≤ 1073741824) :
    Calls Try.prog 39 #[.agg #[.slice A1 is.length c1, .slice A2 val.length c2], .slice A3 bs.length c3] w fun e w' => e = .returned (.bool (holdsE is val bs)) ∧ Keeps NoB w w' := by
  have hbl := hb.len
  have HI := hid hi
  have HV := hid hv
  have HB := hid hb.lt
  have HA2 := hid hA2
  have hu := Try.underlying25
  have HNO := hid (fun k (hk : k < is.length) (h : okB val.length bs (gi is k) = false) => holdsE_no (val := val) (bs := bs) hk h)
  have HT := hid (take_gi2 is)
  clear hi hv hb hA2
  obtain ⟨n, hn⟩ : ∃ n, is.length = n := ⟨_, rfl⟩
  obtain ⟨m, hm⟩ : ∃ m, val.length = m := ⟨_, rfl⟩
  obtain ⟨q, hq⟩ : ∃ q, bs.length = q := ⟨_, rfl⟩
  rw [hn] at hl ⊢
  rw [hm] at hvl ⊢
  rw [hq] at hbl ⊢
  have hnn := hid hn
  have hmm := hid hm
  have hqq := hid hq
  clear hn hm hq
  go_enter Try.func39, Try.ntmps39
  go_wp2_with (at_builtin; go_must (refine wpList_appInts _ rfl _ _ 25 rfl w.heap.size 5 .u8 1 hu info_u8 _ [] rfl (OwnInts.empty1 w _ w.heap.size _ _ (Nat.le_refl _)) A2 c2 (enc8 val) (by rw [enc8_length, hmm.out]; rfl) HA2.out (HV.out.1.kept (((Keeps.refl NoB w).alloc _).alloc _)) (by rw [enc8_length, hmm.out]; show (0 + m) * 1 ≤ _; omega) (by rw [enc8_length, hmm.out]; show 0 + m ≤ _; omega) (by simp only [World.size_alloc]; omega) ?_); intro v1 w1 hown1 hgr1; have hbx1 : w1.cell? ⟨w.heap.size, 0, none⟩ = some (.slice A1 n c1) := (Keeps.ofGrown hgr1).cell (((Keeps.refl NoB (w.alloc _)).alloc _).cell (box_two w _ _ _).1 (fun h => h)) (fun e => by have e2 : some w.heap.size = some (w.heap.size + 1) := e; simp at e2))
  have HO := hid (show OwnB w1 w.heap.size v1 val from hown1)
  have HK := hid (((Keeps.refl NoB w).alloc (.cells #[.slice A1 n c1, .slice A2 m c2] 75) |>.alloc (.cells #[] 5)).own (OwnInts.empty1 w _ w.heap.size .u8 5 (Nat.le_refl _)) hgr1 (Nat.le_refl _))
  obtain ⟨Ax, cx, rfl, _⟩ := HO.out.reads
  rw [hmm.out] at HO ⊢
  go_loopw [15] (fun v15 wr => ∃ k : Nat, k ≤ n ∧ v15 = .int .i64 (k : Int) ∧ Hid (OwnB wr w.heap.size (.slice Ax m cx) (xorAll val (selB bs (is.take k)))) ∧ Hid ((is.take k).all (okB val.length bs) = true) ∧ Hid (Keeps NoB w wr)) (fun v15 _ => n - (intOf v15).toNat)
  case atStart => exact ⟨0, Nat.zero_le _, rfl, HO, hid rfl, HK⟩
  case round =>
    obtain ⟨k, hk, rfl, HO, HALL, HK⟩ := hrel
    by_cases hlt : k < n
    · obtain ⟨b1, o1, rfl, hc1⟩ := HI.out.get (by rw [hnn.out]; omega)
      have c1 := HK.out.cell (hc1 k (by rw [hnn.out]; exact hlt)) (fun h => h)
      have p0 : (0 : Int) ≤ (k : Int) := by omega
      have p1 : (k : Int) < (n : Int) := by omega
      have hno := hid (HNO.out k (by rw [hnn.out]; exact hlt))
      have ht := hid (HT.out k (by rw [hnn.out]; exact hlt))
      clear hc1
      generalize gi is k = i at *
      by_cases h0 : i < 0
      · have d0 : decide (i < 0) = true := decide_eq_true h0
        have hr := hid (hno.out (by unfold okB; rw [decide_eq_false (show ¬ (0 : Int) ≤ i by omega)]; rfl))
        go_wp2_with fail
        go_ret
        rw [hr.out]
        exact ⟨rfl, HK.out⟩
      · have d0 : decide (i < 0) = false := decide_eq_false h0
        by_cases h1 : i < (q : Int)
        · have d1 : decide ((q : Int) ≤ i) = false := decide_eq_false (by omega)
          obtain ⟨bb, ob, rfl, hbR, hc⟩ := HB.out.2 (by rw [hqq.out]; omega)
          obtain ⟨u, cu, A4, c4, rfl, hc4, hA4, hrow⟩ := hc i.toNat (by rw [hqq.out]; omega)
          have cu := HK.out.cell cu (fun h => h)
          have HROW := hid (show RowIn _ wr _ _ from RowIn.keeps ⟨A4, c4, rfl, hc4, hA4, hrow⟩ HK.out (fun _ _ h => h))
          have p2 : (0 : Int) ≤ i := by omega
          clear hc hc4 hA4 hrow hbR
          obtain ⟨l, hl2⟩ : ∃ l, gr bs i.toNat = l := ⟨_, rfl⟩
          rw [hl2] at cu HROW
          have hl3 := hid hl2
          have hxl := xorAll_length val (selB bs (is.take k)) (allOk_fit HALL.out)
          have HXL := hid hxl
          clear hxl hl2
          by_cases h2 : l.length = m
          · have hfit := hid (show fitB (xorAll val (selB bs (is.take k))).length [l] = true by rw [HXL.out, hmm.out]; simp [fitB, h2])
            have hok := hid (show okB val.length bs i = true by
              unfold okB
              rw [decide_eq_true p2, hqq.out, decide_eq_true h1, hl3.out, hmm.out, decide_eq_true h2]; rfl)
            clear h2
            go_wp2_with fail
            refine (xors_yes _ [l] w.heap.size _ _ 1 _ _ (OwnInts.alloc HO.out _) (bytes_one _ wr HROW.out (fun b hb => Nat.lt_of_lt_of_le hb.2 HK.out.size)) hfit.out (fun b hb h => by
              have h9 := (OwnInts.base_le (OwnInts.alloc HO.out (.cells #[.slice A4 l.length c4] 25)) b hb)
              have h8 := (OwnInts.base_le HO.out b hb)
              rcases h with h | h
              · have := h.2; omega
              · omega)).mono ?_
            rintro e w5 ⟨rfl, hO5, HK5⟩
            have HO5 := hid hO5
            have HK6 := hid (show Keeps NoB w w5 from (HK.out.alloc _).then HK5 (fun b hb h => by have := (OwnInts.base_le HO.out b hb).1; omega))
            have hst := hid (show xorAll val (selB bs (is.take (k + 1))) = xorAll (xorAll val (selB bs (is.take k))) [l] by
              rw [ht.out, selB_snoc, xorAll_snoc, hl3.out]; rfl)
            have hall := hid (show (is.take (k + 1)).all (okB val.length bs) = true by rw [ht.out, List.all_append, HALL.out]; simp [hok.out])
            go_wp2_with fail
            go_roundw
            case rel => exact ⟨k + 1, by omega, by go_num, hid (by rw [hst.out]; exact HO5.out), hall, HK6⟩
            case measure => simp [intOf]; omega
          · have hfit := hid (show fitB m [l] = false by simp [fitB, h2])
            have hr := hid (hno.out (by
              unfold okB
              rw [hl3.out, hmm.out, decide_eq_false h2, Bool.and_false]))
            clear h2
            go_wp2_with fail
            refine (xors_no (xorAll val (selB bs (is.take k))) [l] m _ _ _ 1 _ _ (bytes_one _ wr HROW.out (fun b hb => Nat.lt_of_lt_of_le hb.2 HK.out.size)) hfit.out).mono ?_
            rintro e w5 ⟨rfl, rfl⟩
            go_wp2_with fail
            go_ret
            rw [hr.out]
            exact ⟨rfl, HK.out.alloc _⟩
        · have d1 : decide ((q : Int) ≤ i) = true := decide_eq_true (by omega)
          have hr := hid (hno.out (by unfold okB; rw [hqq.out, decide_eq_false h1, Bool.and_false, Bool.false_and]))
          go_wp2_with fail
          go_ret
          rw [hr.out]
          exact ⟨rfl, HK.out⟩
    · obtain rfl : k = n := by omega
      have hfl := xorAll_length val (selB bs (is.take k)) (allOk_fit HALL.out)
      have hfin := hid (show holdsE is val bs = zeroB (xorAll val (selB bs (is.take k))) by
        have e : is.take k = is := by rw [← hnn.out, List.take_length]
        have h9 := HALL.out
        rw [e] at h9 ⊢
        unfold holdsE; rw [h9, Bool.true_and])
      have HBX := hid (OwnB.bytes HO.out)
      have HZ := hid (zero_calls (xorAll val (selB bs (is.take k))) Ax cx _ wr HBX.out)
      rw [hfl, hmm.out] at HZ
      go_wp2_with fail
      refine HZ.out.mono ?_
      rintro e w5 ⟨rfl, rfl⟩
      go_wp2_with fail
      go_ret
      rw [hfin.out]
      exact ⟨rfl, HK.out⟩
end Go.Proofs.Ytpkkaicpbihjfaa
/- The library's iterator over a list of numbers, and the list that is collected of it, sorted. Conditions: the list is read below the call's own memory; its length is small. -/
set_option linter.unusedVariables false
namespace Go.Proofs.Ytpkkaicpbihjfaa
open Go.RowKit Go.Shelf

attribute [local go_sem] Oper.semAt_some

/-- What has come when k rounds are over. -/
def uptoI (f : Nat → Int) (k : Nat) : List Int := (List.range k).map f
theorem uptoI_succ (f : Nat → Int) (k : Nat) : uptoI f (k + 1) = uptoI f k ++ [f k] := by simp [uptoI, List.range_succ]
theorem uptoI_length (f : Nat → Int) (k : Nat) : (uptoI f k).length = k := by simp [uptoI]
theorem uptoI_all (zs : List Int) : uptoI (fun j => zs[j]?.getD 0) zs.length = zs := by
  apply List.ext_getElem
  · simp [uptoI]
  · intro i h1 h2; simp [uptoI, h2]
theorem uptoI_take (zs : List Int) {k : Nat} (hk : k ≤ zs.length) : uptoI (fun j => zs[j]?.getD 0) k = zs.take k := by
  apply List.ext_getElem
  · simp [uptoI, hk]
  · intro i h1 h2
    have : i < zs.length := by simp [uptoI] at h1; omega
    simp [uptoI, this]
/-- A slice value that is read below some block. -/
def SlB (n₀ : Nat) (W : World) (sv : Value) (zs : List Int) : Prop := ∃ A c, sv = .slice A zs.length c ∧ (zs = [] ∨ ∃ b off, A = some ⟨b, off, none⟩ ∧ b < n₀ ∧ ∀ j, j < zs.length → W.cell? ⟨b, off + j, none⟩ = some (.int .i64 (zs[j]?.getD 0)))
theorem SlB.below {n₀ : Nat} {A B : World} (h : Below n₀ A B) {sv : Value} {zs : List Int} (k : SlB n₀ A sv zs) : SlB n₀ B sv zs := by
  obtain ⟨A', c, e, h1⟩ := k
  refine ⟨A', c, e, ?_⟩
  rcases h1 with e1 | ⟨b, off, e2, hb, hc⟩
  · exact .inl e1
  · exact .inr ⟨b, off, e2, hb, fun j hj => (h.cell (p := ⟨b, off + j, none⟩) hb).trans (hc j hj)⟩
theorem SlB.of {w : World} {A : Option Addr} {c : Nat} {zs : List Int} (h : IntsAt w .i64 A zs) : SlB w.heap.size w (.slice A zs.length c) zs := by
  refine ⟨A, c, rfl, ?_⟩
  rcases Nat.eq_zero_or_pos zs.length with h0 | h0
  · exact .inl (List.length_eq_zero_iff.1 h0)
  · obtain ⟨b, off, e, hc⟩ := h.get h0
    refine .inr ⟨b, off, e, h.lt b off e h0, fun j hj => ?_⟩
    rw [hc j hj, gi, List.getD_eq_getElem?_getD]

set_option maxRecDepth 100000 in
set_option maxHeartbeats 2000000 in
theorem valsSome_in (F : Fence) (n : Nat) (h7 : F.fn 112) (hro : F.round = none) (hn : 1 ≤ n) (l Bs n₀ b off len cap : Nat) (zs : List Int) (hreach : len ≤ 1073741824) (hb : b < n₀) (J Jx : List Int → World → Prop)
    (hY : ∀ pre x W, J pre W → pre.length < len → YieldAt F (n - 1) Try.prog l #[.int .i64 x] W fun e W' =>
      (e = .returned (.bool true) ∧ J (pre ++ [x]) W' ∧ Below n₀ W W') ∨ (e = .returned (.bool false) ∧ Jx (pre ++ [x]) W'))
    (W : World) (hBs : W.cell? ⟨Bs, 0, none⟩ = some (.slice (some ⟨b, off, none⟩) len cap)) (hc : ∀ j, j < len → W.cell? ⟨b, off + j, none⟩ = some (.int .i64 (zs[j]?.getD 0))) (h0 : J [] W) :
    CallsIn F n Try.prog 112 #[.func (.yield l) #[] #[], .pointer (some ⟨Bs, 0, none⟩)] W fun e W' => (∃ v, e = .returned v) ∧
      ((∃ ys, ys = uptoI (fun j => zs[j]?.getD 0) len ∧ J ys W') ∨ (∃ pre, (∃ k, k ≤ len ∧ pre = uptoI (fun j => zs[j]?.getD 0) k) ∧ Jx pre W')) := by
  refine callsIn_of_wp Try.func112 rfl h7 ?_ hro
  simp only [Try.ntmps112, List.size_toArray, List.length_cons, List.length_nil, Nat.reduceAdd, Nat.reduceSub, Array.replicate_succ, Array.replicate_zero, List.push_toArray, List.append_toArray, List.nil_append, List.cons_append]
  gi_wp2
  gi_loopw [7] (fun i wr => ∃ k : Nat, k ≤ len ∧ i = .int .i64 k ∧ J (uptoI (fun j => zs[j]?.getD 0) k) wr ∧ Below n₀ W wr)
    (fun i _ => len - (intOf i).toNat)
  case atStart => exact ⟨0, Nat.zero_le _, rfl, h0, Below.refl _ _⟩
  case round =>
    obtain ⟨k, hk, rfl, hJs, hnx⟩ := hrel
    have hcx : k < len → wr.cell? ⟨b, off + k, none⟩ = some (.int .i64 (zs[k]?.getD 0)) := fun h => (hnx.cell (p := ⟨b, off + k, none⟩) hb).trans (hc k h)
    by_cases hlt : k < len
    · obtain ⟨fn, tmps, assign, body, hy, hR⟩ := hY _ (zs[k]?.getD 0) wr hJs (by rw [uptoI_length]; exact hlt)
      have hcx' := hcx hlt
      gi_wp2
      refine hR.mono ?_
      rintro e W3 (⟨rfl, hJ3, hk3⟩ | ⟨rfl, hJx3⟩)
      · gi_wp2
        go_roundw
        case rel => exact ⟨k + 1, by omega, by simp, by rw [uptoI_succ]; exact hJ3, hnx.trans hk3⟩
        case measure => simp [intOf]; omega
      · gi_wp2
        refine bodyPost_ret (results_none rfl _ _ _) rfl ?_
        exact ⟨⟨_, rfl⟩, .inr ⟨_, ⟨k + 1, by omega, (uptoI_succ _ _).symm⟩, hJx3⟩⟩
    · obtain rfl : k = len := by omega
      gi_wp2
      go_end0
      exact ⟨⟨_, rfl⟩, .inl ⟨_, rfl, hJs⟩⟩
set_option maxRecDepth 100000 in
set_option maxHeartbeats 1000000 in
theorem valsNone_in (F : Fence) (n : Nat) (h7 : F.fn 112) (hro : F.round = none) (l Bs : Nat) (A : Option Addr) (c : Nat) (J : List Int → World → Prop) (W : World) (hBs : W.cell? ⟨Bs, 0, none⟩ = some (.slice A 0 c)) (h0 : J [] W) :
    CallsIn F n Try.prog 112 #[.func (.yield l) #[] #[], .pointer (some ⟨Bs, 0, none⟩)] W fun e W' => (∃ v, e = .returned v) ∧ J [] W' := by
  refine callsIn_of_wp Try.func112 rfl h7 ?_ hro
  simp only [Try.ntmps112, List.size_toArray, List.length_cons, List.length_nil, Nat.reduceAdd, Nat.reduceSub, Array.replicate_succ, Array.replicate_zero, List.push_toArray, List.append_toArray, List.nil_append, List.cons_append]
  gi_wp2
  gi_loopw [7] (fun i wr => i = .int .i64 0 ∧ J [] wr) (fun _ _ => 0)
  case atStart => exact ⟨rfl, h0⟩
  case round =>
    obtain ⟨rfl, hJs⟩ := hrel
    gi_wp2
    go_end0
    exact ⟨⟨_, rfl⟩, hJs⟩
set_option maxHeartbeats 1000000 in
theorem vals_in (F : Fence) (n : Nat) (h5 : F.fn 98) (hro : F.round = none) (a : Option Addr) (len cap : Nat) (w : World) :
    CallsIn F n Try.prog 98 #[.slice a len cap] w fun e w' => e = .returned (.func (.func 112) #[] #[.pointer (some ⟨w.heap.size, 0, none⟩)]) ∧ w' = w.alloc (.cells #[.slice a len cap] 62) := by
  refine callsIn_of_wp Try.func98 rfl h5 ?_ hro
  simp only [Try.ntmps98, List.size_toArray, List.length_cons, List.length_nil, Nat.reduceAdd, Nat.reduceSub, Array.replicate_succ, Array.replicate_zero, List.push_toArray, List.append_toArray, List.nil_append, List.cons_append]
  gi_wp2
  go_ret
  exact ⟨rfl, rfl⟩
theorem vals_stops (F : Fence) (n : Nat) (h7 : F.fn 112) (hro : F.round = none) (hn : 1 ≤ n) (Bs n₀ : Nat) (sv : Value) (zs : List Int) (hreach : zs.length ≤ 1073741824) (w : World) (hBs : Bs < w.heap.size) (hn₀ : n₀ ≤ w.heap.size)
    (hc : w.cell? ⟨Bs, 0, none⟩ = some sv) (hI : SlB n₀ w sv zs) :
    SeqStopsK F n Try.prog 112 #[.pointer (some ⟨Bs, 0, none⟩)] (fun x : Int => #[Value.int .i64 x]) (Below n₀) (fun ys => ys = zs) (fun pre => pre <+: zs) zs.length w := fun l J Jx W hW _ _ hY h0 => by
  have hc' := (hW.cell (p := ⟨Bs, 0, none⟩) hBs).trans hc
  obtain ⟨A, c, rfl, hz⟩ := hI.below (hW.mono hn₀)
  rcases hz with rfl | ⟨b, off, rfl, hb, hcs⟩
  · exact (valsNone_in F n h7 hro l Bs A c J W hc' h0).mono fun e W' ⟨he, hj⟩ => ⟨he, .inl ⟨_, rfl, hj⟩⟩
  · refine (valsSome_in F n h7 hro hn l Bs n₀ b off zs.length c zs hreach hb J Jx hY W hc' hcs h0).mono ?_
    rintro e W' ⟨he, ⟨ys, rfl, hj⟩ | ⟨pre, ⟨k, hk, rfl⟩, hj⟩⟩
    · exact ⟨he, .inl ⟨_, uptoI_all zs, hj⟩⟩
    · exact ⟨he, .inr ⟨_, by rw [uptoI_take zs hk]; exact List.take_prefix _ _, hj⟩⟩

set_option maxRecDepth 100000 in
set_option maxHeartbeats 2000000 in
/-- slices.AppendSeq(nil, the iterator): a list of the call's own. -/
theorem appendSeq_in (F : Fence) (n : Nat) (h11 : F.fn 127) (h7 : F.fn 112) (hro : F.round = none) (hn : 3 ≤ n) (Bs n₀ : Nat) (sv : Value) (zs : List Int) (hreach : zs.length ≤ 1073741824) (w : World) (hBs : Bs < w.heap.size) (hn₀ : n₀ ≤ w.heap.size)
    (hc : w.cell? ⟨Bs, 0, none⟩ = some sv) (hI : SlB n₀ w sv zs) :
    CallsIn F n Try.prog 127 #[.slice none 0 0, .func (.func 112) #[] #[.pointer (some ⟨Bs, 0, none⟩)]] w fun e w' => ∃ v, e = .returned v ∧ w'.ownsRow w.heap.size 3 1 v zs.length (zs.map (Value.int .i64)) ∧ Below w.heap.size w w' := by
  have h1 : 1 ≤ n := by omega
  obtain ⟨i0, hi, hz0, hz1, hz2⟩ := info_parts info_int
  have hun := Try.underlying62
  refine callsIn_of_wp_marks Try.func127 rfl h11 ?_ hro
  simp only [Try.ntmps127, List.size_toArray, List.length_cons, List.length_nil, Nat.reduceAdd, Nat.reduceSub, Array.replicate_succ, Array.replicate_zero, List.push_toArray, List.append_toArray, List.nil_append, List.cons_append]
  gi_wp2
  have bS := Boxed.new w 62 (.slice none 0 0)
  have hB0 : Below w.heap.size w (w.alloc (.cells #[.slice none 0 0] 62)) := (Below.refl _ w).alloc (Nat.le_refl _) _
  refine wpIn_rangeFunc_ownG hro h1 (gf := 112) (lb := #[.pointer (some ⟨Bs, 0, none⟩)]) rfl h7 (enters_of Try.func112 (by kernel_rfl) rfl)
    (vals_stops F (n - 1) h7 hro (by omega) Bs n₀ _ zs hreach w hBs hn₀ hc hI) belowK_t (belowK_b (by simp; omega)) hB0 (fun _ => rfl)
    (fun pre W => (∃ v, Boxed W w.heap.size 62 v ∧ W.ownsRow w.heap.size 3 1 v pre.length (pre.map (Value.int .i64)) ∧ True) ∧ Below w.heap.size w W)
    (fun _ _ _ => False)
    (OwnFrom.and (Own.from (holdsRow_own w.heap.size w.heap.size 62 3 1 (fun pre : List Int => pre.length) (fun pre : List Int => pre.map (Value.int .i64)) (fun _ _ => True)) _) (ownFrom_below (Nat.le_refl _) (by simp)))
    (fun _ _ _ _ _ hs _ _ => hs)
    ⟨⟨_, bS, World.ownsRow_nil _ _ _ _, trivial⟩, hB0⟩
    (fun x => { tmps := #[.slice none 0 0, .func (.func 112) #[] #[.pointer (some ⟨Bs, 0, none⟩)], .pointer (some ⟨w.heap.size, 0, none⟩), undef, .slice none 0 0, .int .i64 x, .func (.func 112) #[] #[.pointer (some ⟨Bs, 0, none⟩)], .int .i64 x, undef, undef, undef, undef, undef], defers := [] }) ?assign ?body ?done ?stop
  case assign =>
    intro l x W K hK
    gi_wp2
    exact hK
  case body =>
    rintro l pre x W ⟨⟨v, hv, hrow, _⟩, hB⟩ hlen
    have hvc := hv.cell
    have hle : w.heap.size ≤ W.heap.size := hB.size
    gi_wp2_with (gi_at_builtin; refine wpListIn_append_own _ rfl _ _ 62 rfl w.heap.size 3 i0 (.int .i64 0) 1 8 hun hi hz0 hz1 hz2 rfl (by decide) _ _ _ rfl (hrow.alloc _) ⟨W.heap.size, 0, none⟩ 1 1 [Value.int .i64 x] rfl rfl (cell_one_new _ _ _) (by simp [Value.oneCell']) (by unfold maxLen; omega) (by omega) (by have := hB.size; simp; omega) ?_; intro v' w1 hown' hgrow _; obtain ⟨g', cap', rfl⟩ := ownsRow_succ hown'; obtain ⟨hv1, hv2, hr2, hk2, hb2⟩ := hv.appended (by decide) hrow hB.size (Nat.le_refl _) hown' hgrow; have hc1 := hv1.cell; have hf1 := hv1.frozen)
    exact ⟨hk2.from _, hb2.mono hn₀, ⟨_, hv2, by simpa using hr2, trivial⟩, hB.trans hb2⟩
  case done =>
    rintro D ys W hD rfl ⟨⟨v, hv, hrow, _⟩, hB⟩ hK
    have hvc := hv.cell
    gi_wp2
    refine ⟨by simp, .inl ⟨_, _, rfl, run_takeDeferred hK, ?_⟩⟩
    exact ⟨_, results_tmp rfl _ _ _, v, rfl, ownsRow_putObj hrow _ hK rfl, hB.trans (belowK_b (w := w) (Nat.le_refl _) W D _ _ (by simp at hD; omega) hK rfl rfl)⟩
  case stop =>
    rintro D c pre W _ _ h _
    exact h.elim
set_option maxHeartbeats 1000000 in
theorem collect_in (F : Fence) (n : Nat) (h8 : F.fn 111) (h11 : F.fn 127) (h7 : F.fn 112) (hro : F.round = none) (hn : 4 ≤ n) (Bs n₀ : Nat) (sv : Value) (zs : List Int) (hreach : zs.length ≤ 1073741824) (w : World) (hBs : Bs < w.heap.size) (hn₀ : n₀ ≤ w.heap.size)
    (hc : w.cell? ⟨Bs, 0, none⟩ = some sv) (hI : SlB n₀ w sv zs) :
    CallsIn F n Try.prog 111 #[.func (.func 112) #[] #[.pointer (some ⟨Bs, 0, none⟩)]] w fun e w' => ∃ v, e = .returned v ∧ w'.ownsRow w.heap.size 3 1 v zs.length (zs.map (Value.int .i64)) ∧ Below w.heap.size w w' := by
  have h1 : 1 ≤ n := by omega
  refine callsIn_of_wp Try.func111 rfl h8 ?_ hro
  simp only [Try.ntmps111, List.size_toArray, List.length_cons, List.length_nil, Nat.reduceAdd, Nat.reduceSub, Array.replicate_succ, Array.replicate_zero, List.push_toArray, List.append_toArray, List.nil_append, List.cons_append]
  gi_wp2_with (gi_at_call 127; refine (appendSeq_in F (n - 1) h11 h7 hro (by omega) Bs n₀ sv zs hreach _ hBs hn₀ hc hI).mono ?_; rintro e w' ⟨v, rfl, hrow, hb⟩)
  go_ret
  exact ⟨v, rfl, hrow, hb⟩
/-- slices.Sorted(slices.Values(xs)): a sorted list of the call's own. -/
theorem collect_calls (Bs n₀ : Nat) (sv : Value) (zs : List Int) (hreach : zs.length ≤ 1073741824) (w : World) (hBs : Bs < w.heap.size) (hn₀ : n₀ ≤ w.heap.size)
    (hc : w.cell? ⟨Bs, 0, none⟩ = some sv) (hI : SlB n₀ w sv zs) :
    Calls Try.prog 111 #[.func (.func 112) #[] #[.pointer (some ⟨Bs, 0, none⟩)]] w fun e w' => ∃ v, e = .returned v ∧ OwnInts w' w.heap.size .i64 3 v zs ∧ Keeps NoB w w' := by
  refine (callsIn_wide.1 (collect_in Fence.wide 4 trivial trivial trivial rfl (Nat.le_refl _) Bs n₀ sv zs hreach w hBs hn₀ hc hI)).mono ?_
  rintro e w' ⟨v, rfl, hrow, hb⟩
  exact ⟨v, rfl, hrow, Keeps.ofBelow hb⟩
theorem vals_calls (a : Option Addr) (len cap : Nat) (w : World) :
    Calls Try.prog 98 #[.slice a len cap] w fun e w' => e = .returned (.func (.func 112) #[] #[.pointer (some ⟨w.heap.size, 0, none⟩)]) ∧ w' = w.alloc (.cells #[.slice a len cap] 62) :=
  callsIn_wide.1 (vals_in Fence.wide 4 trivial rfl a len cap w)
set_option maxHeartbeats 400000 in
theorem sorted_calls (Bs n₀ : Nat) (sv : Value) (zs : List Int) (hreach : zs.length ≤ 1073741824) (w : World) (hBs : Bs < w.heap.size) (hn₀ : n₀ ≤ w.heap.size)
    (hc : w.cell? ⟨Bs, 0, none⟩ = some sv) (hI : SlB n₀ w sv zs) :
    Calls Try.prog 97 #[.func (.func 112) #[] #[.pointer (some ⟨Bs, 0, none⟩)]] w fun e w' => ∃ v, e = .returned v ∧ OwnInts w' w.heap.size .i64 3 v (srtM zs) ∧ Keeps NoB w w' := by
  go_enter Try.func97, Try.ntmps97
  go_wp2_with fail
  refine (collect_calls Bs n₀ sv zs hreach w hBs hn₀ hc hI).mono ?_
  rintro e w1 ⟨v, rfl, hown, HK⟩
  go_wp2_with fail
  refine (sort_calls v zs w.heap.size w1 hown hreach).mono ?_
  rintro e w2 ⟨rfl, hown2, hg⟩
  go_wp2_with fail
  go_ret
  exact ⟨v, rfl, hown2, HK.own hown hg (Nat.le_refl _)⟩
end Go.Proofs.Ytpkkaicpbihjfaa
/- The numbers that are there an odd number of times, rising: plain laws. No condition. -/
set_option linter.unusedVariables false
namespace Go.Proofs.Ytpkkaicpbihjfaa

/-- A number is put into rising ones, or taken out. -/
def tog (x : Int) : List Int → List Int
  | [] => [x]
  | y :: r => if x < y then x :: y :: r else if x = y then r else y :: tog x r
def oddN (l : List Int) : List Int := l.foldr tog []
theorem oddN_cons (x : Int) (l : List Int) : oddN (x :: l) = tog x (oddN l) := rfl
theorem mem_tog (x z : Int) (r : List Int) (h : r.Pairwise (· < ·)) : z ∈ tog x r ↔ ((z ∈ r ∧ z ≠ x) ∨ (z ∉ r ∧ z = x)) := by
  induction r with
  | nil => simp [tog]
  | cons y r ih =>
    have h' := List.pairwise_cons.1 h
    have ih := ih h'.2
    unfold tog
    split
    · rename_i hxy
      have hn : x ∉ y :: r := by
        intro hm
        rcases List.mem_cons.1 hm with e | hm
        · omega
        · have := h'.1 x hm; omega
      rw [List.mem_cons]
      constructor
      · rintro (e | hm)
        · exact .inr ⟨by rw [e]; exact hn, e⟩
        · exact .inl ⟨hm, fun e => hn (by rw [← e]; exact hm)⟩
      · rintro (⟨hm, _⟩ | ⟨_, e⟩)
        · exact .inr hm
        · exact .inl e
    · split
      · rename_i h1 h2
        subst h2
        have hn : x ∉ r := fun hm => by have := h'.1 x hm; omega
        rw [List.mem_cons]
        constructor
        · intro hm; exact .inl ⟨.inr hm, fun e => hn (by rw [← e]; exact hm)⟩
        · rintro (⟨e | hm, hne⟩ | ⟨hn2, e⟩)
          · exact absurd e hne
          · exact hm
          · exact absurd (.inl e) hn2
      · rename_i h1 h2
        rw [List.mem_cons, ih, List.mem_cons]
        constructor
        · rintro (e | ⟨hm, hne⟩ | ⟨hm, e⟩)
          · exact .inl ⟨.inl e, by omega⟩
          · exact .inl ⟨.inr hm, hne⟩
          · exact .inr ⟨by rintro (e2 | hm2); omega; exact hm hm2, e⟩
        · rintro (⟨e | hm, hne⟩ | ⟨hn2, e⟩)
          · exact .inl e
          · exact .inr (.inl ⟨hm, hne⟩)
          · exact .inr (.inr ⟨fun hm => hn2 (.inr hm), e⟩)
theorem tog_rising (x : Int) (r : List Int) (h : r.Pairwise (· < ·)) : (tog x r).Pairwise (· < ·) := by
  induction r with
  | nil => simp [tog]
  | cons y r ih =>
    have h' := List.pairwise_cons.1 h
    unfold tog
    split
    · rename_i hxy
      refine List.pairwise_cons.2 ⟨fun z hz => ?_, h⟩
      rcases List.mem_cons.1 hz with e | hm
      · omega
      · have := h'.1 z hm; omega
    · split
      · exact h'.2
      · rename_i h1 h2
        refine List.pairwise_cons.2 ⟨fun z hz => ?_, ih h'.2⟩
        rcases (mem_tog x z r h'.2).1 hz with ⟨hm, _⟩ | ⟨_, e⟩
        · exact h'.1 z hm
        · omega
theorem oddN_rising (l : List Int) : (oddN l).Pairwise (· < ·) := by
  induction l with
  | nil => exact List.Pairwise.nil
  | cons x l ih => exact tog_rising x _ ih
theorem mem_oddN (l : List Int) (z : Int) : z ∈ oddN l ↔ l.count z % 2 = 1 := by
  induction l with
  | nil => simp [oddN]
  | cons x l ih =>
    rw [oddN_cons, mem_tog x z _ (oddN_rising l), ih, List.count_cons]
    by_cases e : z = x
    · subst e; simp; omega
    · simp [e, show ¬ x = z from fun h => e h.symm]
theorem nodup_of_rising {l : List Int} (h : l.Pairwise (· < ·)) : l.Nodup := h.imp (fun h => by omega)
theorem rise_ext {l m : List Int} (hl : l.Pairwise (· < ·)) (hm : m.Pairwise (· < ·)) (h : ∀ x, x ∈ l ↔ x ∈ m) : l = m :=
  sorted_unique l m ((List.perm_ext_iff_of_nodup (nodup_of_rising hl) (nodup_of_rising hm)).2 h) (hl.imp (fun h => by omega)) (hm.imp (fun h => by omega))
theorem oddN_eq {l m : List Int} (hm : m.Pairwise (· < ·)) (h : ∀ x, x ∈ m ↔ l.count x % 2 = 1) : oddN l = m := rise_ext (oddN_rising l) hm (fun x => by rw [mem_oddN, h])
theorem oddN_count {l m : List Int} (h : ∀ x, l.count x % 2 = m.count x % 2) : oddN l = oddN m := oddN_eq (oddN_rising m) (fun x => by rw [mem_oddN, h])
theorem oddN_perm {l m : List Int} (h : l.Perm m) : oddN l = oddN m := oddN_count (fun x => by rw [h.count_eq])
theorem oddN_of_rising {l : List Int} (h : l.Pairwise (· < ·)) : oddN l = l := oddN_eq h (fun x => by
  have h1 : l.count x ≤ 1 := List.nodup_iff_count.1 (nodup_of_rising h) x
  constructor
  · intro hm; have := List.count_pos_iff.2 hm; omega
  · intro hm; exact List.count_pos_iff.1 (by omega))
theorem oddN_sub {l : List Int} {x : Int} (h : x ∈ oddN l) : x ∈ l := by
  have := (mem_oddN l x).1 h
  exact List.count_pos_iff.1 (by omega)
theorem oddN_length (l : List Int) : (oddN l).length ≤ l.length := by
  induction l with
  | nil => simp [oddN]
  | cons x l ih =>
    have : ∀ r : List Int, (tog x r).length ≤ r.length + 1 := fun r => by
      induction r with
      | nil => simp [tog]
      | cons y r ih => 
        unfold tog
        split
        · simp
        · split
          · simp; omega
          · simp; exact ih
    rw [oddN_cons, List.length_cons]
    exact Nat.le_trans (this _) (by omega)
/-- A run of one number behind lesser ones. -/
theorem oddN_run (l : List Int) (x : Int) (m : Nat) (h : ∀ a ∈ l, a < x) : oddN (l ++ List.replicate m x) = oddN l ++ (if m % 2 = 1 then [x] else []) := by
  have hx : ∀ a ∈ oddN l, a < x := fun a ha => h a (oddN_sub ha)
  refine oddN_eq ?_ (fun z => ?_)
  · refine List.pairwise_append.2 ⟨oddN_rising l, ?_, fun a ha b hb => ?_⟩
    · split <;> simp
    · split at hb
      · obtain rfl := List.mem_singleton.1 hb; exact hx a ha
      · simp at hb
  · rw [List.mem_append, mem_oddN, List.count_append, List.count_replicate]
    by_cases e : z = x
    · subst e
      have h0 : l.count z = 0 := List.count_eq_zero.2 (fun hm => by have := h z hm; omega)
      have h1 : z ∉ oddN l := fun hm => by have := hx z hm; omega
      rw [h0]
      by_cases hm2 : m % 2 = 1 <;> simp [hm2]
    · have : z ∉ (if m % 2 = 1 then [x] else []) := by split <;> simp [e]
      simp [this, show ¬ x = z from fun h => e h.symm]
theorem take_run (l : List Int) (i k : Nat) (hik : i ≤ k) (hk : k ≤ l.length) (x : Int) (h : ∀ j, i ≤ j → j < k → gi l j = x) : l.take k = l.take i ++ List.replicate (k - i) x := by
  have e1 : l.take k = l.take i ++ (l.take k).drop i := by
    have := (List.take_append_drop i (l.take k)).symm
    rwa [List.take_take, Nat.min_eq_left hik] at this
  rw [e1]
  congr 1
  apply List.ext_getElem
  · simp; omega
  · intro j h1 h2
    have hj : i + j < k := by simp at h1; omega
    have := h (i + j) (by omega) hj
    rw [gi_eq l (i + j) (by omega)] at this
    simp [this]
theorem sorted_gi {l : List Int} (h : l.Pairwise (· ≤ ·)) {a b : Nat} (hab : a < b) (hb : b < l.length) : gi l a ≤ gi l b := by
  rw [gi_eq l a (by omega), gi_eq l b hb]
  exact List.pairwise_iff_getElem.1 h a b (by omega) hb hab
theorem rising_gi {l : List Int} (h : l.Pairwise (· < ·)) {a b : Nat} (hab : a < b) (hb : b < l.length) : gi l a < gi l b := by
  rw [gi_eq l a (by omega), gi_eq l b hb]
  exact List.pairwise_iff_getElem.1 h a b (by omega) hb hab
/-- Up to a place all lie below what stands there. -/
def Bnd (l : List Int) (i : Nat) : Prop := i < l.length → ∀ a ∈ l.take i, a < gi l i
theorem bnd_zero (l : List Int) : Bnd l 0 := fun _ a ha => by simp at ha
/-- A run is over: what is odd till there. -/
theorem odd_step {l : List Int} (hs : l.Pairwise (· ≤ ·)) {i k : Nat} (hb : Bnd l i) (hik : i < k) (hk : k ≤ l.length) (h : ∀ j, i ≤ j → j < k → gi l j = gi l i) (hend : k < l.length → gi l k ≠ gi l i) :
    Bnd l k ∧ oddN (l.take k) = oddN (l.take i) ++ (if (k - i) % 2 = 1 then [gi l i] else []) := by
  have e1 := take_run l i k (by omega) hk (gi l i) h
  have hb1 := hb (by omega)
  refine ⟨fun hkl a ha => ?_, by rw [e1]; exact oddN_run _ _ _ hb1⟩
  have h2 : gi l i ≤ gi l k := sorted_gi hs hik hkl
  have h3 := hend hkl
  rw [e1] at ha
  rcases List.mem_append.1 ha with ha | ha
  · have := hb1 a ha; omega
  · obtain ⟨_, rfl⟩ := List.mem_replicate.1 ha; omega
theorem oddN_srtM (l : List Int) : oddN (srtM l) = oddN l := oddN_perm (srtM_perm l)

/-- A number that comes next: there an odd number of times, above the last one. -/
def Cand (l : List Int) (m : Nat) (x : Int) : Prop := l.count x % 2 = 1 ∧ (m = 0 ∨ gi (oddN l) (m - 1) < x)
theorem cand_next {l : List Int} {m : Nat} (h : m < (oddN l).length) : Cand l m (gi (oddN l) m) ∧ gi (oddN l) m ∈ l := by
  have hm := gi_mem (oddN l) m h
  refine ⟨⟨(mem_oddN l _).1 hm, ?_⟩, oddN_sub hm⟩
  rcases Nat.eq_zero_or_pos m with h0 | h0
  · exact .inl h0
  · exact .inr (rising_gi (oddN_rising l) (by omega) h)
theorem cand_none {l : List Int} {m : Nat} (hm : m ≤ (oddN l).length) (h : ∀ j, j < l.length → ¬ Cand l m (gi l j)) : m = (oddN l).length := by
  rcases Nat.lt_or_ge m (oddN l).length with hlt | hge
  · obtain ⟨h1, h2⟩ := cand_next hlt
    obtain ⟨j, hj, e⟩ := List.getElem_of_mem h2
    exact absurd (by rw [gi_eq l j hj, e]; exact h1) (h j hj)
  · omega
theorem cand_least {l : List Int} {m : Nat} {x : Int} (hc : Cand l m x) (h : ∀ j, j < l.length → Cand l m (gi l j) → x ≤ gi l j) (hm : m ≤ (oddN l).length) : m < (oddN l).length ∧ x = gi (oddN l) m := by
  have hx : x ∈ oddN l := (mem_oddN l x).2 hc.1
  obtain ⟨q, hq, e⟩ := List.getElem_of_mem hx
  have hge : m ≤ q := by
    rcases Nat.lt_or_ge q m with h1 | h1
    · exfalso
      rcases hc.2 with h0 | h2
      · omega
      · rcases Nat.lt_or_ge q (m - 1) with h3 | h3
        · have := rising_gi (oddN_rising l) h3 (by omega)
          rw [gi_eq _ q hq, e] at this; omega
        · have h4 : m - 1 = q := by omega
          rw [h4, gi_eq _ q hq, e] at h2; omega
    · exact h1
  have hlt : m < (oddN l).length := by omega
  refine ⟨hlt, ?_⟩
  obtain ⟨h1, h2⟩ := cand_next hlt
  obtain ⟨j, hj, ej⟩ := List.getElem_of_mem h2
  have hle := h j hj (by rw [gi_eq l j hj, ej]; exact h1)
  rw [gi_eq l j hj, ej] at hle
  rcases Nat.lt_or_ge m q with h3 | h3
  · have := rising_gi (oddN_rising l) h3 hq
    rw [gi_eq _ q hq, e] at this; omega
  · have h4 : m = q := by omega
    subst h4; rw [gi_eq _ m hq, e]
end Go.Proofs.Ytpkkaicpbihjfaa
/- The numbers that are there an odd number of times: the program's walk. Condition: a length that the list's reads bear. -/
set_option linter.unusedVariables false
namespace Go.Proofs.Ytpkkaicpbihjfaa
open Go.RowKit

theorem odd_rem (i k : Nat) (h : i ≤ k) : ((((k : Int) - (i : Int)).tmod 2) = 1) ↔ (k - i) % 2 = 1 := by
  rw [show ((k : Int) - (i : Int)) = ((k - i : Nat) : Int) by omega, Int.tmod_eq_emod_of_nonneg (by omega)]
  omega
set_option maxHeartbeats 1600000 in
set_option maxRecDepth 20000 in
theorem odd_calls (xs : List Int) (A : Option Addr) (c : Nat) (w : World) (h : IntsAt w .i64 A xs) (hl : xs.length ≤ 1073741824) :
    Calls Try.prog 67 #[.slice A xs.length c] w fun e w' => ∃ v, e = .returned v ∧ OwnInts w' w.heap.size .i64 3 v (oddN xs) ∧ Keeps NoB w w' := by
  have HB := hid (SlB.of (c := c) h)
  have HE := hid (oddN_srtM xs)
  have hu := Try.underlying62
  clear h
  go_enter Try.func67, Try.ntmps67
  go_wp2_with fail
  refine (vals_calls A xs.length c _).mono ?_
  rintro e w1 ⟨rfl, rfl⟩
  go_wp2_with fail
  refine (sorted_calls w.heap.size w.heap.size _ xs hl _ (by simp) (by simp) (cell_one w _ _) (HB.out.below ((Below.refl _ w).alloc (Nat.le_refl _) _))).mono ?_
  rintro e w2 ⟨v, rfl, hown, hk⟩
  obtain ⟨Al, cl, rfl, hcl, hat⟩ := hown.reads
  have HAT := hid hat
  have HK0 := hid (show Keeps NoB w w2 from ((Keeps.refl NoB w).alloc _).fresh hk)
  have HS := hid (srtM_sorted xs)
  have hL : (srtM xs).length ≤ 1073741824 := by rw [srtM_length]; exact hl
  obtain ⟨L, hLL⟩ : ∃ L, srtM xs = L := ⟨_, rfl⟩
  rw [hLL] at HAT HE HS hL
  simp only [hLL]
  clear hown hk hat hcl hLL
  obtain ⟨n, hn⟩ : ∃ n, L.length = n := ⟨_, rfl⟩
  rw [hn] at hL
  simp only [hn]
  have hnn := hid hn
  have HN := hid (show ∀ k, (oddN (L.take k)).length ≤ n from fun k => Nat.le_trans (oddN_length _) (by rw [List.length_take]; omega))
  clear hn
  go_wp2_with fail
  go_loopw [4, 5] (fun v4 v5 wr => ∃ i : Nat, i ≤ n ∧ v5 = .int .i64 (i : Int) ∧ Hid (OwnInts wr w2.heap.size .i64 3 v4 (oddN (L.take i))) ∧ Hid (Bnd L i) ∧ Hid (Keeps NoB w2 wr)) (fun _ v5 _ => n - (intOf v5).toNat)
  case atStart => exact ⟨0, Nat.zero_le _, rfl, by simp [oddN]; exact OwnInts.nil _ _ _ _, bnd_zero L, Keeps.refl _ _⟩
  case round =>
    obtain ⟨i, hi, rfl, HO, HBN, HK⟩ := hrel
    by_cases hlt : i < n
    · obtain ⟨b, off, rfl, hc⟩ := HAT.out.get (by rw [hnn.out]; omega)
      have HC := hid hc
      clear hc
      have q0 : (0 : Int) ≤ (i : Int) := by omega
      have q1 : (i : Int) < (n : Int) := by omega
      go_wp2_with fail
      go_loopw [6] (fun v6 wr => ∃ k : Nat, i ≤ k ∧ k ≤ n ∧ v6 = .int .i64 (k : Int) ∧ Hid (OwnInts wr w2.heap.size .i64 3 u4 (oddN (L.take i))) ∧ Hid (∀ j, i ≤ j → j < k → gi L j = gi L i) ∧ Hid (Keeps NoB w2 wr)) (fun v6 _ => n - (intOf v6).toNat)
      case atStart => exact ⟨i, Nat.le_refl _, by omega, rfl, HO, fun j h1 h2 => by omega, HK⟩
      case round =>
        obtain ⟨k, hik, hk, rfl, HO, HJ, HK⟩ := hrel
        have c2 := HK.out.cell (HC.out i (by rw [hnn.out]; exact hlt)) (fun h => h)
        by_cases hlt2 : k < n
        · have c1 := HK.out.cell (HC.out k (by rw [hnn.out]; exact hlt2)) (fun h => h)
          have p0 : (0 : Int) ≤ (k : Int) := by omega
          have p1 : (k : Int) < (n : Int) := by omega
          have hd : decide ((k : Int) < (n : Int)) = true := decide_eq_true p1
          by_cases hx : gi L k = gi L i
          · have hq : (gi L k == gi L i) = true := by simp [hx]
            have HX := hid hx
            clear hx
            go_wp2_with fail
            go_quiet (fail)
            go_wp2_with fail
            go_roundw
            case rel => exact ⟨k + 1, by omega, by omega, by go_num, hid (HO.out.drewN _), hid (fun j h1 h2 => by
              by_cases e : j = k
              · rw [e]; exact HX.out
              · exact HJ.out j h1 (by omega)), hid (HK.out.drewN _)⟩
            case measure => simp [intOf]; omega
          · have hq : (gi L k == gi L i) = false := by simp [hx]
            have HX := hid hx
            clear hx
            have hik2 : i < k := by
              rcases Nat.lt_or_ge i k with h1 | h1
              · exact h1
              · exact absurd (by rw [show k = i by omega]) HX.out
            obtain ⟨hb2, hs2⟩ := odd_step HS.out HBN.out hik2 (by rw [hnn.out]; exact hk) HJ.out (fun _ => HX.out)
            have HB2 := hid hb2
            by_cases hodd : (k - i) % 2 = 1
            · have hqq : (((k : Int) - (i : Int)) % 2 == 1) = true := by simp; omega
              rw [if_pos hodd] at hs2
              have HS2 := hid hs2
              have HNN := HN.out i
              clear hb2 hs2 hodd
              go_wp2_with fail
              go_quiet (fail)
              go_wp2_with (at_builtin; go_must (refine wpList_app1 _ rfl _ _ 62 rfl w2.heap.size 3 .i64 8 hu info_int _ _ rfl (OwnInts.alloc HO.out _) _ _ _ rfl (cell_one _ _ _) (by omega) (by omega) (by have := HK.out.size; simp at this ⊢; omega) ?_); intro v4 w4 hown4 hgr4 _)
              go_roundw
              case rel => exact ⟨k, hk, rfl, hid (by rw [HS2.out]; exact hown4), HB2, hid (((HK.out.drewN _).alloc _).own (OwnInts.alloc HO.out _) hgr4 (Nat.le_refl _))⟩
              case measure => simp [intOf]; omega
            · have hqq : (((k : Int) - (i : Int)) % 2 == 1) = false := by simp; omega
              rw [if_neg hodd, List.append_nil] at hs2
              have HS2 := hid hs2
              clear hb2 hs2 hodd
              go_wp2_with fail
              go_quiet (fail)
              go_wp2_with fail
              go_roundw
              case rel => exact ⟨k, hk, rfl, hid (by rw [HS2.out]; exact HO.out.drewN _), HB2, hid (HK.out.drewN _)⟩
              case measure => simp [intOf]; omega
        · obtain rfl : k = n := by omega
          have hd : decide ((k : Int) < (k : Int)) = false := decide_eq_false (by omega)
          have hik2 : i < k := by
            rcases Nat.lt_or_ge i k with h1 | h1
            · exact h1
            · omega
          obtain ⟨hb2, hs2⟩ := odd_step HS.out HBN.out hik2 (by rw [hnn.out]; exact hk) HJ.out (fun e => by rw [hnn.out] at e; omega)
          have HB2 := hid hb2
          by_cases hodd : (k - i) % 2 = 1
          · have hqq : (((k : Int) - (i : Int)) % 2 == 1) = true := by simp; omega
            rw [if_pos hodd] at hs2
            have HS2 := hid hs2
            have HNN := HN.out i
            clear hb2 hs2 hodd
            go_wp2_with fail
            go_quiet (fail)
            go_wp2_with (at_builtin; go_must (refine wpList_app1 _ rfl _ _ 62 rfl w2.heap.size 3 .i64 8 hu info_int _ _ rfl (OwnInts.alloc HO.out _) _ _ _ rfl (cell_one _ _ _) (by omega) (by omega) (by have := HK.out.size; simp at this ⊢; omega) ?_); intro v4 w4 hown4 hgr4 _)
            go_roundw
            case rel => exact ⟨k, hk, rfl, hid (by rw [HS2.out]; exact hown4), HB2, hid (((HK.out.drewN _).alloc _).own (OwnInts.alloc HO.out _) hgr4 (Nat.le_refl _))⟩
            case measure => simp [intOf]; omega
          · have hqq : (((k : Int) - (i : Int)) % 2 == 1) = false := by simp; omega
            rw [if_neg hodd, List.append_nil] at hs2
            have HS2 := hid hs2
            clear hb2 hs2 hodd
            go_wp2_with fail
            go_quiet (fail)
            go_wp2_with fail
            go_roundw
            case rel => exact ⟨k, hk, rfl, hid (by rw [HS2.out]; exact HO.out.drewN _), HB2, hid (HK.out.drewN _)⟩
            case measure => simp [intOf]; omega
    · obtain rfl : i = n := by omega
      go_wp2_with fail
      go_ret
      refine ⟨_, rfl, ?_, HK0.out.fresh HK.out⟩
      have h9 := HO.out
      rw [← hnn.out, List.take_length, HE.out] at h9
      exact h9.lower HK0.out.size
end Go.Proofs.Ytpkkaicpbihjfaa
/- Equations, put upon each other: the program's walk. Conditions: lengths are small; what is read lies below. -/
set_option linter.unusedVariables false
namespace Go.Proofs.Ytpkkaicpbihjfaa
open Go.RowKit

/-- An equation's parts. -/
structure EqV where
  of : List Int
  val : List UInt8
/-- Numbers that are read at an address, in a block of some. -/
def IntsIn (R : Nat → Prop) (w : World) (A : Option Addr) (l : List Int) : Prop := IntsAt w .i64 A l ∧ ∀ b off, A = some ⟨b, off, none⟩ → 0 < l.length → R b
theorem IntsIn.keeps {R S : Nat → Prop} {w w1 : World} {A : Option Addr} {l : List Int} (h : IntsIn R w A l) (hk : Keeps S w w1) (hn : ∀ b, R b → ¬ S b) : IntsIn R w1 A l :=
  ⟨h.1.keeps hk (fun b off e h0 => hn b (h.2 b off e h0)), h.2⟩
theorem IntsIn.mono {R R' : Nat → Prop} {w : World} {A : Option Addr} {l : List Int} (h : IntsIn R w A l) (hr : ∀ b, b < w.heap.size → R b → R' b) : IntsIn R' w A l :=
  ⟨h.1, fun b off e h0 => hr b (h.1.lt b off e h0) (h.2 b off e h0)⟩
def NumsIn (R : Nat → Prop) (w : World) (u : Value) (l : List Int) : Prop := ∃ A c, u = .slice A l.length c ∧ l.length ≤ c ∧ (A = none → c = 0) ∧ IntsIn R w A l
theorem NumsIn.keeps {R S : Nat → Prop} {w w1 : World} {u : Value} {l : List Int} (h : NumsIn R w u l) (hk : Keeps S w w1) (hn : ∀ b, R b → ¬ S b) : NumsIn R w1 u l := by
  obtain ⟨A, c, h1, h2, h3, h4⟩ := h
  exact ⟨A, c, h1, h2, h3, h4.keeps hk hn⟩
theorem NumsIn.mono {R R' : Nat → Prop} {w : World} {u : Value} {l : List Int} (h : NumsIn R w u l) (hr : ∀ b, b < w.heap.size → R b → R' b) : NumsIn R' w u l := by
  obtain ⟨A, c, h1, h2, h3, h4⟩ := h
  exact ⟨A, c, h1, h2, h3, h4.mono hr⟩
def ge (es : List EqV) (j : Nat) : EqV := es.getD j ⟨[], []⟩
theorem ge_eq (es : List EqV) (j : Nat) (h : j < es.length) : ge es j = es[j] := by simp [ge, h]
theorem ge_mem (es : List EqV) (j : Nat) (h : j < es.length) : ge es j ∈ es := by rw [ge_eq es j h]; exact List.getElem_mem h
/-- Equations that are read at an address, all in blocks of some. -/
def EqsIn (R : Nat → Prop) (w : World) (A : Option Addr) (es : List EqV) : Prop :=
  es.length ≤ 4611686018427387903 ∧ (0 < es.length → ∃ b off, A = some ⟨b, off, none⟩ ∧ R b ∧ ∀ j, j < es.length → ∃ u1 u2, w.cell? ⟨b, off + j * 2, none⟩ = some u1 ∧ w.cell? ⟨b, off + j * 2 + 1, none⟩ = some u2 ∧ NumsIn R w u1 (ge es j).of ∧ RowIn R w u2 (ge es j).val)
theorem EqsIn.keeps {R S : Nat → Prop} {w w1 : World} {A : Option Addr} {es : List EqV} (h : EqsIn R w A es) (hk : Keeps S w w1) (hn : ∀ b, R b → ¬ S b) : EqsIn R w1 A es :=
  ⟨h.1, fun h0 => by
    obtain ⟨b, off, e, hb, hc⟩ := h.2 h0
    refine ⟨b, off, e, hb, fun j hj => ?_⟩
    obtain ⟨u1, u2, h1, h2, h3, h4⟩ := hc j hj
    exact ⟨u1, u2, hk.cell h1 (hn b hb), hk.cell h2 (hn b hb), h3.keeps hk hn, h4.keeps hk hn⟩⟩
theorem EqsIn.mono {R R' : Nat → Prop} {w : World} {A : Option Addr} {es : List EqV} (h : EqsIn R w A es) (hr : ∀ b, b < w.heap.size → R b → R' b) : EqsIn R' w A es :=
  ⟨h.1, fun h0 => by
    obtain ⟨b, off, e, hb, hc⟩ := h.2 h0
    obtain ⟨u1, u2, h1, _⟩ := hc 0 h0
    refine ⟨b, off, e, hr b (World.block_lt_of_cell? w _ h1) hb, fun j hj => ?_⟩
    obtain ⟨u1, u2, h1, h2, h3, h4⟩ := hc j hj
    exact ⟨u1, u2, h1, h2, h3.mono hr, h4.mono hr⟩⟩
theorem EqsIn.lt {R : Nat → Prop} {w : World} {A : Option Addr} {es : List EqV} (h : EqsIn R w A es) : EqsIn (fun b => R b ∧ b < w.heap.size) w A es := h.mono (fun b h1 h2 => ⟨h2, h1⟩)
/-- All numbers of some equations, one behind the other. -/
def ofsE (es : List EqV) : List Int := es.flatMap EqV.of
def valsE (es : List EqV) : List (List UInt8) := es.map EqV.val
theorem ofsE_snoc (es : List EqV) (e : EqV) : ofsE (es ++ [e]) = ofsE es ++ e.of := by simp [ofsE]
theorem valsE_snoc (es : List EqV) (e : EqV) : valsE (es ++ [e]) = valsE es ++ [e.val] := by simp [valsE]
theorem take_ge (es : List EqV) (k : Nat) (h : k < es.length) : es.take (k + 1) = es.take k ++ [ge es k] := by rw [List.take_succ_eq_append_getElem h, ge_eq es k h]
theorem ofsE_take_le (es : List EqV) (k : Nat) : (ofsE (es.take k)).length ≤ (ofsE es).length := by
  have : ofsE es = ofsE (es.take k) ++ ofsE (es.drop k) := by rw [ofsE, ofsE, ofsE, ← List.flatMap_append, List.take_append_drop]
  rw [this, List.length_append]; omega
/-- Two results, the first in a cell of its own. -/
theorem results_cell_then {P : Program} {fn : Func} {p q : Tmp} {ty : TypeId} (h : fn.results = #[.cell p ty, .tmp q]) (tmps : Array Value) (w : World) (g : Nat) (t : TypeId) (cs : Array Value) (fr : Nat × Nat) (d : TypeDesc)
    (hp : tmps.getD p undef = .pointer (some ⟨g, 0, none⟩)) (hg : w.heap[g]? = some (.cells cs t fr))
    (hu : P.underlying ty = some d) (hd : (match d with | .struct _ | .array _ _ => true | _ => false) = true) (hi : (P.info? ty).map (·.size) = some cs.size) :
    (results fn tmps).run P w = .ok (.tuple #[.agg cs, tmps.getD q undef]) w := by
  have hp' : tmps[p]?.getD undef = .pointer (some ⟨g, 0, none⟩) := by simpa using hp
  simp [results, h, hp', asAddr, run_loadVar_row w g t ty cs fr d hg hu hd hi]
theorem OwnRows.row {R : Nat → Prop} {w : World} {base : Nat} {v : Value} {ls : List (List UInt8)} (h : OwnRows R w base v ls) : ∃ us, w.ownsRow base 25 1 v ls.length us := by
  obtain ⟨us, _, h2, _⟩ := h
  exact ⟨us, h2⟩
theorem heap_put {w : World} {g o : Nat} {cells : Array Value} {T : TypeId} {fr : Nat × Nat} (h : w.heap[g]? = some (.cells cells T fr)) (u : Value) : (w.setCell ⟨g, o, none⟩ u).heap[g]? = some (.cells (cells.setIfInBounds o u) T fr) := by
  show (w.heap.modify g _)[g]? = _
  rw [Array.getElem?_modify, if_pos rfl, h]; rfl
theorem put_two {w : World} {b : Nat} {a0 a1 : Value} {T : TypeId} {fr : Nat × Nat} (h : w.heap[b]? = some (.cells #[a0, a1] T fr)) (x y : Value) : ((w.setCell ⟨b, 0, none⟩ x).setCell ⟨b, 1, none⟩ y).heap[b]? = some (.cells #[x, y] T fr) := heap_put (heap_put h x) y
theorem cells2 {w : World} {b : Nat} {x y : Value} {T : TypeId} {fr : Nat × Nat} (h : w.heap[b]? = some (.cells #[x, y] T fr)) : w.cell? ⟨b, 0, none⟩ = some x ∧ w.cell? ⟨b, 1, none⟩ = some y := by simp [World.cell?, h]
/-- Two rows of unlike kinds lie in two blocks. -/
theorem own_apart {w : World} {base base' : Nat} {e e' : TypeId} {v v' : Value} {n n' : Nat} {xs xs' : List Value} (h : w.ownsRow base e 1 v n xs) (h' : w.ownsRow base' e' 1 v' n' xs') (he : e ≠ e') : ∀ b, v.ownBlock = some b → v'.ownBlock ≠ some b := by
  intro b hb hb'
  rcases h.2 with ⟨rfl, _⟩ | ⟨g, cap, cur, rfl, _, hg, _⟩
  · simp [Value.ownBlock] at hb
  · rcases h'.2 with ⟨rfl, _⟩ | ⟨g', cap', cur', rfl, _, hg', _⟩
    · simp [Value.ownBlock] at hb'
    · have e1 : g = b := by simpa [Value.ownBlock] using hb
      have e2 : g' = b := by simpa [Value.ownBlock] using hb'
      subst e1; subst e2
      rw [hg] at hg'
      injection hg' with h1
      injection h1 with _ h2
      exact he h2
set_option maxHeartbeats 1600000 in
set_option maxRecDepth 20000 in
theorem eadd_yes (n : Nat) (es : List EqV) (A : Option Addr) (c : Nat) (R : Nat → Prop) (w : World) (hn : n ≤ 1073741824) (he : EqsIn R w A es) (hl1 : es.length ≤ 1073741824) (hl2 : (ofsE es).length ≤ 1073741824) (hfit : fitB n (valsE es) = true) :
    Calls Try.prog 35 #[.int .i64 (n : Int), .slice A es.length c] w fun e w' => ∃ v1 v2, e = .returned (.tuple #[.agg #[v1, v2], .bool true]) ∧ OwnInts w' w.heap.size .i64 3 v1 (oddN (ofsE es)) ∧ OwnB w' w.heap.size v2 (sumB n (valsE es)) ∧ Keeps NoB w w' := by
  have HE := hid he.lt
  have HF := hid hfit
  have HT := hid (take_ge es)
  have HLE := hid (fun k => Nat.le_trans (ofsE_take_le es k) hl2)
  have hl2 := hid hl2
  have hu := Try.underlying62
  have hub := Try.underlying32
  clear he hfit
  obtain ⟨m, hm⟩ : ∃ m, es.length = m := ⟨_, rfl⟩
  rw [hm] at hl1 ⊢
  have hmm := hid hm
  clear hm
  go_enter Try.func35, Try.ntmps35
  go_wp2_with fail
  obtain ⟨w0, hw0⟩ : ∃ w0, w.alloc (.cells #[.slice none 0 0, .slice none 0 0] 75) = w0 := ⟨_, rfl⟩
  rw [hw0]
  have hs0 : w0.heap.size = w.heap.size + 1 := by rw [← hw0]; simp
  have hres := hid (show w0.heap[w.heap.size]? = some (.cells #[.slice none 0 0, .slice none 0 0] 75 (0, 0)) by rw [← hw0]; exact heap_alloc_new w _)
  have HK0 := hid (show Keeps NoB w w0 by rw [← hw0]; exact (Keeps.refl NoB w).alloc _)
  have HE := hid (HE.out.keeps HK0.out (fun _ _ h => h))
  clear hw0
  go_loopw [6, 7, 14] (fun v6 v7 v14 wr => ∃ k : Nat, k ≤ m ∧ v14 = .int .i64 (k : Int) ∧ Hid (OwnInts wr w0.heap.size .i64 3 v6 (ofsE (es.take k))) ∧ Hid (OwnRows (fun b => R b ∧ b < w.heap.size) wr w0.heap.size v7 (valsE (es.take k))) ∧ Hid (Keeps NoB w0 wr)) (fun _ _ v14 _ => m - (intOf v14).toNat)
  case atStart => exact ⟨0, Nat.zero_le _, rfl, OwnInts.nil _ _ _ _, OwnRows.nil _ _ _, hid (Keeps.refl NoB w0)⟩
  case round =>
    obtain ⟨k, hk, rfl, HO, HR, HK⟩ := hrel
    by_cases hlt : k < m
    · obtain ⟨b, off, rfl, hbR, hc⟩ := HE.out.2 (by rw [hmm.out]; omega)
      obtain ⟨u1, u2, h1, h2, h3, h4⟩ := hc k (by rw [hmm.out]; exact hlt)
      have e1 := HK.out.cell h1 (fun h => h)
      have e2 := HK.out.cell h2 (fun h => h)
      have H3 := hid (h3.keeps HK.out (fun _ _ h => h))
      have H4 := hid (h4.keeps HK.out (fun _ _ h => h))
      have p0 : (0 : Int) ≤ (k : Int) := by omega
      have p1 : (k : Int) < (m : Int) := by omega
      clear hc h1 h2 h3 h4 hbR
      obtain ⟨A1, c1, rfl, hlc1, hA1, hat1⟩ := H3.out
      obtain ⟨A2, c2, rfl, hlc2, hA2, hat2⟩ := H4.out
      have HT1 := hid (hat1.1)
      have HA1 := hid hA1
      have hvl := hid (show (valsE (es.take k)).length = k by rw [valsE, List.length_map, List.length_take, hmm.out]; omega)
      obtain ⟨us0, Av, cv, rfl, _⟩ := HR.out.parts hvl.out
      have ht := hid (HT.out k (by rw [hmm.out]; exact hlt))
      have hle := hid (by have h9 := HLE.out (k + 1); rw [ht.out, ofsE_snoc, List.length_append] at h9; exact h9 : (ofsE (es.take k)).length + (ge es k).of.length ≤ 1073741824)
      clear hlc1 hA1 hat1 hlc2 hA2 hat2
      have HK2 := hid ((Keeps.refl NoB wr).alloc (.cells #[.slice A1 (ge es k).of.length c1, .slice A2 (ge es k).val.length c2] 75))
      have hb2 := hid (heap_alloc_new wr (.cells #[.slice A1 (ge es k).of.length c1, .slice A2 (ge es k).val.length c2] 75))
      generalize hge : ge es k = ek at *
      obtain ⟨eof, evl⟩ := ek
      dsimp only at *
      have tk1 : True := trivial
      go_wp2_with (first
        | (at_builtin; clear tk1; go_must (refine wpList_appInts _ rfl _ _ 62 rfl w0.heap.size 3 .i64 8 hu info_int _ (ofsE (es.take k)) rfl (HO.out.kept HK2.out) A1 c1 eof rfl HA1.out (HT1.out.kept HK2.out) (by have := hle.out; omega) (by have := hle.out; omega) (by have := HK.out.size; have := HK2.out.size; omega) ?_); intro v3 w3 hown3 hgr3; have hx3 := (Keeps.ofGrown hgr3).heap hb2.out (fun e => by have := (HO.out.base_le _ e.symm).2; omega); have hy3 := (cells2 hx3).2; have HO3 := hid hown3; have HKS := hid (HK2.out.trans (U := fun b => some b = u6.ownBlock) (Keeps.ofGrown hgr3) (fun _ _ h => h.elim) (fun _ _ h => h)); have HR3 := hid (HR.out.keeps HKS.out (fun b hb e => by have := (HO.out.base_le b e.symm).1; omega) (fun b hb e => own_apart HR.out.row.choose_spec HO.out (by decide) b hb e.symm)); have HK3 := hid ((HK.out.fresh HK2.out).own (HO.out.kept HK2.out) hgr3 (Nat.le_refl _)); have H43 := hid (H4.out.keeps HKS.out (fun b hb e => by have := (HO.out.base_le b e.symm).1; omega)); obtain ⟨us, Av', cv', hv', hus1, hus2, hus3⟩ := HR3.out.parts hvl.out; injection hv' with hv1 _ hv2; subst hv1 hv2; have HUS1 := hid hus1; have HUS2 := hid hus2; have HUS3 := hid hus3; clear hus1 hus2 hus3 hown3 hgr3)
        | (at_builtin; go_must (refine wpList_app1V _ rfl _ _ 32 rfl w0.heap.size 25 (.slice none 0 0) 24 hub info_bytes rfl (.slice Av k cv) k us rfl (World.ownsRow.alloc HUS2.out _) _ _ (.slice A2 evl.length c2) rfl rfl (cell_one _ _ _) (by omega) (by omega) (by have := HK3.out.size; simp; omega) ?_); intro g4 cap4 w4 hown4 hgr4 hat4))
      have HROW := hid (H43.out.mono (R' := fun b => (R b ∧ b < w.heap.size) ∧ (Value.slice Av k cv).ownBlock ≠ some b) (fun b hlt hb => ⟨hb, fun e => by have := (HR3.out.base_le b e).1; omega⟩))
      have HO4 := hid ((OwnInts.alloc HO3.out (.cells #[.slice A2 evl.length c2] 25)).keeps (Keeps.ofGrown hgr4) (fun b hb e => own_apart HO3.out HUS2.out (by decide) b hb e.symm))
      have ho4 := hid (show ofsE (es.take (k + 1)) = ofsE (es.take k) ++ eof by rw [ht.out, ofsE_snoc])
      have hv4 := hid (show valsE (es.take (k + 1)) = valsE (es.take k) ++ [evl] by rw [ht.out, valsE_snoc])
      go_roundw
      case rel => exact ⟨k + 1, by omega, by go_num, hid (by rw [ho4.out]; exact HO4.out), hid (by rw [hv4.out]; exact HR3.out.snocN hvl.out HROW.out HUS1.out HUS2.out HUS3.out hown4 hgr4 hat4), hid ((HK3.out.alloc _).grown hgr4 (fun i e hlt => by have := (HR3.out.base_le i e.symm).1; omega))⟩
      case measure => simp [intOf]; omega
    · obtain rfl : k = m := by omega
      have hall : es.take k = es := by rw [← hmm.out, List.take_length]
      rw [hall] at HO HR
      have hvl := hid (show (valsE es).length = k by rw [valsE, List.length_map, hmm.out])
      obtain ⟨Av, cv, rfl, _, _, hrows⟩ := HR.out.reads
      have HROWS := hid hrows
      rw [hvl.out]
      have HSUM := hid (bsum_yes n (valsE es) Av cv _ wr hn HROWS.out HF.out)
      rw [hvl.out] at HSUM
      clear hall hrows
      go_wp2_with fail
      refine HSUM.out.mono ?_
      rintro e w5 ⟨v2, rfl, hO5, HK5⟩
      have hO5 := hid hO5
      have HK5 := hid HK5
      have HO5 := hid (HO.out.kept HK5.out)
      have HK05 := hid (HK.out.fresh HK5.out)
      obtain ⟨Ao, co, rfl, _, hat⟩ := HO5.out.reads
      have HAT := hid hat
      clear hat
      go_wp2_with fail
      refine (odd_calls (ofsE es) Ao co w5 HAT.out hl2.out).mono ?_
      rintro e w6 ⟨v1, rfl, hO6, HK6⟩
      have HK06 := hid (HK05.out.fresh HK6)
      have hr6 := hid (HK06.out.heap hres.out (fun h => h))
      have hO26 := hid (OwnInts.kept hO5.out HK6)
      have hsz := hid (Nat.le_trans HK.out.size HK5.out.size)
      have hO6 := hid hO6
      have e0 := (cells2 hr6.out).1
      have e1 := (cells2 hr6.out).2
      have f0 : w6.frozen? ⟨w.heap.size, 0, none⟩ = false := by simp [World.frozen?, hr6.out]
      have f1 : w6.frozen? ⟨w.heap.size, 1, none⟩ = false := by simp [World.frozen?, hr6.out]
      obtain ⟨A1, c1, rfl, _, _⟩ := hO6.out.reads
      obtain ⟨A2, c2, rfl, _, _⟩ := hO26.out.reads
      clear HK6
      have hu29 := Try.underlying75
      go_wp2_with fail
      have hfin := put_two hr6.out (.slice A1 (oddN (ofsE es)).length c1) (.slice A2 (enc8 (sumB n (valsE es))).length c2)
      have hkf := (((Keeps.refl (fun b => b = w.heap.size) w6).setCell (p := ⟨w.heap.size, 0, none⟩) (fun _ => rfl) (.slice A1 (oddN (ofsE es)).length c1)).setCell (p := ⟨w.heap.size, 1, none⟩) (fun _ => rfl) (.slice A2 (enc8 (sumB n (valsE es))).length c2))
      have hz5 := hsz.out
      refine bodyPost_ret (results_cell_then rfl _ _ w.heap.size 75 _ (0, 0) _ rfl hfin hu29 rfl (by kernel_rfl)) rfl ?_
      refine ⟨_, _, rfl, (hO6.out.keeps hkf (fun b hb e => by have := (hO6.out.base_le b hb).1; omega)).lower (by omega), ?_, (((HK0.out.fresh HK06.out).setCell (p := ⟨w.heap.size, 0, none⟩) (fun h => absurd h (Nat.lt_irrefl _)) _).setCell (p := ⟨w.heap.size, 1, none⟩) (fun h => absurd h (Nat.lt_irrefl _)) _)⟩
      have h9 := OwnInts.lower (OwnInts.keeps hO26.out hkf (fun b hb e => by have := (OwnInts.base_le hO26.out b hb).1; have := HK.out.size; omega)) (base' := w.heap.size) (by have := HK.out.size; omega)
      exact h9
theorem bsum_no (n : Int) (ls : List (List UInt8)) (A : Option Addr) (c : Nat) (R : Nat → Prop) (w : World) (hn0 : -9223372036854775808 ≤ n) (hn : n ≤ 1073741824) (hb : RowsIn R w A ls) (hfit : fitN n ls = false) :
    Calls Try.prog 33 #[.int .i64 n, .slice A ls.length c] w fun e w' => e = .returned (.tuple #[.slice none 0 0, .bool false]) ∧ Keeps NoB w w' := by
  by_cases h0 : n < 0
  · exact bsum_neg n ls.length A c w h0 hn0
  · obtain ⟨m, rfl⟩ : ∃ m : Nat, n = (m : Int) := ⟨n.toNat, by omega⟩
    refine bsum_unfit m ls A c R w (by omega) hb ?_
    unfold fitN at hfit
    rw [decide_eq_true (by omega : (0 : Int) ≤ (m : Int)), Bool.true_and] at hfit
    exact hfit
set_option maxHeartbeats 1600000 in
set_option maxRecDepth 20000 in
theorem eadd_no (n : Int) (es : List EqV) (A : Option Addr) (c : Nat) (R : Nat → Prop) (w : World) (hn0 : -9223372036854775808 ≤ n) (hn : n ≤ 1073741824) (he : EqsIn R w A es) (hl1 : es.length ≤ 1073741824) (hl2 : (ofsE es).length ≤ 1073741824) (hfit : fitN n (valsE es) = false) :
    Calls Try.prog 35 #[.int .i64 n, .slice A es.length c] w fun e w' => e = .returned (.tuple #[.agg #[.slice none 0 0, .slice none 0 0], .bool false]) ∧ Keeps NoB w w' := by
  have HE := hid he.lt
  have HF := hid hfit
  have HT := hid (take_ge es)
  have HLE := hid (fun k => Nat.le_trans (ofsE_take_le es k) hl2)
  have hl2 := hid hl2
  have hu := Try.underlying62
  have hub := Try.underlying32
  clear he hfit
  obtain ⟨m, hm⟩ : ∃ m, es.length = m := ⟨_, rfl⟩
  rw [hm] at hl1 ⊢
  have hmm := hid hm
  clear hm
  go_enter Try.func35, Try.ntmps35
  go_wp2_with fail
  obtain ⟨w0, hw0⟩ : ∃ w0, w.alloc (.cells #[.slice none 0 0, .slice none 0 0] 75) = w0 := ⟨_, rfl⟩
  rw [hw0]
  have hs0 : w0.heap.size = w.heap.size + 1 := by rw [← hw0]; simp
  have hres := hid (show w0.heap[w.heap.size]? = some (.cells #[.slice none 0 0, .slice none 0 0] 75 (0, 0)) by rw [← hw0]; exact heap_alloc_new w _)
  have HK0 := hid (show Keeps NoB w w0 by rw [← hw0]; exact (Keeps.refl NoB w).alloc _)
  have HE := hid (HE.out.keeps HK0.out (fun _ _ h => h))
  clear hw0
  go_loopw [6, 7, 14] (fun v6 v7 v14 wr => ∃ k : Nat, k ≤ m ∧ v14 = .int .i64 (k : Int) ∧ Hid (OwnInts wr w0.heap.size .i64 3 v6 (ofsE (es.take k))) ∧ Hid (OwnRows (fun b => R b ∧ b < w.heap.size) wr w0.heap.size v7 (valsE (es.take k))) ∧ Hid (Keeps NoB w0 wr)) (fun _ _ v14 _ => m - (intOf v14).toNat)
  case atStart => exact ⟨0, Nat.zero_le _, rfl, OwnInts.nil _ _ _ _, OwnRows.nil _ _ _, hid (Keeps.refl NoB w0)⟩
  case round =>
    obtain ⟨k, hk, rfl, HO, HR, HK⟩ := hrel
    by_cases hlt : k < m
    · obtain ⟨b, off, rfl, hbR, hc⟩ := HE.out.2 (by rw [hmm.out]; omega)
      obtain ⟨u1, u2, h1, h2, h3, h4⟩ := hc k (by rw [hmm.out]; exact hlt)
      have e1 := HK.out.cell h1 (fun h => h)
      have e2 := HK.out.cell h2 (fun h => h)
      have H3 := hid (h3.keeps HK.out (fun _ _ h => h))
      have H4 := hid (h4.keeps HK.out (fun _ _ h => h))
      have p0 : (0 : Int) ≤ (k : Int) := by omega
      have p1 : (k : Int) < (m : Int) := by omega
      clear hc h1 h2 h3 h4 hbR
      obtain ⟨A1, c1, rfl, hlc1, hA1, hat1⟩ := H3.out
      obtain ⟨A2, c2, rfl, hlc2, hA2, hat2⟩ := H4.out
      have HT1 := hid (hat1.1)
      have HA1 := hid hA1
      have hvl := hid (show (valsE (es.take k)).length = k by rw [valsE, List.length_map, List.length_take, hmm.out]; omega)
      obtain ⟨us0, Av, cv, rfl, _⟩ := HR.out.parts hvl.out
      have ht := hid (HT.out k (by rw [hmm.out]; exact hlt))
      have hle := hid (by have h9 := HLE.out (k + 1); rw [ht.out, ofsE_snoc, List.length_append] at h9; exact h9 : (ofsE (es.take k)).length + (ge es k).of.length ≤ 1073741824)
      clear hlc1 hA1 hat1 hlc2 hA2 hat2
      have HK2 := hid ((Keeps.refl NoB wr).alloc (.cells #[.slice A1 (ge es k).of.length c1, .slice A2 (ge es k).val.length c2] 75))
      have hb2 := hid (heap_alloc_new wr (.cells #[.slice A1 (ge es k).of.length c1, .slice A2 (ge es k).val.length c2] 75))
      generalize hge : ge es k = ek at *
      obtain ⟨eof, evl⟩ := ek
      dsimp only at *
      have tk1 : True := trivial
      go_wp2_with (first
        | (at_builtin; clear tk1; go_must (refine wpList_appInts _ rfl _ _ 62 rfl w0.heap.size 3 .i64 8 hu info_int _ (ofsE (es.take k)) rfl (HO.out.kept HK2.out) A1 c1 eof rfl HA1.out (HT1.out.kept HK2.out) (by have := hle.out; omega) (by have := hle.out; omega) (by have := HK.out.size; have := HK2.out.size; omega) ?_); intro v3 w3 hown3 hgr3; have hx3 := (Keeps.ofGrown hgr3).heap hb2.out (fun e => by have := (HO.out.base_le _ e.symm).2; omega); have hy3 := (cells2 hx3).2; have HO3 := hid hown3; have HKS := hid (HK2.out.trans (U := fun b => some b = u6.ownBlock) (Keeps.ofGrown hgr3) (fun _ _ h => h.elim) (fun _ _ h => h)); have HR3 := hid (HR.out.keeps HKS.out (fun b hb e => by have := (HO.out.base_le b e.symm).1; omega) (fun b hb e => own_apart HR.out.row.choose_spec HO.out (by decide) b hb e.symm)); have HK3 := hid ((HK.out.fresh HK2.out).own (HO.out.kept HK2.out) hgr3 (Nat.le_refl _)); have H43 := hid (H4.out.keeps HKS.out (fun b hb e => by have := (HO.out.base_le b e.symm).1; omega)); obtain ⟨us, Av', cv', hv', hus1, hus2, hus3⟩ := HR3.out.parts hvl.out; injection hv' with hv1 _ hv2; subst hv1 hv2; have HUS1 := hid hus1; have HUS2 := hid hus2; have HUS3 := hid hus3; clear hus1 hus2 hus3 hown3 hgr3)
        | (at_builtin; go_must (refine wpList_app1V _ rfl _ _ 32 rfl w0.heap.size 25 (.slice none 0 0) 24 hub info_bytes rfl (.slice Av k cv) k us rfl (World.ownsRow.alloc HUS2.out _) _ _ (.slice A2 evl.length c2) rfl rfl (cell_one _ _ _) (by omega) (by omega) (by have := HK3.out.size; simp; omega) ?_); intro g4 cap4 w4 hown4 hgr4 hat4))
      have HROW := hid (H43.out.mono (R' := fun b => (R b ∧ b < w.heap.size) ∧ (Value.slice Av k cv).ownBlock ≠ some b) (fun b hlt hb => ⟨hb, fun e => by have := (HR3.out.base_le b e).1; omega⟩))
      have HO4 := hid ((OwnInts.alloc HO3.out (.cells #[.slice A2 evl.length c2] 25)).keeps (Keeps.ofGrown hgr4) (fun b hb e => own_apart HO3.out HUS2.out (by decide) b hb e.symm))
      have ho4 := hid (show ofsE (es.take (k + 1)) = ofsE (es.take k) ++ eof by rw [ht.out, ofsE_snoc])
      have hv4 := hid (show valsE (es.take (k + 1)) = valsE (es.take k) ++ [evl] by rw [ht.out, valsE_snoc])
      go_roundw
      case rel => exact ⟨k + 1, by omega, by go_num, hid (by rw [ho4.out]; exact HO4.out), hid (by rw [hv4.out]; exact HR3.out.snocN hvl.out HROW.out HUS1.out HUS2.out HUS3.out hown4 hgr4 hat4), hid ((HK3.out.alloc _).grown hgr4 (fun i e hlt => by have := (HR3.out.base_le i e.symm).1; omega))⟩
      case measure => simp [intOf]; omega
    · obtain rfl : k = m := by omega
      have hall : es.take k = es := by rw [← hmm.out, List.take_length]
      rw [hall] at HO HR
      have hvl := hid (show (valsE es).length = k by rw [valsE, List.length_map, hmm.out])
      obtain ⟨Av, cv, rfl, _, _, hrows⟩ := HR.out.reads
      have HROWS := hid hrows
      rw [hvl.out]
      have HSUM := hid (bsum_no n (valsE es) Av cv _ wr hn0 hn HROWS.out HF.out)
      rw [hvl.out] at HSUM
      clear hall hrows
      go_wp2_with fail
      refine HSUM.out.mono ?_
      rintro e w5 ⟨rfl, HK5⟩
      have HK05 := hid (HK.out.fresh HK5)
      have hr6 := hid (HK05.out.heap hres.out (fun h => h))
      have e0 := (cells2 hr6.out).1
      have e1 := (cells2 hr6.out).2
      have f0 : w5.frozen? ⟨w.heap.size, 0, none⟩ = false := by simp [World.frozen?, hr6.out]
      have f1 : w5.frozen? ⟨w.heap.size, 1, none⟩ = false := by simp [World.frozen?, hr6.out]
      have hu29 := Try.underlying75
      clear HK5
      go_wp2_with fail
      have hfin := put_two hr6.out (.slice none 0 0) (.slice none 0 0)
      refine bodyPost_ret (results_cell_then rfl _ _ w.heap.size 75 _ (0, 0) _ rfl hfin hu29 rfl (by kernel_rfl)) rfl ?_
      exact ⟨rfl, (((HK0.out.fresh HK05.out).setCell (p := ⟨w.heap.size, 0, none⟩) (fun h => absurd h (Nat.lt_irrefl _)) _).setCell (p := ⟨w.heap.size, 1, none⟩) (fun h => absurd h (Nat.lt_irrefl _)) _)⟩
end Go.Proofs.Ytpkkaicpbihjfaa
/- Blocks, put upon each other: the plain laws. No condition but on lengths. -/
set_option linter.unusedVariables false
namespace Go.Proofs.Ytpkkaicpbihjfaa

theorem xor_comm (a b : List UInt8) : xorL a b = xorL b a := by
  induction a generalizing b with
  | nil => cases b <;> rfl
  | cons x a ih => cases b with
    | nil => rfl
    | cons y b =>
      show (x ^^^ y) :: xorL a b = (y ^^^ x) :: xorL b a
      rw [ih, UInt8.xor_comm]
theorem xor_assoc (a b c : List UInt8) : xorL (xorL a b) c = xorL a (xorL b c) := by
  induction a generalizing b c with
  | nil => rfl
  | cons x a ih => cases b with
    | nil => rfl
    | cons y b => cases c with
      | nil => rfl
      | cons z c =>
        show (x ^^^ y ^^^ z) :: xorL (xorL a b) c = (x ^^^ (y ^^^ z)) :: xorL a (xorL b c)
        rw [ih, UInt8.xor_assoc]
theorem xor_self (a : List UInt8) : xorL a a = List.replicate a.length 0 := by
  induction a with
  | nil => rfl
  | cons x a ih =>
    show (x ^^^ x) :: xorL a a = 0 :: List.replicate a.length 0
    rw [ih, UInt8.xor_self]
theorem zero_xor {l : List UInt8} {n : Nat} (h : l.length = n) : xorL (List.replicate n 0) l = l := by
  subst h
  induction l with
  | nil => rfl
  | cons x l ih =>
    show (0 ^^^ x) :: xorL (List.replicate l.length 0) l = x :: l
    rw [ih, UInt8.zero_xor]
theorem xor_zero {l : List UInt8} {n : Nat} (h : l.length = n) : xorL l (List.replicate n 0) = l := by rw [xor_comm, zero_xor h]
theorem xor_cancel {a b : List UInt8} (h : b.length = a.length) : xorL a (xorL a b) = b := by
  rw [← xor_assoc, xor_self, zero_xor h]
theorem xorAll_perm (a : List UInt8) {l m : List (List UInt8)} (h : l.Perm m) : xorAll a l = xorAll a m := by
  unfold xorAll
  refine h.foldl_eq' (fun x _ y _ z => ?_) a
  rw [xor_assoc, xor_assoc, xor_comm x y]
theorem xorAll_append (a : List UInt8) (l m : List (List UInt8)) : xorAll a (l ++ m) = xorAll (xorAll a l) m := by unfold xorAll; rw [List.foldl_append]
theorem xorAll_out (a b : List UInt8) (l : List (List UInt8)) : xorAll (xorL a b) l = xorL a (xorAll b l) := by
  induction l generalizing b with
  | nil => rfl
  | cons x l ih =>
    show xorAll (xorL (xorL a b) x) l = xorL a (xorAll (xorL b x) l)
    rw [xor_assoc, ih]
theorem fitB_append (n : Nat) (l m : List (List UInt8)) : fitB n (l ++ m) = (fitB n l && fitB n m) := by unfold fitB; rw [List.all_append]
theorem xorAll_sum {n : Nat} {a : List UInt8} {l : List (List UInt8)} (h : a.length = n) : xorAll a l = xorL a (sumB n l) := by
  have e := xorAll_out a (List.replicate n 0) l
  rw [xor_zero h] at e
  exact e
theorem sumB_append {n : Nat} {l m : List (List UInt8)} (h : fitB n l = true) : sumB n (l ++ m) = xorL (sumB n l) (sumB n m) := by
  unfold sumB
  rw [xorAll_append]
  exact xorAll_sum (sumB_length h)
theorem sumB_perm {n : Nat} {l m : List (List UInt8)} (h : l.Perm m) : sumB n l = sumB n m := xorAll_perm _ h
theorem sumB_cons {n : Nat} {x : List UInt8} {l : List (List UInt8)} (h : x.length = n) : sumB n (x :: l) = xorL x (sumB n l) := by
  show xorAll (xorL (List.replicate n 0) x) l = _
  rw [zero_xor h]; exact xorAll_sum h
theorem fitB_perm {n : Nat} {l m : List (List UInt8)} (h : l.Perm m) : fitB n l = fitB n m := by
  unfold fitB
  rw [Bool.eq_iff_iff, List.all_eq_true, List.all_eq_true]
  exact ⟨fun k x hx => k x (h.mem_iff.2 hx), fun k x hx => k x (h.mem_iff.1 hx)⟩
theorem zero_length {n : Nat} : (List.replicate n (0 : UInt8)).length = n := List.length_replicate
theorem zeroB_zero (n : Nat) : zeroB (List.replicate n 0) = true := by unfold zeroB; rw [List.all_eq_true]; intro x hx; rw [(List.mem_replicate.1 hx).2]; rfl
theorem zeroB_eq {l : List UInt8} (h : zeroB l = true) : l = List.replicate l.length 0 := by
  apply List.eq_replicate_iff.2
  refine ⟨rfl, fun x hx => ?_⟩
  have := List.all_eq_true.1 h x hx
  simpa using this
/-- Of blocks by their numbers but what is there an odd number of times counts. -/
theorem sum_tog {n : Nat} (f : Int → List UInt8) (x : Int) (r : List Int) (hf : ∀ i ∈ x :: r, (f i).length = n) : sumB n ((tog x r).map f) = xorL (f x) (sumB n (r.map f)) := by
  have hx := hf x (List.mem_cons_self ..)
  induction r with
  | nil => show sumB n [f x] = _; rw [sumB_cons hx]; rfl
  | cons y r ih =>
    have hy := hf y (List.mem_cons_of_mem _ (List.mem_cons_self ..))
    have ih := ih (fun i hi => hf i (by rcases List.mem_cons.1 hi with h | h; rw [h]; exact List.mem_cons_self ..; exact List.mem_cons_of_mem _ (List.mem_cons_of_mem _ h)))
    unfold tog
    split
    · rw [List.map_cons, sumB_cons hx]
    · split
      · rename_i h1 h2
        subst h2
        rw [List.map_cons, sumB_cons hx, xor_cancel]
        have hfit : fitB n (r.map f) = true := by
          unfold fitB; rw [List.all_map, List.all_eq_true]
          intro i hi
          simpa using hf i (List.mem_cons_of_mem _ (List.mem_cons_of_mem _ hi))
        rw [sumB_length hfit, hx]
      · rw [List.map_cons, sumB_cons hy, ih, List.map_cons, sumB_cons hy, ← xor_assoc, ← xor_assoc, xor_comm (f y) (f x)]
theorem sum_odd {n : Nat} (f : Int → List UInt8) (l : List Int) (hf : ∀ i ∈ l, (f i).length = n) : sumB n ((oddN l).map f) = sumB n (l.map f) := by
  induction l with
  | nil => rfl
  | cons x l ih =>
    have h2 : ∀ i ∈ l, (f i).length = n := fun i hi => hf i (List.mem_cons_of_mem _ hi)
    rw [oddN_cons, sum_tog f x (oddN l) (fun i hi => by
      rcases List.mem_cons.1 hi with h | h
      · rw [h]; exact hf x (List.mem_cons_self ..)
      · exact h2 i (oddN_sub h)), ih h2, List.map_cons, sumB_cons (hf x (List.mem_cons_self ..))]
/-- Equations that hold, put upon each other, hold. -/
theorem holds_iff {n : Nat} {is : List Int} {val : List UInt8} {bs : List (List UInt8)} (hv : val.length = n) (h : is.all (okB n bs) = true) : holdsE is val bs = true ↔ val = sumB n (selB bs is) := by
  unfold holdsE
  rw [hv, h, Bool.true_and, xorAll_sum hv]
  have hl := sumB_length (allOk_fit h)
  constructor
  · intro hz
    have e := zeroB_eq hz
    rw [xorL_length (by rw [hl, hv]), hv] at e
    have e2 := congrArg (xorL val) e
    rw [xor_cancel (by rw [hl, hv]), xor_zero hv] at e2
    exact e2.symm
  · intro e
    rw [← e, xor_self]; exact zeroB_zero _
theorem order_of (x : EqV) (es : List EqV) : oddN (ofsE (x :: es ++ [x])) = oddN (ofsE es) := by
  refine oddN_count (fun z => ?_)
  simp [ofsE, List.count_append]
  omega
theorem order_back (es : List EqV) : oddN (ofsE es.reverse) = oddN (ofsE es) := oddN_perm ((List.reverse_perm es).flatMap_right _)
theorem vals_back (n : Nat) (es : List EqV) : sumB n (valsE es.reverse) = sumB n (valsE es) := sumB_perm ((List.reverse_perm es).map _)
theorem fit_back (n : Int) (es : List EqV) : fitN n (valsE es.reverse) = fitN n (valsE es) := by
  have h : (valsE es.reverse).Perm (valsE es) := (List.reverse_perm es).map EqV.val
  unfold fitN; rw [fitB_perm h]
theorem fit_more (n : Nat) (x : EqV) (es : List EqV) : fitN (n : Int) (valsE (x :: es ++ [x])) = (fitN (n : Int) (valsE es) && decide (x.val.length = n)) := by
  unfold fitN
  have e : valsE (x :: es ++ [x]) = x.val :: (valsE es ++ [x.val]) := by simp [valsE]
  rw [e]
  have h0 : decide ((0 : Int) ≤ (n : Int)) = true := decide_eq_true (by omega)
  rw [h0, Bool.true_and, Bool.true_and]
  show ((x.val :: (valsE es ++ [x.val])).all _) = _
  unfold fitB
  rw [List.all_cons, List.all_append]
  simp
theorem vals_more (n : Nat) (x : EqV) (es : List EqV) (hx : x.val.length = n) (hf : fitB n (valsE es) = true) : sumB n (valsE (x :: es ++ [x])) = sumB n (valsE es) := by
  have e : valsE (x :: es ++ [x]) = x.val :: (valsE es ++ [x.val]) := by simp [valsE]
  rw [e, sumB_cons hx, sumB_append hf, xor_comm (sumB n (valsE es))]
  have e1 : sumB n [x.val] = x.val := by rw [sumB_cons hx]; exact xor_zero hx
  rw [e1, xor_cancel (by rw [sumB_length hf, hx])]
end Go.Proofs.Ytpkkaicpbihjfaa
/- What a payload and its blocks come to: the plain law of EmitSums. No condition. -/
set_option linter.unusedVariables false
namespace Go.Proofs.Ytpkkaicpbihjfaa

/-- The rows that EmitSums lays by the first k blocks. -/
noncomputable def rows14 (p : Par) (session : Nat) (obj : List UInt8) (id k : Nat) : List (List UInt8) := payN p session obj id :: pickR (compN p session obj) ((blkN p session id).take k)
theorem rows14_zero (p : Par) (session : Nat) (obj : List UInt8) (id : Nat) : rows14 p session obj id 0 = [payN p session obj id] := rfl
theorem rows14_length (p : Par) (session : Nat) (obj : List UInt8) (id k : Nat) (h : k ≤ (blkN p session id).length) : (rows14 p session obj id k).length = k + 1 := by
  unfold rows14; rw [List.length_cons, pickR_length, List.length_take]; omega
theorem rows14_succ {p : Par} (hm : p.may) (session : Nat) (obj : List UInt8) (id k : Nat) (h : k < (blkN p session id).length) : rows14 p session obj id (k + 1) = rows14 p session obj id k ++ [cmpN (compN p session obj) (gi (blkN p session id) k)] := by
  have hr := blkN_range hm session id obj (gi (blkN p session id) k) (by rw [gi_eq _ k h]; exact List.getElem_mem h)
  unfold rows14 cmpN
  rw [take_gi _ k h, pickR_snoc, if_pos hr.1]
  rfl
theorem rows14_fit {p : Par} (hm : p.may) (session : Nat) (obj : List UInt8) (id : Nat) : fitN p.b (rows14 p session obj id (blkN p session id).length) = true := by
  have h1 := (checkB_yes (comp_checkB hm session id obj)).2.2.2
  have hb : 1 ≤ p.b := hm.2.2.1
  unfold fitN rows14
  rw [List.take_length, decide_eq_true (show 0 ≤ p.b by omega), Bool.true_and]
  unfold fitB at h1 ⊢
  rw [List.all_cons, h1, Bool.and_true, decide_eq_true_eq]
  exact payN_length hm session obj id
theorem rows14_sum {p : Par} (hm : p.may) (session : Nat) (obj : List UInt8) (id : Nat) : zeroB (sumB p.b.toNat (rows14 p session obj id (blkN p session id).length)) = true := by
  unfold rows14
  rw [List.take_length, sumB_cons (payN_length hm session obj id)]
  show zeroB (xorL (payN p session obj id) (payN p session obj id)) = true
  rw [xor_self]
  exact zeroB_zero _
end Go.Proofs.Ytpkkaicpbihjfaa
/- Steps of a region that draws its order: appends. No condition. -/
set_option linter.unusedVariables false
namespace Go.Proofs.Ytpkkaicpbihjfaa
open Go.RowKit

theorem step_appInts2 {P : Program} {w : World} {ops : Array Oper} {o : Oper} {a : Act} {K : Act → World → Prop} {Q : Exit → Act → World → Prop} {E : Prop} (hgd : o.guard = none) (s x : Operand) (t : TypeId)
    (ho : o.op = .call { callee := .builtin .append, args := #[s, x], argTypes := #[t, t] }) (base : Nat) (e : TypeId) (k : IntKind) (bytes : Nat) (ht : P.underlying t = some (.slice e))
    (hi : (P.info? e).map (fun i => (i.zero, i.size, i.bytes)) = some (some (.int k 0), 1, bytes)) (v : Value) (ys : List Int) (hs : a.eval s = v) (hown : OwnInts w base k e v ys) (A : Option Addr) (c : Nat) (xs : List Int)
    (hx : a.eval x = .slice A xs.length c) (hA : A = none → c = 0) (hat : IntsAt w k A xs) (hb : (ys.length + xs.length) * bytes ≤ 140737488355328) (hm : ys.length + xs.length ≤ 140737488355328) (hbase : base ≤ w.heap.size)
    (h : ∀ A' c' w', OwnInts w' base k e (.slice A' (ys ++ xs).length c') (ys ++ xs) → w.grownBy w' v.ownBlock → K (a.put o.dst (.slice A' (ys ++ xs).length c')) w') :
    if Region.wanted o (yielded ops a.tmps) = true then Oper.wp P o a w K Q else E := by
  have hw : Region.wanted o (yielded ops a.tmps) = true := by simp [Region.wanted, hgd]
  rw [if_pos hw]
  obtain ⟨i, i1, i2, i3, i4⟩ := info_parts hi
  cases A with
  | none =>
    have hn : xs = [] := by
      rcases Nat.eq_zero_or_pos xs.length with h0 | h0
      · exact List.length_eq_zero_iff.1 h0
      · obtain ⟨b, off, e, _⟩ := hat.get h0; cases e
    subst hn
    rw [hA rfl] at hx
    have hrun := run_append_owned_none (P := P) (w := w) base t o.type e i 1 ht i1 v ys.length _ hown
    unfold Oper.wp
    simp [execOp, ho, resolve, invoke, builtin, hs, hx, hrun, Result.andThen]
    obtain ⟨A', c', e', _⟩ := hown.reads
    have := h A' c' w (by rw [List.append_nil, ← e']; exact hown) ⟨rfl, rfl, rfl, Nat.le_refl _, fun _ _ _ => rfl⟩
    rw [List.append_nil, ← e'] at this
    exact this
  | some ad =>
    refine wp_append_own w s x t ho base e i (.int k 0) 1 bytes ht i1 i2 i3 i4 rfl (by decide) v ys.length (ys.map (Value.int k)) hs hown ad xs.length c (xs.map (Value.int k)) hx (by simp) ?_ (ints_oneCell k xs) (by unfold maxLen; omega) hb hbase ?_
    · intro j u hu
      rw [List.getElem?_map] at hu
      obtain ⟨y, hy, rfl⟩ := Option.map_eq_some_iff.1 hu
      obtain ⟨hj, hyj⟩ := List.getElem?_eq_some_iff.1 hy
      obtain ⟨b, off, e, hc⟩ := hat.get (by omega)
      cases e
      have := hc j hj
      rw [gi_eq xs j hj, hyj] at this
      unfold Addr.add
      split
      · rename_i e0; subst e0; simpa using this
      · exact this
    · intro v' w' h1 h2 h3
      have hO : OwnInts w' base k e v' (ys ++ xs) := by unfold OwnInts; simpa using h1
      obtain ⟨A', c', e', _⟩ := hO.reads
      subst e'
      exact h A' c' w' hO h2
theorem step_app1V2 {P : Program} {w : World} {ops : Array Oper} {o : Oper} {a : Act} {K : Act → World → Prop} {Q : Exit → Act → World → Prop} {E : Prop} (hgd : o.guard = none) (s x : Operand) (t : TypeId)
    (ho : o.op = .call { callee := .builtin .append, args := #[s, x], argTypes := #[t, t] }) (base : Nat) (e : TypeId) (z : Value) (bytes : Nat) (ht : P.underlying t = some (.slice e))
    (hi : (P.info? e).map (fun i => (i.zero, i.size, i.bytes)) = some (some z, 1, bytes)) (hz : z.cells.size = 1) (v : Value) (n : Nat) (xs : List Value) (hs : a.eval s = v) (hown : w.ownsRow base e 1 v n xs) (bx c : Nat) (y : Value) (hy : y.oneCell' = true)
    (hx : a.eval x = .slice (some ⟨bx, 0, none⟩) 1 c) (hcell : w.cell? ⟨bx, 0, none⟩ = some y) (hb : (n + 1) * bytes ≤ 140737488355328) (hm : n + 1 ≤ 140737488355328) (hbase : base ≤ w.heap.size)
    (h : ∀ g cap w', w'.ownsRow base e 1 (.slice (some ⟨g, 0, none⟩) (n + 1) cap) (n + 1) (xs ++ [y]) → w.grownBy w' v.ownBlock → (v.ownBlock = some g ∨ g = w.heap.size) → K (a.put o.dst (.slice (some ⟨g, 0, none⟩) (n + 1) cap)) w') :
    if Region.wanted o (yielded ops a.tmps) = true then Oper.wp P o a w K Q else E := by
  obtain ⟨i, i1, i2, i3, i4⟩ := info_parts hi
  refine step_append_lies (H := w.heap.size) (hH := rfl) (w := w) hgd s x t ho base e i z 1 bytes ht i1 i2 i3 i4 hz (by decide) v n xs hs hown ⟨bx, 0, none⟩ 1 c [y] hx rfl ?_ ?_ (by omega) (by unfold maxLen; omega) hb hbase ?_
  · intro j u hu
    cases j with
    | zero => simp at hu; subst hu; exact hcell
    | succ j => simp at hu
  · intro u hu; simp at hu; subst hu; exact hy
  · intro g cap w' h1 h2 h3 _
    exact h g cap w' h1 h2 h3
end Go.Proofs.Ytpkkaicpbihjfaa
/- Lists of equations of the call's own. No condition. -/
set_option linter.unusedVariables false
namespace Go.Proofs.Ytpkkaicpbihjfaa
open Go.RowKit

theorem info_eqn : (Try.prog.info? 75).map (fun i => (i.zero, i.size, i.bytes)) = some (some (.agg #[.slice none 0 0, .slice none 0 0]), 2, 48) := by kernel_rfl
theorem Keeps.sizeN {w w' : World} (h : Keeps NoB w w') : w.heap.size ≤ w'.heap.size := h.size
theorem EqsIn.kept {R : Nat → Prop} {w w1 : World} {A : Option Addr} {es : List EqV} (h : EqsIn R w A es) (hk : Keeps NoB w w1) : EqsIn R w1 A es := h.keeps hk (fun _ _ h => h)
/-- The two cells of an equation. -/
def PairIn (R : Nat → Prop) (w : World) (u1 u2 : Value) (e : EqV) : Prop := NumsIn R w u1 e.of ∧ RowIn R w u2 e.val
theorem PairIn.keeps {R S : Nat → Prop} {w w1 : World} {u1 u2 : Value} {e : EqV} (h : PairIn R w u1 u2 e) (hk : Keeps S w w1) (hn : ∀ b, R b → ¬ S b) : PairIn R w1 u1 u2 e := ⟨h.1.keeps hk hn, h.2.keeps hk hn⟩
theorem PairIn.kept {R : Nat → Prop} {w w1 : World} {u1 u2 : Value} {e : EqV} (h : PairIn R w u1 u2 e) (hk : Keeps NoB w w1) : PairIn R w1 u1 u2 e := h.keeps hk (fun _ _ h => h)
theorem PairIn.mono {R R' : Nat → Prop} {w : World} {u1 u2 : Value} {e : EqV} (h : PairIn R w u1 u2 e) (hr : ∀ b, b < w.heap.size → R b → R' b) : PairIn R' w u1 u2 e := ⟨h.1.mono hr, h.2.mono hr⟩
theorem PairIn.ones {R : Nat → Prop} {w : World} {u1 u2 : Value} {e : EqV} (h : PairIn R w u1 u2 e) : u1.oneCell' = true ∧ u2.oneCell' = true := by
  obtain ⟨⟨_, _, rfl, _⟩, ⟨_, _, rfl, _⟩⟩ := h
  exact ⟨rfl, rfl⟩
/-- Cells, two for each equation. -/
def PairsIn (R : Nat → Prop) (w : World) (us : List Value) (es : List EqV) : Prop := us.length = es.length * 2 ∧ ∀ j, j < es.length → ∃ u1 u2, us[j * 2]? = some u1 ∧ us[j * 2 + 1]? = some u2 ∧ PairIn R w u1 u2 (ge es j)
theorem PairsIn.keeps {R S : Nat → Prop} {w w1 : World} {us : List Value} {es : List EqV} (h : PairsIn R w us es) (hk : Keeps S w w1) (hn : ∀ b, R b → ¬ S b) : PairsIn R w1 us es := ⟨h.1, fun j hj => by
  obtain ⟨u1, u2, h1, h2, h3⟩ := h.2 j hj
  exact ⟨u1, u2, h1, h2, h3.keeps hk hn⟩⟩
theorem PairsIn.mono {R R' : Nat → Prop} {w : World} {us : List Value} {es : List EqV} (h : PairsIn R w us es) (hr : ∀ b, b < w.heap.size → R b → R' b) : PairsIn R' w us es := ⟨h.1, fun j hj => by
  obtain ⟨u1, u2, h1, h2, h3⟩ := h.2 j hj
  exact ⟨u1, u2, h1, h2, h3.mono hr⟩⟩
theorem ge_append_left (es fs : List EqV) (j : Nat) (h : j < es.length) : ge (es ++ fs) j = ge es j := by unfold ge; rw [List.getD_eq_getElem?_getD, List.getD_eq_getElem?_getD, List.getElem?_append_left h]
theorem ge_append_right (es fs : List EqV) (j : Nat) (h : es.length ≤ j) : ge (es ++ fs) j = ge fs (j - es.length) := by unfold ge; rw [List.getD_eq_getElem?_getD, List.getD_eq_getElem?_getD, List.getElem?_append_right h]
theorem PairsIn.append {R : Nat → Prop} {w : World} {us vs : List Value} {es fs : List EqV} (h : PairsIn R w us es) (k : PairsIn R w vs fs) : PairsIn R w (us ++ vs) (es ++ fs) := by
  refine ⟨by rw [List.length_append, List.length_append, h.1, k.1]; omega, fun j hj => ?_⟩
  rw [List.length_append] at hj
  rcases Nat.lt_or_ge j es.length with h1 | h1
  · obtain ⟨u1, u2, e1, e2, e3⟩ := h.2 j h1
    refine ⟨u1, u2, ?_, ?_, by rw [ge_append_left es fs j h1]; exact e3⟩
    · rw [List.getElem?_append_left (by rw [h.1]; omega)]; exact e1
    · rw [List.getElem?_append_left (by rw [h.1]; omega)]; exact e2
  · obtain ⟨u1, u2, e1, e2, e3⟩ := k.2 (j - es.length) (by omega)
    refine ⟨u1, u2, ?_, ?_, by rw [ge_append_right es fs j h1]; exact e3⟩
    · rw [List.getElem?_append_right (by rw [h.1]; omega), h.1, show j * 2 - es.length * 2 = (j - es.length) * 2 by omega]; exact e1
    · rw [List.getElem?_append_right (by rw [h.1]; omega), h.1, show j * 2 + 1 - es.length * 2 = (j - es.length) * 2 + 1 by omega]; exact e2
theorem PairsIn.one {R : Nat → Prop} {w : World} {u1 u2 : Value} {e : EqV} (h : PairIn R w u1 u2 e) : PairsIn R w [u1, u2] [e] := ⟨rfl, fun j hj => by
  obtain rfl : j = 0 := by simpa using hj
  exact ⟨u1, u2, rfl, rfl, h⟩⟩
/-- The cells of equations that are read. -/
theorem EqsIn.cells {R : Nat → Prop} {w : World} {b off : Nat} {es : List EqV} (h : EqsIn R w (some ⟨b, off, none⟩) es) : ∃ us, PairsIn R w us es ∧ (∀ (j : Nat) (u : Value), us[j]? = some u → w.cell? ⟨b, off + j, none⟩ = some u) ∧ ∀ u ∈ us, u.oneCell' = true := by
  rcases Nat.eq_zero_or_pos es.length with h0 | h0
  · obtain rfl : es = [] := List.length_eq_zero_iff.1 h0
    exact ⟨[], ⟨rfl, fun j hj => by simp at hj⟩, fun j u hj => by simp at hj, fun u hu => by simp at hu⟩
  · obtain ⟨b', off', e, _, hc⟩ := h.2 h0
    injection e with e; injection e with e1 e2 _
    subst e1 e2
    have key : ∀ i, i < es.length * 2 → ∃ u, w.cell? ⟨b, off + i, none⟩ = some u ∧ u.oneCell' = true := by
      intro i hi
      obtain ⟨u1, u2, h1, h2, h3, h4⟩ := hc (i / 2) (by omega)
      have ho := PairIn.ones ⟨h3, h4⟩
      rcases Nat.mod_two_eq_zero_or_one i with hm | hm
      · exact ⟨u1, by rw [show off + i = off + i / 2 * 2 by omega]; exact h1, ho.1⟩
      · exact ⟨u2, by rw [show off + i = off + i / 2 * 2 + 1 by omega]; exact h2, ho.2⟩
    refine ⟨(List.range (es.length * 2)).map fun i => (w.cell? ⟨b, off + i, none⟩).getD undef, ⟨by simp, fun j hj => ?_⟩, fun j u hj => ?_, fun u hu => ?_⟩
    · obtain ⟨u1, u2, h1, h2, h3, h4⟩ := hc j hj
      refine ⟨u1, u2, ?_, ?_, h3, h4⟩
      · rw [List.getElem?_map, List.getElem?_range (by omega)]; simp [h1]
      · rw [List.getElem?_map, List.getElem?_range (by omega)]; simp only [Option.map_some, ← Nat.add_assoc, h2, Option.getD_some]
    · rw [List.getElem?_map] at hj
      obtain ⟨i, hi, rfl⟩ := Option.map_eq_some_iff.1 hj
      obtain ⟨hlt, rfl⟩ := List.getElem?_eq_some_iff.1 hi
      simp only [List.length_range] at hlt
      simp only [List.getElem_range]
      obtain ⟨u, hu, _⟩ := key j hlt
      rw [hu]; rfl
    · obtain ⟨i, hi, rfl⟩ := List.mem_map.1 hu
      obtain ⟨u, hu, ho⟩ := key i (List.mem_range.1 hi)
      rw [hu]; exact ho
/-- Equations that are read at an address, wherever that lies. -/
def CellsE (R : Nat → Prop) (w : World) (A : Option Addr) (es : List EqV) : Prop := es = [] ∨ ∃ b off us, A = some ⟨b, off, none⟩ ∧ PairsIn R w us es ∧ (∀ (j : Nat) (u : Value), us[j]? = some u → w.cell? ⟨b, off + j, none⟩ = some u) ∧ ∀ u ∈ us, u.oneCell' = true
theorem EqsIn.cellsE {R : Nat → Prop} {w : World} {A : Option Addr} {es : List EqV} (h : EqsIn R w A es) : CellsE R w A es := by
  rcases Nat.eq_zero_or_pos es.length with h0 | h0
  · exact .inl (List.length_eq_zero_iff.1 h0)
  · obtain ⟨b, off, e, _, _⟩ := h.2 h0
    subst e
    obtain ⟨us, h1, h2, h3⟩ := h.cells
    exact .inr ⟨b, off, us, rfl, h1, h2, h3⟩
theorem CellsE.one {R : Nat → Prop} {w : World} {u1 u2 : Value} {e : EqV} {T : TypeId} (h : PairIn R w u1 u2 e) : CellsE R (w.alloc (.cells #[u1, u2] T)) (some ⟨w.heap.size, 0, none⟩) [e] := by
  have hb := box_two w u1 u2 T
  refine .inr ⟨w.heap.size, 0, [u1, u2], rfl, PairsIn.one (h.keeps ((Keeps.refl NoB w).alloc _) (fun _ _ h => h)), fun j u hj => ?_, fun u hu => ?_⟩
  · match j, hj with
    | 0, hj => simp at hj; subst hj; exact hb.1
    | 1, hj => simp at hj; subst hj; exact hb.2
  · rcases List.mem_cons.1 hu with e1 | hu
    · rw [e1]; exact h.ones.1
    · rw [List.mem_singleton.1 hu]; exact h.ones.2
theorem CellsE.keeps {R S : Nat → Prop} {w w1 : World} {b off : Nat} {es : List EqV} (h : CellsE R w (some ⟨b, off, none⟩) es) (hk : Keeps S w w1) (hn : ∀ b, R b → ¬ S b) (hb : ¬ S b) : CellsE R w1 (some ⟨b, off, none⟩) es := by
  rcases h with h | ⟨b', off', us, e, h1, h2, h3⟩
  · exact .inl h
  · injection e with e; injection e with e1 e2 _
    subst e1 e2
    exact .inr ⟨b, off, us, rfl, h1.keeps hk hn, fun j u hj => hk.cell (h2 j u hj) hb, h3⟩
/-- Equations of the call's own. -/
def OwnEqs (R : Nat → Prop) (w : World) (base : Nat) (v : Value) (es : List EqV) : Prop := ∃ us, w.ownsRow base 75 2 v es.length us ∧ PairsIn (fun b => R b ∧ v.ownBlock ≠ some b) w us es
theorem OwnEqs.keeps {R S : Nat → Prop} {w w1 : World} {base : Nat} {v : Value} {es : List EqV} (h : OwnEqs R w base v es) (hk : Keeps S w w1) (hR : ∀ b, R b → ¬ S b) (hv : ∀ b, v.ownBlock = some b → ¬ S b) : OwnEqs R w1 base v es := by
  obtain ⟨us, h1, h2⟩ := h
  refine ⟨us, ⟨h1.1, ?_⟩, h2.keeps hk (fun b hb => hR b hb.1)⟩
  rcases h1.2 with h3 | ⟨g, cap, cur, rfl, hg, hh, r⟩
  · exact .inl h3
  · exact .inr ⟨g, cap, cur, rfl, hg, hk.heap hh (hv g (by simp [Value.ownBlock])), r⟩
theorem OwnEqs.kept {R : Nat → Prop} {w w1 : World} {base : Nat} {v : Value} {es : List EqV} (h : OwnEqs R w base v es) (hk : Keeps NoB w w1) : OwnEqs R w1 base v es := h.keeps hk (fun _ _ h => h) (fun _ _ h => h)
theorem OwnEqs.nil (R : Nat → Prop) (w : World) (base : Nat) : OwnEqs R w base (.slice none 0 0) [] := ⟨[], World.ownsRow_nil w base _ 2, rfl, fun j hj => by simp at hj⟩
theorem OwnEqs.base_le {R : Nat → Prop} {w : World} {base : Nat} {v : Value} {es : List EqV} (h : OwnEqs R w base v es) (b : Nat) (hb : v.ownBlock = some b) : base ≤ b ∧ b < w.heap.size := by
  obtain ⟨us, h1, _⟩ := h
  exact World.ownsRow.lt h1 b hb
theorem OwnEqs.reads {R : Nat → Prop} {w : World} {base : Nat} {v : Value} {es : List EqV} (h : OwnEqs R w base v es) (hm : es.length ≤ 4611686018427387903) : ∃ A c, v = .slice A es.length c ∧ es.length ≤ c ∧ (A = none → c = 0) ∧ EqsIn (fun b => R b ∨ v.ownBlock = some b) w A es := by
  obtain ⟨us, h1, h2⟩ := h
  rcases h1.2 with ⟨rfl, h0⟩ | ⟨g, cap, cur, rfl, hg, hh, h3, h4, h5, h6⟩
  · exact ⟨none, 0, by rw [h0], by omega, fun _ => rfl, hm, fun h => by omega⟩
  · refine ⟨_, cap, rfl, h3, (fun e => by cases e), hm, fun h0 => ⟨g, 0, rfl, .inr rfl, fun j hj => ?_⟩⟩
    obtain ⟨u1, u2, e1, e2, e3⟩ := h2.2 j hj
    have hc := fun (i : Nat) (u : Value) (hu : us[i]? = some u) => World.ownsRow.cells (show w.ownsRow base 75 2 _ es.length us from h1) (g := g) (by simp [Value.ownBlock]) i u hu
    have hadd : ∀ i : Nat, (⟨g, 0, none⟩ : Addr).add i = ⟨g, 0 + i, none⟩ := fun i => by
      unfold Addr.add; split
      · rename_i e0; subst e0; rfl
      · rfl
    refine ⟨u1, u2, ?_, ?_, (e3.mono (fun b _ hb => .inl hb.1)).1, (e3.mono (fun b _ hb => .inl hb.1)).2⟩
    · have := hc _ _ e1; rwa [hadd] at this
    · have := hc _ _ e2; rwa [hadd, ← Nat.add_assoc] at this
theorem OwnEqs.eqs {R : Nat → Prop} {w : World} {base n c : Nat} {A : Option Addr} {es : List EqV} (h : OwnEqs R w base (.slice A n c) es) (hm : es.length ≤ 4611686018427387903) : EqsIn (fun _ => True) w A es := by
  obtain ⟨A', c', e, _, _, hq⟩ := h.reads hm
  injection e with e1 e2 e3
  subst e1
  exact hq.mono (fun _ _ _ => trivial)
theorem OwnEqs.mono {R R' : Nat → Prop} {w : World} {base : Nat} {v : Value} {es : List EqV} (h : OwnEqs R w base v es) (hr : ∀ b, b < w.heap.size → R b → R' b) : OwnEqs R' w base v es := by
  obtain ⟨us, h1, h2⟩ := h
  exact ⟨us, h1, h2.mono (fun b hb h => ⟨hr b hb h.1, h.2⟩)⟩
/-- '[]Equation{e}'. -/
theorem OwnEqs.one {R : Nat → Prop} {w : World} {base : Nat} {u1 u2 : Value} {e : EqV} (hb : base ≤ w.heap.size) (h : PairIn R w u1 u2 e) : OwnEqs R (w.alloc (.cells #[u1, u2] 75)) base (.slice (some ⟨w.heap.size, 0, none⟩) 1 1) [e] := by
  have h' : PairIn (fun b => R b ∧ b < w.heap.size) w u1 u2 e := h.mono (fun b h1 h2 => ⟨h2, h1⟩)
  refine ⟨[u1, u2], ⟨rfl, .inr ⟨w.heap.size, 1, #[u1, u2], rfl, hb, heap_alloc_new w _, Nat.le_refl _, by unfold maxLen; omega, rfl, rfl⟩⟩, PairsIn.one ((h'.keeps ((Keeps.refl NoB w).alloc _) (fun _ _ h => h)).mono (fun b _ hb => ⟨hb.1, fun e => ?_⟩))⟩
  have : w.heap.size = b := by simpa [Value.ownBlock] using e
  have := hb.2
  omega
theorem OwnEqs.oneAt {R : Nat → Prop} {w : World} {base n : Nat} {u1 u2 : Value} {e : EqV} (hn : w.heap.size = n) (hb : base ≤ w.heap.size) (h : PairIn R w u1 u2 e) : OwnEqs R (w.alloc (.cells #[u1, u2] 75)) base (.slice (some ⟨n, 0, none⟩) 1 1) [e] := by
  subst hn; exact OwnEqs.one hb h
theorem CellsE.oneAt {R : Nat → Prop} {w : World} {n : Nat} {u1 u2 : Value} {e : EqV} {T : TypeId} (hn : w.heap.size = n) (h : PairIn R w u1 u2 e) : CellsE R (w.alloc (.cells #[u1, u2] T)) (some ⟨n, 0, none⟩) [e] := by
  subst hn; exact CellsE.one h
theorem CellsE.kept {R : Nat → Prop} {w w1 : World} {b off : Nat} {es : List EqV} (h : CellsE R w (some ⟨b, off, none⟩) es) (hk : Keeps NoB w w1) : CellsE R w1 (some ⟨b, off, none⟩) es := h.keeps hk (fun _ _ h => h) (fun h => h)
theorem wp_append_at {P : Program} {w : World} {o : Oper} {a : Act} {K : Act → World → Prop} {Q : Exit → Act → World → Prop} (s x : Operand) (t : TypeId)
    (ho : o.op = .call { callee := .builtin .append, args := #[s, x], argTypes := #[t, t] })
    (base : Nat) (e : TypeId) (i : TypeInfo) (z : Value) (size bytes : Nat) (ht : P.underlying t = some (.slice e)) (hi : P.info? e = some i) (hz : i.zero = some z)
    (hsize : i.size = size) (hby : i.bytes = bytes) (hzs : z.cells.size = size) (hsz : 0 < size)
    (v : Value) (n : Nat) (xs : List Value) (hs : a.eval s = v) (hown : w.ownsRow base e size v n xs)
    (ad : Addr) (m c : Nat) (news : List Value) (hx : a.eval x = .slice (some ad) m c) (hl : news.length = m * size) (hnews : ∀ j u, news[j]? = some u → w.cell? (ad.add j) = some u) (h1 : ∀ u ∈ news, u.oneCell' = true)
    (h63 : n + m ≤ maxLen) (hbytes : (n + m) * bytes ≤ 140737488355328) (hbase : base ≤ w.heap.size)
    (h : ∀ v' w', w'.ownsRow base e size v' (n + m) (xs ++ news) → w.grownBy w' v.ownBlock → (v'.ownBlock = v.ownBlock ∨ v'.ownBlock = some w.heap.size) → K (a.put o.dst v') w') : o.wp P a w K Q := by
  obtain ⟨v', w', hr, h2, h3, _, h5⟩ := run_append_own_at (P := P) w base t o.type e i z size bytes ht hi hz hsize hby hzs hsz v n xs hown ad m c news hl hnews h1 h63 hbytes hbase
  unfold Oper.wp execOp
  simp only [ho, resolve, invoke, builtin, Sem.run_bind, Sem.run_pure, Result.andThen_ok, List.map_toArray, List.map_cons, List.map_nil, hs, hx, hr]
  exact h v' w' h2 h3 h5
/-- A block that lies by stays, and is none of the list's. -/
theorem zstep {W w' : World} {n : Nat} {o : Obj} {v v' : Value} (h : W.heap[n]? = some o) (hgr : W.grownBy w' v.ownBlock) (hne : ¬ some n = v.ownBlock) (hat : v'.ownBlock = v.ownBlock ∨ v'.ownBlock = some W.heap.size) : w'.heap[n]? = some o ∧ ¬ some n = v'.ownBlock := by
  refine ⟨(Keeps.ofGrown hgr).heap h hne, fun e => ?_⟩
  rcases hat with h1 | h1
  · exact hne (by rw [← h1]; exact e)
  · have h2 := lt_of_heap h
    have e2 := e.trans h1
    injection e2 with e2
    omega
theorem zuse {G : Prop} {W w' : World} {n : Nat} {o : Obj} {v v' : Value} (hgr : W.grownBy w' v.ownBlock) (hat : v'.ownBlock = v.ownBlock ∨ v'.ownBlock = some W.heap.size) (h : W.heap[n]? = some o) (hne : ¬ some n = v.ownBlock) (k : Hid (w'.heap[n]? = some o ∧ ¬ some n = v'.ownBlock) → G) : G := k (hid (zstep h hgr hne hat))
theorem zkeep {G : Prop} {W w' : World} {n : Nat} {o : Obj} (hk : Keeps NoB W w') (h : W.heap[n]? = some o) (k : Hid (w'.heap[n]? = some o) → G) : G := k (hid (hk.heap h (fun h => h)))
theorem free2 {w : World} {b : Nat} {cells : Array Value} {T : TypeId} (h : w.heap[b]? = some (.cells cells T (0, 0))) (j : Nat) : w.frozen? ⟨b, j, none⟩ = false := by simp [World.frozen?, h]
theorem size_two (w : World) (o p : Obj) : ((w.alloc o).alloc p).heap.size = w.heap.size + 2 := by simp
theorem IntsAt.setBox {w : World} {k : IntKind} {A : Option Addr} {xs : List Int} {b : Nat} {A0 A1 : Option Addr} {n0 c0 n1 c1 : Nat} {T : TypeId} {fr : Nat × Nat} (h : IntsAt w k A xs) (hb : w.heap[b]? = some (.cells #[.slice A0 n0 c0, .slice A1 n1 c1] T fr)) (x y : Value) : IntsAt ((w.setCell ⟨b, 0, none⟩ x).setCell ⟨b, 1, none⟩ y) k A xs := by
  refine h.keeps (((Keeps.refl (fun q => q = b) w).setCell (p := ⟨b, 0, none⟩) (fun _ => rfl) x).setCell (p := ⟨b, 1, none⟩) (fun _ => rfl) y) (fun b' off e h0 e1 => ?_)
  subst e1
  obtain ⟨b2, off2, e2, hc⟩ := h.get h0
  rw [e] at e2
  injection e2 with e2; injection e2 with e3 e4 _
  subst e3 e4
  have := hc 0 h0
  simp only [World.cell?, hb] at this
  match off, this with
  | 0, this => simp at this
  | 1, this => simp at this
  | n + 2, this => simp at this
theorem heapAt {w : World} {n : Nat} (hn : w.heap.size = n) (o : Obj) : (w.alloc o).heap[n]? = some o := by subst hn; exact heap_alloc_new w o
theorem heap_kept {w w1 : World} {n : Nat} {o : Obj} (h : w.heap[n]? = some o) (hk : Keeps NoB w w1) : w1.heap[n]? = some o := hk.heap h (fun h => h)
/-- 'append(v, l...)', what the equations are made of below the call's own memory. -/
theorem wp_appEqs {w : World} {o : Oper} {a : Act} {K : Act → World → Prop} {Q : Exit → Act → World → Prop} (s x : Operand) (t : TypeId) (R : Nat → Prop)
    (ho : o.op = .call { callee := .builtin .append, args := #[s, x], argTypes := #[t, t] }) (base : Nat) (ht : Try.prog.underlying t = some (.slice 75)) (v : Value) (es : List EqV) (hs : a.eval s = v) (hown : OwnEqs R w base v es) (hR : ∀ b, R b → b < base) (A : Option Addr) (m c : Nat) (fs : List EqV)
    (hx : a.eval x = .slice A m c) (hm : fs.length = m) (hA : A = none → c = 0) (hat : CellsE R w A fs) (n : Nat) (hn : es.length = n) (hb : n + m ≤ 1073741824) (hbase : base ≤ w.heap.size)
    (h : ∀ A' c' w', OwnEqs R w' base (.slice A' (n + m) c') (es ++ fs) → w.grownBy w' v.ownBlock → ((∀ i, some i = v.ownBlock → base ≤ i) ∧ ((Value.slice A' (n + m) c').ownBlock = v.ownBlock ∨ (Value.slice A' (n + m) c').ownBlock = some w.heap.size)) → K (a.put o.dst (.slice A' (n + m) c')) w') : o.wp Try.prog a w K Q := by
  subst hm hn
  obtain ⟨i, i1, i2, i3, i4⟩ := info_parts info_eqn
  have hlo : ∀ i, some i = v.ownBlock → base ≤ i := fun i e => (hown.base_le i e.symm).1
  obtain ⟨us, hus, hp⟩ := hown
  cases A with
  | none =>
    have hn : fs = [] := by
      rcases hat with h0 | ⟨b, off, us, e, _⟩
      · exact h0
      · cases e
    subst hn
    rw [hA rfl] at hx
    obtain ⟨A', c', e', _⟩ : ∃ A' c', v = .slice A' es.length c' ∧ True := by
      rcases hus.2 with ⟨rfl, h0⟩ | ⟨g, cap, cur, rfl, _⟩
      · exact ⟨none, 0, by rw [h0], trivial⟩
      · exact ⟨_, cap, rfl, trivial⟩
    subst e'
    have hrun := run_append_owned_none (P := Try.prog) (w := w) base t o.type 75 i 2 ht i1 _ es.length _ hus
    unfold Oper.wp
    simp [execOp, ho, resolve, invoke, builtin, hs, hx, hrun, Result.andThen]
    exact h A' c' w (by rw [List.append_nil]; exact ⟨us, hus, hp⟩) ⟨rfl, rfl, rfl, Nat.le_refl _, fun _ _ _ => rfl⟩ ⟨hlo, .inl rfl⟩
  | some ad =>
    rcases Nat.eq_zero_or_pos fs.length with h0 | h0
    · have hn : fs = [] := List.length_eq_zero_iff.1 h0
      subst hn
      refine wp_append_at s x t ho base 75 i _ 2 48 ht i1 i2 i3 i4 rfl (by decide) v es.length us hs hus ad 0 c [] hx rfl (fun j u hj => by simp at hj) (fun u hu => by simp at hu) (by unfold maxLen; omega) (by simp at hb ⊢; omega) hbase ?_
      intro v' w' h1 h2 hat
      rw [List.append_nil, Nat.add_zero] at h1
      obtain ⟨A', c', e', _⟩ : ∃ A' c', v' = .slice A' es.length c' ∧ True := by
        rcases h1.2 with ⟨rfl, h0⟩ | ⟨g, cap, cur, rfl, _⟩
        · exact ⟨none, 0, by rw [h0], trivial⟩
        · exact ⟨_, cap, rfl, trivial⟩
      subst e'
      refine h A' c' w' ⟨us, by rw [List.append_nil]; exact h1, ?_⟩ h2 ⟨hlo, hat⟩
      rw [List.append_nil]
      exact (hp.keeps (Keeps.ofGrown h2) (fun b hb e => hb.2 e.symm)).mono (fun b _ hb => ⟨hb.1, fun e => by have := (World.ownsRow.lt h1 b e).1; have := hR b hb.1; omega⟩)
    · obtain ⟨b, off, vs, e, hv, hcell, hone⟩ : ∃ b off us, some ad = some ⟨b, off, none⟩ ∧ PairsIn R w us fs ∧ (∀ (j : Nat) (u : Value), us[j]? = some u → w.cell? ⟨b, off + j, none⟩ = some u) ∧ ∀ u ∈ us, u.oneCell' = true := by
        rcases hat with e | h
        · rw [e] at h0; simp at h0
        · exact h
      injection e with e
      subst e
      refine wp_append_at s x t ho base 75 i _ 2 48 ht i1 i2 i3 i4 rfl (by decide) v es.length us hs hus ⟨b, off, none⟩ fs.length c vs hx hv.1 (fun j u hj => ?_) hone (by unfold maxLen; omega) (by omega) hbase ?_
      · have := hcell j u hj
        unfold Addr.add; split
        · rename_i e0; subst e0; simpa using this
        · exact this
      · intro v' w' h1 h2 hat
        obtain ⟨A', c', e', _⟩ : ∃ A' c', v' = .slice A' (es.length + fs.length) c' ∧ True := by
          rcases h1.2 with ⟨rfl, h0⟩ | ⟨g, cap, cur, rfl, _⟩
          · exact ⟨none, 0, by rw [h0], trivial⟩
          · exact ⟨_, cap, rfl, trivial⟩
        subst e'
        refine h A' c' w' ⟨us ++ vs, by rw [List.length_append]; exact h1, ?_⟩ h2 ⟨hlo, hat⟩
        have e1 : PairsIn R w' us es := (hp.keeps (Keeps.ofGrown h2) (fun b hb e => hb.2 e.symm)).mono (fun b _ hb => hb.1)
        have e2 : PairsIn R w' vs fs := hv.keeps (Keeps.ofGrown h2) (fun b hb e => by have := (World.ownsRow.lt hus b e.symm).1; have := hR b hb; omega)
        exact (e1.append e2).mono (fun b _ hb => ⟨hb, fun e => by have := (World.ownsRow.lt h1 b e).1; have := hR b hb; omega⟩)
theorem wpList_appEqs {w : World} {ops : Array Oper} {rest : List Oper} {o : Oper} {a : Act} {Q : Exit → Act → World → Prop} (hgd : o.guard = none) (s x : Operand) (t : TypeId) (R : Nat → Prop)
    (ho : o.op = .call { callee := .builtin .append, args := #[s, x], argTypes := #[t, t] }) (base : Nat) (ht : Try.prog.underlying t = some (.slice 75)) (v : Value) (es : List EqV) (hs : a.eval s = v) (hown : OwnEqs R w base v es) (hR : ∀ b, R b → b < base) (A : Option Addr) (m c : Nat) (fs : List EqV)
    (hx : a.eval x = .slice A m c) (hm : fs.length = m) (hA : A = none → c = 0) (hat : CellsE R w A fs) (n : Nat) (hn : es.length = n) (hb : n + m ≤ 1073741824) (hbase : base ≤ w.heap.size)
    (h : ∀ A' c' w', OwnEqs R w' base (.slice A' (n + m) c') (es ++ fs) → w.grownBy w' v.ownBlock → ((∀ i, some i = v.ownBlock → base ≤ i) ∧ ((Value.slice A' (n + m) c').ownBlock = v.ownBlock ∨ (Value.slice A' (n + m) c').ownBlock = some w.heap.size)) → wpList Try.prog ops Q rest (a.put o.dst (.slice A' (n + m) c')) w') : wpList Try.prog ops Q (o :: rest) a w :=
  wpList_plain hgd fun _ hK => wp_appEqs s x t R ho base ht v es hs hown hR A m c fs hx hm hA hat n hn hb hbase fun A' c' w' h2 h3 h4 => hK _ _ (h A' c' w' h2 h3 h4)
theorem step_appEqs {w : World} {ops : Array Oper} {o : Oper} {a : Act} {K : Act → World → Prop} {Q : Exit → Act → World → Prop} {E : Prop} (hgd : o.guard = none) (s x : Operand) (t : TypeId) (R : Nat → Prop)
    (ho : o.op = .call { callee := .builtin .append, args := #[s, x], argTypes := #[t, t] }) (base : Nat) (ht : Try.prog.underlying t = some (.slice 75)) (v : Value) (es : List EqV) (hs : a.eval s = v) (hown : OwnEqs R w base v es) (hR : ∀ b, R b → b < base) (A : Option Addr) (m c : Nat) (fs : List EqV)
    (hx : a.eval x = .slice A m c) (hm : fs.length = m) (hA : A = none → c = 0) (hat : CellsE R w A fs) (n : Nat) (hn : es.length = n) (hb : n + m ≤ 1073741824) (hbase : base ≤ w.heap.size)
    (h : ∀ A' c' w', OwnEqs R w' base (.slice A' (n + m) c') (es ++ fs) → w.grownBy w' v.ownBlock → ((∀ i, some i = v.ownBlock → base ≤ i) ∧ ((Value.slice A' (n + m) c').ownBlock = v.ownBlock ∨ (Value.slice A' (n + m) c').ownBlock = some w.heap.size)) → K (a.put o.dst (.slice A' (n + m) c')) w') : if Region.wanted o (yielded ops a.tmps) = true then Oper.wp Try.prog o a w K Q else E := by
  have hw : Region.wanted o (yielded ops a.tmps) = true := by simp [Region.wanted, hgd]
  rw [if_pos hw]
  exact wp_appEqs s x t R ho base ht v es hs hown hR A m c fs hx hm hA hat n hn hb hbase h
theorem OwnInts.nums {w : World} {base : Nat} {e : TypeId} {v : Value} {xs : List Int} (h : OwnInts w base .i64 e v xs) : NumsIn (fun b => v.ownBlock = some b) w v xs := by
  rcases h.2 with ⟨rfl, h0⟩ | ⟨g, cap, cur, rfl, hb, hg, h1, h2, h3, h4⟩
  · have hl : xs = [] := List.length_eq_zero_iff.1 h0
    subst hl
    exact ⟨none, 0, rfl, Nat.le_refl _, fun _ => rfl, ⟨by simp, fun h => by simp at h⟩, fun b off e => by cases e⟩
  · obtain ⟨A, c, e', hc, hat⟩ := OwnInts.reads h
    injection e' with e1 e2 e3
    subst e1 e3
    exact ⟨_, cap, rfl, hc, (fun e => by cases e), hat, fun b off e h0 => by injection e with e; injection e with e _; subst e; rfl⟩
theorem ge_last (es : List EqV) (e : EqV) (k : Nat) (h : es.length = k) : ge (es ++ [e]) k = e := by
  rw [ge_append_right es [e] k (by omega), h, Nat.sub_self]; rfl
/-- 'append(v, e)', what e is made of the call's own, too. -/
theorem wpList_app1Eq {w : World} {ops : Array Oper} {rest : List Oper} {o : Oper} {a : Act} {Q : Exit → Act → World → Prop} (hgd : o.guard = none) (s x : Operand) (t : TypeId)
    (ho : o.op = .call { callee := .builtin .append, args := #[s, x], argTypes := #[t, t] }) (base : Nat) (ht : Try.prog.underlying t = some (.slice 75)) (v : Value) (es : List EqV) (hs : a.eval s = v) (hown : OwnEqs (fun _ => True) w base v es) (bx c : Nat) (u1 u2 : Value) (e : EqV)
    (hx : a.eval x = .slice (some ⟨bx, 0, none⟩) 1 c) (hc1 : w.cell? ⟨bx, 0, none⟩ = some u1) (hc2 : w.cell? ⟨bx, 1, none⟩ = some u2) (hp : PairIn (fun b => v.ownBlock ≠ some b) w u1 u2 e) (n : Nat) (hn : es.length = n) (hb : n + 1 ≤ 1073741824) (hbase : base ≤ w.heap.size)
    (h : ∀ A' c' w', OwnEqs (fun _ => True) w' base (.slice A' (n + 1) c') (es ++ [e]) → w.grownBy w' v.ownBlock → (∀ i, some i = v.ownBlock → base ≤ i) → wpList Try.prog ops Q rest (a.put o.dst (.slice A' (n + 1) c')) w') : wpList Try.prog ops Q (o :: rest) a w := by
  subst hn
  obtain ⟨i, i1, i2, i3, i4⟩ := info_parts info_eqn
  have hlo : ∀ i, some i = v.ownBlock → base ≤ i := fun i e => (hown.base_le i e.symm).1
  obtain ⟨us, hus, hpp⟩ := hown
  have hones := hp.ones
  refine wpList_plain hgd fun K hK => wp_append_at s x t ho base 75 i _ 2 48 ht i1 i2 i3 i4 rfl (by decide) v es.length us hs hus ⟨bx, 0, none⟩ 1 c [u1, u2] hx rfl (fun j u hj => ?_) (fun u hu => ?_) (by unfold maxLen; omega) (by omega) hbase ?_
  · match j, hj with
    | 0, hj => simp at hj; subst hj; exact hc1
    | 1, hj => simp at hj; subst hj; exact hc2
  · rcases List.mem_cons.1 hu with e1 | hu
    · rw [e1]; exact hones.1
    · rw [List.mem_singleton.1 hu]; exact hones.2
  · intro v' w' h1 h2 hat
    obtain ⟨A', c', e', _⟩ : ∃ A' c', v' = .slice A' (es.length + 1) c' ∧ True := by
      rcases h1.2 with ⟨rfl, h0⟩ | ⟨g, cap, cur, rfl, _⟩
      · omega
      · exact ⟨_, cap, rfl, trivial⟩
    subst e'
    refine hK _ _ (h A' c' w' ⟨us ++ [u1, u2], by rw [List.length_append]; exact h1, ?_⟩ h2 hlo)
    have key : ∀ (vs : List Value) (fs : List EqV), PairsIn (fun b => v.ownBlock ≠ some b) w vs fs → PairsIn (fun b => True ∧ (Value.slice A' (es.length + 1) c').ownBlock ≠ some b) w' vs fs := fun vs fs hv => by
      have h5 : PairsIn (fun b => v.ownBlock ≠ some b ∧ b < w.heap.size) w vs fs := hv.mono (fun b h1 h2 => ⟨h2, h1⟩)
      refine (h5.keeps (Keeps.ofGrown h2) (fun b hb e => hb.1 e.symm)).mono (fun b _ hb => ⟨trivial, fun e => ?_⟩)
      rcases hat with h6 | h6
      · exact hb.1 (by rw [← h6]; exact e)
      · have e7 := e.symm.trans h6
        injection e7 with e7
        have := hb.2
        omega
    exact (key us es (hpp.mono (fun b _ hb => hb.2))).append (key [u1, u2] [e] (PairsIn.one hp))
end Go.Proofs.Ytpkkaicpbihjfaa
/- Lists of lists of bytes, more of them. No condition. -/
set_option linter.unusedVariables false
namespace Go.Proofs.Ytpkkaicpbihjfaa
open Go.RowKit

theorem gr_cat (ls ms : List (List UInt8)) (j : Nat) : gr (ls ++ ms) j = if j < ls.length then gr ls j else gr ms (j - ls.length) := by
  unfold gr
  rw [List.getD_eq_getElem?_getD, List.getD_eq_getElem?_getD, List.getD_eq_getElem?_getD]
  split
  · rename_i h; rw [List.getElem?_append_left h]
  · rename_i h; rw [List.getElem?_append_right (by omega)]
theorem RowIn.one {R : Nat → Prop} {w : World} {u : Value} {l : List UInt8} (h : RowIn R w u l) : u.oneCell' = true := by
  obtain ⟨A, c, rfl, _⟩ := h; rfl
/-- More of them. -/
theorem wp_appRowsB {w : World} {o : Oper} {a : Act} {K : Act → World → Prop} {Q : Exit → Act → World → Prop} (s x : Operand) (t : TypeId) (R : Nat → Prop)
    (ho : o.op = .call { callee := .builtin .append, args := #[s, x], argTypes := #[t, t] }) (base : Nat) (ht : Try.prog.underlying t = some (.slice 25)) (v : Value) (ls : List (List UInt8)) (hs : a.eval s = v) (h : OwnRows R w base v ls)
    (A : Option Addr) (c : Nat) (ms : List (List UInt8)) (news : List Value) (hx : a.eval x = .slice A ms.length c) (hA : A = none → c = 0 ∧ ms = []) (hl : news.length = ms.length) (hc : ∀ ad, A = some ad → ∀ (j : Nat) (u : Value), news[j]? = some u → w.cell? (ad.add j) = some u)
    (hin : ∀ (j : Nat) (u : Value), news[j]? = some u → RowIn (fun b => R b ∧ v.ownBlock ≠ some b) w u (gr ms j)) (hm : ls.length + ms.length ≤ 1000000000) (hbase : base ≤ w.heap.size)
    (hK : ∀ v' w', OwnRows R w' base v' (ls ++ ms) → w.grownBy w' v.ownBlock → (v'.ownBlock = v.ownBlock ∨ v'.ownBlock = some w.heap.size) → K (a.put o.dst v') w') : o.wp Try.prog a w K Q := by
  obtain ⟨i, i1, i2, i3, i4⟩ := info_parts info_bytes
  cases A with
  | none =>
    obtain ⟨rfl, rfl⟩ := hA rfl
    have hrun := run_append_owned_none (P := Try.prog) (w := w) base t o.type 25 i 1 ht i1 v ls.length _ h.choose_spec.2.1
    have := hK v w (by rw [List.append_nil]; exact h) ⟨rfl, rfl, rfl, Nat.le_refl _, fun _ _ _ => rfl⟩ (.inl rfl)
    unfold Oper.wp
    simp [execOp, ho, resolve, invoke, builtin, hs, hx, hrun, Result.andThen]
    exact this
  | some ad =>
    obtain ⟨us, hul, hown, hr⟩ := h
    refine wp_append_at s x t ho base 25 i (.slice none 0 0) 1 24 ht i1 i2 i3 i4 rfl (by decide) v ls.length us hs hown ad ms.length c news hx (by omega) (hc ad rfl) (fun u hu => ?_) (by unfold maxLen; omega) (by omega) hbase ?_
    · obtain ⟨j, hj, rfl⟩ := List.getElem_of_mem hu
      exact (hin j _ (List.getElem?_eq_getElem hj)).one
    · intro v' w' h1 h2 h4
      refine hK v' w' ⟨us ++ news, by simp [hul, hl], by rw [List.length_append]; exact h1, fun j u hu => ?_⟩ h2 h4
      have key : ∀ (y : Value) (l : List UInt8), RowIn (fun b => R b ∧ v.ownBlock ≠ some b) w y l → RowIn (fun b => R b ∧ v'.ownBlock ≠ some b) w' y l := fun y l hy => by
        have hlt : RowIn (fun b => (R b ∧ v.ownBlock ≠ some b) ∧ b < w.heap.size) w y l := hy.mono (fun b h1 h2 => ⟨h2, h1⟩)
        refine (hlt.keeps (Keeps.ofGrown h2) (fun b hb e => hb.1.2 e.symm)).mono (fun b _ hb => ⟨hb.1.1, fun e => ?_⟩)
        rcases h4 with h5 | h5
        · exact hb.1.2 (h5.symm.trans e)
        · have := h5.symm.trans e
          injection this with this
          have := hb.2
          omega
      rw [gr_cat]
      by_cases hj : j < us.length
      · rw [List.getElem?_append_left hj] at hu
        rw [if_pos (by omega)]
        exact key u _ (hr j u hu)
      · rw [List.getElem?_append_right (by omega)] at hu
        rw [if_neg (by omega), ← hul]
        exact key u _ (hin _ u hu)
theorem wpList_appRowsBA {w : World} {ops : Array Oper} {rest : List Oper} {o : Oper} {a : Act} {Q : Exit → Act → World → Prop} (hgd : o.guard = none) (s x : Operand) (t : TypeId) (R : Nat → Prop)
    (ho : o.op = .call { callee := .builtin .append, args := #[s, x], argTypes := #[t, t] }) (base : Nat) (ht : Try.prog.underlying t = some (.slice 25)) (v : Value) (ls : List (List UInt8)) (hs : a.eval s = v) (h : OwnRows R w base v ls)
    (A : Option Addr) (c : Nat) (ms : List (List UInt8)) (news : List Value) (hx : a.eval x = .slice A ms.length c) (hA : A = none → c = 0 ∧ ms = []) (hl : news.length = ms.length) (hc : ∀ ad, A = some ad → ∀ (j : Nat) (u : Value), news[j]? = some u → w.cell? (ad.add j) = some u)
    (hin : ∀ (j : Nat) (u : Value), news[j]? = some u → RowIn (fun b => R b ∧ v.ownBlock ≠ some b) w u (gr ms j)) (hm : ls.length + ms.length ≤ 1000000000) (hbase : base ≤ w.heap.size)
    (hK : ∀ v' w', OwnRows R w' base v' (ls ++ ms) → w.grownBy w' v.ownBlock → (v'.ownBlock = v.ownBlock ∨ v'.ownBlock = some w.heap.size) → wpList Try.prog ops Q rest (a.put o.dst v') w') : wpList Try.prog ops Q (o :: rest) a w :=
  wpList_plain hgd fun K hK' => wp_appRowsB s x t R ho base ht v ls hs h A c ms news hx hA hl hc hin hm hbase (fun v' w' h1 h2 h3 => hK' _ _ (hK v' w' h1 h2 h3))
theorem step_appRowsB {w : World} {ops : Array Oper} {o : Oper} {a : Act} {K : Act → World → Prop} {Q : Exit → Act → World → Prop} {E : Prop} (hgd : o.guard = none) (s x : Operand) (t : TypeId) (R : Nat → Prop)
    (ho : o.op = .call { callee := .builtin .append, args := #[s, x], argTypes := #[t, t] }) (base : Nat) (ht : Try.prog.underlying t = some (.slice 25)) (v : Value) (ls : List (List UInt8)) (hs : a.eval s = v) (h : OwnRows R w base v ls)
    (A : Option Addr) (c : Nat) (ms : List (List UInt8)) (news : List Value) (hx : a.eval x = .slice A ms.length c) (hA : A = none → c = 0 ∧ ms = []) (hl : news.length = ms.length) (hc : ∀ ad, A = some ad → ∀ (j : Nat) (u : Value), news[j]? = some u → w.cell? (ad.add j) = some u)
    (hin : ∀ (j : Nat) (u : Value), news[j]? = some u → RowIn (fun b => R b ∧ v.ownBlock ≠ some b) w u (gr ms j)) (hm : ls.length + ms.length ≤ 1000000000) (hbase : base ≤ w.heap.size)
    (hK : ∀ v' w', OwnRows R w' base v' (ls ++ ms) → w.grownBy w' v.ownBlock → (v'.ownBlock = v.ownBlock ∨ v'.ownBlock = some w.heap.size) → K (a.put o.dst v') w') : if Region.wanted o (yielded ops a.tmps) = true then Oper.wp Try.prog o a w K Q else E := by
  have hw : Region.wanted o (yielded ops a.tmps) = true := by simp [Region.wanted, hgd]
  rw [if_pos hw]
  exact wp_appRowsB s x t R ho base ht v ls hs h A c ms news hx hA hl hc hin hm hbase hK
theorem wpList_appRowsB {w : World} {ops : Array Oper} {rest : List Oper} {o : Oper} {a : Act} {Q : Exit → Act → World → Prop} (hgd : o.guard = none) (s x : Operand) (t : TypeId) (R : Nat → Prop)
    (ho : o.op = .call { callee := .builtin .append, args := #[s, x], argTypes := #[t, t] }) (base : Nat) (ht : Try.prog.underlying t = some (.slice 25)) (v : Value) (ls : List (List UInt8)) (hs : a.eval s = v) (h : OwnRows R w base v ls)
    (ad : Addr) (c : Nat) (ms : List (List UInt8)) (news : List Value) (hx : a.eval x = .slice (some ad) ms.length c) (hl : news.length = ms.length) (hc : ∀ (j : Nat) (u : Value), news[j]? = some u → w.cell? (ad.add j) = some u)
    (hin : ∀ (j : Nat) (u : Value), news[j]? = some u → RowIn (fun b => R b ∧ v.ownBlock ≠ some b) w u (gr ms j)) (hm : ls.length + ms.length ≤ 1000000000) (hbase : base ≤ w.heap.size)
    (hK : ∀ v' w', OwnRows R w' base v' (ls ++ ms) → w.grownBy w' v.ownBlock → (v'.ownBlock = v.ownBlock ∨ v'.ownBlock = some w.heap.size) → wpList Try.prog ops Q rest (a.put o.dst v') w') : wpList Try.prog ops Q (o :: rest) a w :=
  wpList_appRowsBA hgd s x t R ho base ht v ls hs h (some ad) c ms news hx (fun e => by cases e) hl (fun ad' e => by cases e; exact hc) hin hm hbase hK
/-- One more, just laid. -/
theorem wpList_app1RowB {w : World} {ops : Array Oper} {rest : List Oper} {o : Oper} {a : Act} {Q : Exit → Act → World → Prop} (hgd : o.guard = none) (s x : Operand) (t : TypeId) (R : Nat → Prop)
    (ho : o.op = .call { callee := .builtin .append, args := #[s, x], argTypes := #[t, t] }) (base : Nat) (ht : Try.prog.underlying t = some (.slice 25)) (v : Value) (ls : List (List UInt8)) (hs : a.eval s = v) (h : OwnRows R w base v ls)
    (bx c : Nat) (u : Value) (l : List UInt8) (hx : a.eval x = .slice (some ⟨bx, 0, none⟩) 1 c) (hc : w.cell? ⟨bx, 0, none⟩ = some u) (hin : RowIn (fun b => R b ∧ v.ownBlock ≠ some b) w u l) (hm : ls.length + 1 ≤ 1000000000) (hbase : base ≤ w.heap.size)
    (hK : ∀ v' w', OwnRows R w' base v' (ls ++ [l]) → w.grownBy w' v.ownBlock → (v'.ownBlock = v.ownBlock ∨ v'.ownBlock = some w.heap.size) → wpList Try.prog ops Q rest (a.put o.dst v') w') : wpList Try.prog ops Q (o :: rest) a w := by
  refine wpList_appRowsB hgd s x t R ho base ht v ls hs h ⟨bx, 0, none⟩ c [l] [u] hx rfl (fun j y hy => ?_) (fun j y hy => ?_) hm hbase hK
  · cases j with
    | zero => simp at hy; subst hy; exact hc
    | succ j => simp at hy
  · cases j with
    | zero => simp at hy; subst hy; exact hin
    | succ j => simp at hy
theorem add_plainB (b off j : Nat) : Addr.add ⟨b, off, none⟩ j = ⟨b, off + j, none⟩ := by
  unfold Addr.add
  split
  · rename_i e0; subst e0; rfl
  · rfl
/-- Lists that are read, cell by cell. -/
theorem RowsIn.cellsB {R : Nat → Prop} {w : World} {A : Option Addr} {ms : List (List UInt8)} (h : RowsIn R w A ms) : ∃ news : List Value, news.length = ms.length ∧ (∀ ad, A = some ad → ∀ (j : Nat) (u : Value), news[j]? = some u → w.cell? (ad.add j) = some u) ∧ ∀ (j : Nat) (u : Value), news[j]? = some u → RowIn R w u (gr ms j) := by
  rcases Nat.eq_zero_or_pos ms.length with h0 | h0
  · exact ⟨[], by simp [h0], fun _ _ j u hu => by simp at hu, fun j u hu => by simp at hu⟩
  · obtain ⟨b, off, rfl, _, hc⟩ := h.2 h0
    have f := fun j => Classical.choose_spec (show ∃ u : Value, j < ms.length → w.cell? ⟨b, off + j, none⟩ = some u ∧ RowIn R w u (gr ms j) from by
      by_cases hj : j < ms.length
      · obtain ⟨u, hu⟩ := hc j hj
        exact ⟨u, fun _ => hu⟩
      · exact ⟨undef, fun h => absurd h hj⟩)
    refine ⟨(List.range ms.length).map (fun j => Classical.choose (show ∃ u : Value, j < ms.length → w.cell? ⟨b, off + j, none⟩ = some u ∧ RowIn R w u (gr ms j) from by
      by_cases hj : j < ms.length
      · obtain ⟨u, hu⟩ := hc j hj
        exact ⟨u, fun _ => hu⟩
      · exact ⟨undef, fun h => absurd h hj⟩)), by simp, fun ad e j u hu => ?_, fun j u hu => ?_⟩
    · cases e
      rw [List.getElem?_map] at hu
      obtain ⟨i, hi, rfl⟩ := Option.map_eq_some_iff.1 hu
      obtain ⟨hj, rfl⟩ := List.getElem?_eq_some_iff.1 hi
      rw [List.getElem_range]
      have := (f j (by simpa using hj)).1
      rw [show (Addr.add ⟨b, off, none⟩ j) = ⟨b, off + j, none⟩ from add_plainB b off j]
      exact this
    · rw [List.getElem?_map] at hu
      obtain ⟨i, hi, rfl⟩ := Option.map_eq_some_iff.1 hu
      obtain ⟨hj, rfl⟩ := List.getElem?_eq_some_iff.1 hi
      rw [List.getElem_range]
      exact (f j (by simpa using hj)).2
theorem OwnRows.formB {R : Nat → Prop} {w : World} {base : Nat} {v : Value} {ls : List (List UInt8)} (h : OwnRows R w base v ls) (h0 : 0 < ls.length) : ∃ g c, v = .slice (some ⟨g, 0, none⟩) ls.length c := by
  obtain ⟨us, hl, hown, hr⟩ := h
  rcases hown.2 with ⟨_, h1⟩ | ⟨g, cap, cur, e, _⟩
  · omega
  · exact ⟨g, cap, e⟩
theorem OwnRows.lit1 {R : Nat → Prop} {w : World} {base : Nat} {u : Value} {l : List UInt8} (h : RowIn R w u l) (hR : ∀ b, R b → b < w.heap.size) (hb : base ≤ w.heap.size) : OwnRows R (w.alloc (.cells #[u] 25)) base (.slice (some ⟨w.heap.size, 0, none⟩) 1 1) [l] := by
  refine ⟨[u], rfl, ⟨rfl, .inr ⟨w.heap.size, 1, #[u], rfl, hb, heap_alloc_new w _, Nat.le_refl _, by unfold maxLen; omega, rfl, rfl⟩⟩, fun j y hy => ?_⟩
  cases j with
  | zero =>
    simp at hy
    subst hy
    exact (h.keeps ((Keeps.refl NoB w).alloc _) (fun _ _ h => h)).mono (fun b _ hb => ⟨hb, fun e => by have := hR b hb; simp [Value.ownBlock] at e; omega⟩)
  | succ j => simp at hy
end Go.Proofs.Ytpkkaicpbihjfaa
/- Composite blocks of which one is turned, or one is missing, or there is one more: the plain law. Conditions: parameters that may be. -/
set_option linter.unusedVariables false
namespace Go.Proofs.Ytpkkaicpbihjfaa
open Go.RowKit

/-- A byte of a block that is turned. -/
def turnB (l : List UInt8) (at' : Nat) (by' : UInt8) : List UInt8 := l.set at' (gb l at' ^^^ by')
theorem turnB_length (l : List UInt8) (a : Nat) (x : UInt8) : (turnB l a x).length = l.length := by simp [turnB]
/-- The blocks, one of which is another. -/
def turnR (ls : List (List UInt8)) (k : Nat) (x : List UInt8) : List (List UInt8) := ls.set k x
theorem turnR_length (ls : List (List UInt8)) (k : Nat) (x : List UInt8) : (turnR ls k x).length = ls.length := by simp [turnR]
/-- What is made of the blocks by 'more'. -/
def moreR (ls : List (List UInt8)) (more : Int) (x : List UInt8) : List (List UInt8) := if more < 0 then ls.take (ls.length - 1) else if 0 < more then ls ++ [x] else ls
theorem compN_length (p : Par) (session : Nat) (o : List UInt8) : (compN p session o).length = p.n.toNat + (auxN p).toNat := by unfold compN; rw [compK_length]
theorem right_more {p : Par} (hm : p.may) (session : Nat) (obj : List UInt8) (k : Nat) (x : List UInt8) (more n : Int) (h : more ≠ 0) : rightB p session n (moreR (turnR (compN p session obj) k x) more x) = false := by
  refine rightB_false (fun hr => ?_)
  have hl := congrArg List.length hr.2.2.2
  rw [compN_length] at hl
  have hn : 1 ≤ p.n := hm.1
  unfold moreR at hl
  split at hl
  · rw [List.length_take, turnR_length, compN_length] at hl; omega
  · split at hl
    · rw [List.length_append, turnR_length, compN_length] at hl; simp at hl
    · omega
/-- Whether these are the blocks of the object that they would be of. -/
theorem right_same {p : Par} (hm : p.may) (session : Nat) (n : Int) (ls : List (List UInt8)) (hl : ls.length = p.n.toNat + (auxN p).toNat) (hf : fitB p.b.toNat ls = true) :
    rightB p session n ls = (decide (0 ≤ n) && decide (n ≤ p.n * p.b) && sameB ls (compN p session ((ls.take p.n.toNat).flatten.take n.toNat))) := by
  have hn : 1 ≤ p.n := hm.1
  have ht : (ls.take p.n.toNat).length = p.n.toNat := by rw [List.length_take]; omega
  have hft : fitB p.b.toNat (ls.take p.n.toNat) = true := by
    unfold fitB at hf ⊢
    rw [List.all_eq_true] at hf ⊢
    exact fun l h => hf l (List.mem_of_mem_take h)
  by_cases hr : RightOk p session n ls
  · rw [rightB_true hr]
    obtain ⟨_, _, ⟨_, h0, h1, _⟩, he⟩ := hr
    have hs : sameB ls (compN p session ((ls.take p.n.toNat).flatten.take n.toNat)) = true := decide_eq_true he
    rw [hs, decide_eq_true h0, decide_eq_true h1]; rfl
  · rw [rightB_false hr]
    by_cases h0 : 0 ≤ n
    · by_cases h1 : n ≤ p.n * p.b
      · have hs : sameB ls (compN p session ((ls.take p.n.toNat).flatten.take n.toNat)) = false := decide_eq_false (fun he => hr ⟨hm, by omega, ⟨by omega, h0, h1, hft⟩, he⟩)
        rw [hs]; simp
      · rw [decide_eq_false h1]; simp
    · rw [decide_eq_false h0]; simp
theorem comp_fitB {p : Par} (hm : p.may) (session : Nat) (obj : List UInt8) : fitB p.b.toNat (compN p session obj) = true := by
  unfold fitB
  rw [List.all_eq_true]
  intro l hl
  have := comp_fit hm session obj _ l hl
  simpa using this
theorem turn_fitB {p : Par} (hm : p.may) (session : Nat) (obj : List UInt8) (k : Nat) (x : List UInt8) (hx : x.length = p.b.toNat) : fitB p.b.toNat (turnR (compN p session obj) k x) = true := by
  have h := comp_fitB hm session obj
  unfold fitB turnR at *
  rw [List.all_eq_true] at h ⊢
  intro l hl
  rcases List.mem_or_eq_of_mem_set hl with h1 | h1
  · exact h l h1
  · subst h1; simpa using hx
end Go.Proofs.Ytpkkaicpbihjfaa
/- The composite blocks that are told: the walk of the law EmitBlocks. Conditions: numbers are of their kinds. -/
set_option linter.unusedVariables false
set_option linter.unusedSimpArgs false
namespace Go.Proofs.Ytpkkaicpbihjfaa
open Go.RowKit
attribute [local go_sem ↓] Go.wp_at_zero Go.wp_at_succ

theorem cmpN_at (ls : List (List UInt8)) (k : Nat) : cmpN ls (k : Int) = gr ls k := by
  unfold cmpN; rw [if_pos (by omega), Int.toNat_natCast]
set_option maxHeartbeats 2000000 in
set_option maxRecDepth 20000 in
theorem emitBlocks_walk (p : Par) (session : Nat) (obj : List UInt8) (A : Option Addr) (c : Nat) (ids : List Nat) (D : Option Addr) (d : Nat) (i : Int) (w : World) (hwf : p.wf) (hs : session < 18446744073709551616) (ho : BytesIn (fun _ => True) w A obj) (hcap : obj.length ≤ c) (hids : NatsAt w D ids) (hi : -9223372036854775808 ≤ i ∧ i ≤ 9223372036854775807) :
    Calls Try.prog 6 #[.agg #[.int .i64 p.n, .int .i64 p.b, .int .i64 p.q, .int .i64 p.eps, .int .i64 p.f, .int .u64 (session : Int), .slice A obj.length c, .slice D ids.length d], .int .i64 i] w fun e w' => e = .returned (.bool true) ∧ Keeps NoB w w' := by
  have hu := Try.underlying23
  have HO := hid ho
  have HWF := hid hwf
  have HI := hid hi
  have hlen := ho.len
  obtain ⟨L, hL⟩ : ∃ L, obj.length = L := ⟨_, rfl⟩
  obtain ⟨M, hM⟩ : ∃ M, ids.length = M := ⟨_, rfl⟩
  have HL := hid hL
  rw [hL] at hcap hlen ⊢
  rw [hM]
  clear ho hwf hids hL hM hi
  have hbox := hid (heap_alloc_new w (.cells #[.int .i64 p.n, .int .i64 p.b, .int .i64 p.q, .int .i64 p.eps, .int .i64 p.f, .int .u64 (session : Int), .slice A L c, .slice D M d] 45))
  have HKa := hid ((Keeps.refl NoB w).alloc (.cells #[.int .i64 p.n, .int .i64 p.b, .int .i64 p.q, .int .i64 p.eps, .int .i64 p.f, .int .u64 (session : Int), .slice A L c, .slice D M d] 45))
  obtain ⟨wa, hwa⟩ : ∃ wa, w.alloc (.cells #[.int .i64 p.n, .int .i64 p.b, .int .i64 p.q, .int .i64 p.eps, .int .i64 p.f, .int .u64 (session : Int), .slice A L c, .slice D M d] 45) = wa := ⟨_, rfl⟩
  rw [hwa] at hbox HKa
  obtain ⟨pb, hpb⟩ : ∃ pb, w.heap.size = pb := ⟨_, rfl⟩
  rw [hpb] at hbox
  go_enter Try.func6, Try.ntmps6
  go_wp2_with fail
  refine (speaks14_calls _).mono ?_
  rintro e w1 ⟨rfl, HK1⟩
  have hbx := hid (HK1.heap hbox.out (fun h => h))
  have HK1 := hid (HKa.out.fresh HK1)
  clear hbox HKa hwa hpb
  obtain ⟨b0, b1, b2, b3, b4, b5, b6, b7⟩ := cells8' hbx.out
  go_wp2_with fail
  have hlt := World.block_lt_of_cell? w1 _ b0
  go_region_held3 (fun w' => w'.cell? ⟨pb, 0, none⟩ = some (.int .i64 p.n) ∧ w'.cell? ⟨pb, 1, none⟩ = some (.int .i64 p.b) ∧ w'.cell? ⟨pb, 2, none⟩ = some (.int .i64 p.q) ∧ w'.cell? ⟨pb, 3, none⟩ = some (.int .i64 p.eps) ∧ w'.cell? ⟨pb, 4, none⟩ = some (.int .i64 p.f) ∧ w'.cell? ⟨pb, 5, none⟩ = some (.int .u64 (session : Int)) ∧ w'.cell? ⟨pb, 6, none⟩ = some (.slice A L c)) (go_keep) (fail)
  have HP3 := hid (((Keeps.refl NoB (w1.alloc (.cells #[.int .i64 p.n, .int .i64 p.b, .int .i64 p.q, .int .i64 p.eps, .int .i64 p.f] 23))).drew).heap (heap_alloc_new w1 (.cells #[.int .i64 p.n, .int .i64 p.b, .int .i64 p.q, .int .i64 p.eps, .int .i64 p.f] 23)) (fun h => h))
  have HK3 := hid (HK1.out.fresh ((Keeps.refl NoB w1).alloc (.cells #[.int .i64 p.n, .int .i64 p.b, .int .i64 p.q, .int .i64 p.eps, .int .i64 p.f] 23)).drew)
  generalize hw3 : (w1.alloc (.cells #[.int .i64 p.n, .int .i64 p.b, .int .i64 p.q, .int .i64 p.eps, .int .i64 p.f] 23)).drew = w3 at *
  obtain ⟨rb, hrb⟩ : ∃ rb, w1.heap.size = rb := ⟨_, rfl⟩
  rw [hrb] at HP3
  have HC5 := hid (fun (W : World) (hW : Keeps NoB w3 W) => cells5 (hW.heap HP3.out (fun h => h)))
  have HSM := hid (fun (W : World) => small_calls p A L c W hlen)
  unfold Par.val at HSM
  obtain ⟨r0, r1, r2, r3, r4⟩ := HC5.out w3 (Keeps.refl _ _)
  go_wp2_with fail
  refine (HSM.out _).mono ?_
  rintro e w4 ⟨rfl, HK4⟩
  have HK4 := hid HK4
  have HK34 := hid (HK3.out.fresh HK4.out)
  clear b0 b1 b2 b3 b4 b5 b6 b7 hlt hbx hw3 hrb r0 r1 r2 r3 r4 HSM
  obtain ⟨r0, r1, r2, r3, r4⟩ := HC5.out w4 HK4.out
  by_cases hsm : smallN p L = true
  · rw [hsm]
    obtain ⟨hm, hn60, hb60, hf200, hle⟩ := smallN_yes hsm
    have HN := hid (fun (W : World) (hW : Keeps NoB w4 W) => emitNew_yes p session obj A c (fun _ => True) W hm hs (HO.out.kept (HK34.out.fresh hW)) (by rw [HL.out]; exact hcap) (by rw [HL.out]; exact hle))
    rw [HL.out] at HN
    unfold Par.val at HN
    go_wp2_with fail
    refine (HN.out _ (Keeps.refl _ _)).mono ?_
    rintro e w5 ⟨en, rfl, hen, hk5⟩
    have HE := hid hen
    have HK5 := hid (HK34.out.fresh hk5)
    have HC := hid (fun (W : World) (hW : Keeps NoB w5 W) => HC5.out W (HK4.out.fresh (hk5.fresh hW)))
    clear hen hk5 r0 r1 r2 r3 r4 HC5 HN HK34 HK4 HK3 HP3
    have HRC := hid (fun (W : World) (hW : Keeps NoB w5 W) => rcomp_calls p session obj A c (fun _ => True) W hm hs (HO.out.kept (HK5.out.fresh hW)) hn60)
    rw [HL.out] at HRC
    unfold Par.val at HRC
    have HCM := hid (fun (j : Int) (W : World) (hW : Keeps NoB w5 W) => composite_calls en p session obj j W (HE.out.kept hW) hm)
    have HCR := hid (fun (k : Nat) (h : k < (compN p session obj).length) => fitB_at (comp_fitB hm session obj) k h)
    have HCO := hid (fun (j : Int) => cmpN_none (compN p session obj) j)
    obtain ⟨B, hB⟩ : ∃ B, p.b.toNat = B := ⟨_, rfl⟩
    have hB1 : 1 ≤ B := by have := hm.2.2.1; omega
    have hB2 : B ≤ 60 := by omega
    rw [hB] at HCR
    have hm2 : (compN p session obj).length ≤ 100000000 := by
      rw [compN_length']
      have := auxN_bounds hm
      omega
    generalize compN p session obj = comp at *
    obtain ⟨m, hmm⟩ : ∃ m, comp.length = m := ⟨_, rfl⟩
    have HMM := hid hmm
    rw [hmm] at HCR HCO hm2
    clear hsm hm hn60 hb60 hf200 hle hB hmm
    obtain ⟨r0, r1, r2, r3, r4⟩ := HC.out w5 (Keeps.refl _ _)
    go_wp2_with fail
    refine (HRC.out _ (Keeps.refl _ _)).mono ?_
    rintro e w6 ⟨v6, rfl, ho6, hk6⟩
    obtain ⟨A6, c6, hv6, _, _, hrows⟩ := ho6.reads
    rw [HMM.out] at hv6
    subst hv6
    have HB := hid hrows
    have HK6 := hid hk6
    have HKW := hid (HK5.out.fresh hk6)
    clear r0 r1 r2 r3 r4 HC HRC ho6 hrows hk6
    go_wp2_with fail
    go_loopw [45] (fun v45 wr => ∃ k : Nat, k ≤ m ∧ v45 = .int .i64 (k : Int) ∧ Hid (Keeps NoB w6 wr)) (fun v45 _ => m - (intOf v45).toNat)
    case atStart => exact ⟨0, Nat.zero_le _, rfl, Keeps.refl _ _⟩
    case round =>
      obtain ⟨k, hk, rfl, HKr⟩ := hrel
      by_cases hlt : k < m
      · obtain ⟨b, off, rfl, _, hc⟩ := (HB.out.kept HKr.out).2 (by rw [HMM.out]; omega)
        obtain ⟨u, hck, Bx, dx, rfl, _, _, r1⟩ := hc k (by rw [HMM.out]; exact hlt)
        have HLB := hid (HCR.out k hlt)
        have HCMk := hid (fun (W : World) (hW : Keeps NoB w6 W) => HCM.out (k : Int) W (HK6.out.fresh hW))
        rw [cmpN_at] at HCMk
        rw [HLB.out] at hck
        have HR1 := hid (fun (W : World) (hW : Keeps NoB wr W) => conv_run 25 9 Try.underlying25 Try.underlying9 (r1.kept hW) dx)
        rw [HLB.out] at HR1
        clear hc r1
        generalize gr comp k = l at *
        have dl : ((strOf l).toList != (strOf l).toList) = false := by simp
        go_wp2_with fail
        refine (HCMk.out wr HKr.out).mono ?_
        rintro e w7 ⟨v7, rfl, ho7, hk7⟩
        obtain ⟨A7, c7, hv7, _, _, hb7⟩ := OwnB.reads ho7
        obtain ⟨g7, cc7, hf7⟩ := OwnInts.form ho7 (by rw [enc8_length, HLB.out]; omega)
        rw [HLB.out] at hv7
        rw [enc8_length, HLB.out] at hf7
        subst hf7
        injection hv7 with e1 e2 e3
        subst e1 e3
        have f1 := HR1.out w7 hk7
        have f7 := conv_run 25 9 Try.underlying25 Try.underlying9 hb7 cc7
        rw [HLB.out] at f7
        have hcell := OwnInts.cell ho7 (j := 0) (by rw [enc8_length, HLB.out]; omega)
        rw [gi_enc8 l 0 (by rw [HLB.out]; omega)] at hcell
        have hfree := OwnInts.free ho7 0
        have hbl := (OwnInts.base_le ho7 g7 rfl).1
        have hx := (gb l 0).toNat_lt
        have p0 : (0 : Int) < (B : Int) := by omega
        generalize (gb l 0).toNat = x at *
        have HK7 := hid hk7
        clear ho7 hk7 hb7
        go_wp2_with fail
        have HKS := hid (HK7.out.setCell (p := ⟨g7, 0, none⟩) (fun h => absurd h (by show ¬ g7 < _; omega)) (.int .u8 (((x : Int) + 1) % 256)))
        obtain ⟨ws, hws⟩ : ∃ ws, w7.setCell ⟨g7, 0, none⟩ (.int .u8 (((x : Int) + 1) % 256)) = ws := ⟨_, rfl⟩
        rw [hws] at HKS ⊢
        have HKd := hid (HKS.out.drew)
        clear f1 f7 hcell hfree hbl hx hck
        refine wp_region_list [([], [63], []), ([], [64], []), ([0, 1], [65], [63, 64]), ([0, 1, 2], [66], [63, 64, 65]), ([], [67], []), ([4], [68], [67]), ([0, 1, 2, 3, 4, 5], [69], [63, 64, 65, 66, 67, 68])] [63, 64, 65, 66, 67, 68, 69] (Keeps NoB) (fun (i : Nat) => ([(fun rs__ U => (rs__.getD 0 undef) = Value.pointer (some ⟨en, 0, none⟩)), (fun rs__ U => (rs__.getD 0 undef) = Value.int .i64 (k : Int)), (fun rs__ U => ∃ A9 c9, (rs__.getD 0 undef) = Value.slice A9 B c9 ∧ Hid (BytesIn (fun _ => True) U A9 l)), (fun rs__ U => (rs__.getD 0 undef) = Value.string (strOf l)), (fun rs__ U => (rs__.getD 0 undef) = Value.slice Bx B dx), (fun rs__ U => (rs__.getD 0 undef) = Value.string (strOf l)), (fun rs__ U => (rs__.getD 0 undef) = Value.bool false)] : List (List Value → World → Prop)).getD i (fun _ _ => True)) (by kernel_rfl) (by kernel_rfl) (by kernel_rfl) (fun _ _ _ h1 h2 => h1.fresh h2) (fun _ => Keeps.refl _ _) (RL.cons ?s0 (RL.cons ?s1 (RL.cons ?s2 (RL.cons ?s3 (RL.cons ?s4 (RL.cons ?s5 (RL.cons ?s6 (RL.nil _ _)))))))) ?fin
        case s0 =>
          intro V wx hE hd
          clear hd
          intro K hK
          simp only [rput, List.foldl_cons, List.foldl_nil, Act.put, List.setIfInBounds_toArray, List.set_cons_zero, List.set_cons_succ]
          go_simp; (with_reducible refine hK.out _ _ ?_ ?_); exact rfl; exact ⟨Keeps.refl _ _, rfl⟩
        case s1 =>
          intro V wx hE hd
          clear hd
          intro K hK
          simp only [rput, List.foldl_cons, List.foldl_nil, Act.put, List.setIfInBounds_toArray, List.set_cons_zero, List.set_cons_succ]
          go_simp; (with_reducible refine hK.out _ _ ?_ ?_); exact rfl; exact ⟨Keeps.refl _ _, rfl⟩
        case s2 =>
          intro V wx hE hd
          obtain ⟨u0, hb0, hu0, p0⟩ : ∃ U, Keeps NoB ws.drew U ∧ Keeps NoB U wx ∧ ((V 63) = Value.pointer (some ⟨en, 0, none⟩)) := hd 0 (by decide)
          obtain ⟨u1, hb1, hu1, p1⟩ : ∃ U, Keeps NoB ws.drew U ∧ Keeps NoB U wx ∧ ((V 64) = Value.int .i64 (k : Int)) := hd 1 (by decide)
          clear hd
          clear hb0 hu0
          clear hb1 hu1
          intro K hK
          simp only [rput, List.foldl_cons, List.foldl_nil, Act.put, List.setIfInBounds_toArray, List.set_cons_zero, List.set_cons_succ, p0, p1]
          go_simp; refine (HCMk.out _ (HKr.out.fresh (HKd.out.fresh hE))).mono ?_; rintro e w9 ⟨v9, rfl, ho9, hk9⟩; obtain ⟨A9, c9, hv9, _, _, hb9⟩ := OwnB.reads ho9; rw [HLB.out] at hv9; subst hv9; (with_reducible refine hK.out _ _ ?_ ?_); exact rfl; exact ⟨hk9, A9, c9, rfl, hid (hb9.mono (fun _ _ _ => trivial))⟩
        case s3 =>
          intro V wx hE hd
          obtain ⟨u2, hb2, hu2, p2⟩ : ∃ U, Keeps NoB ws.drew U ∧ Keeps NoB U wx ∧ (∃ A9 c9, (V 65) = Value.slice A9 B c9 ∧ Hid (BytesIn (fun _ => True) U A9 l)) := hd 2 (by decide)
          clear hd
          obtain ⟨A9, c9, q2, hb2⟩ := p2
          intro K hK
          simp only [rput, List.foldl_cons, List.foldl_nil, Act.put, List.setIfInBounds_toArray, List.set_cons_zero, List.set_cons_succ, q2]
          have hcv := conv_run 25 9 Try.underlying25 Try.underlying9 (hb2.out.kept hu2) c9; rw [HLB.out] at hcv; go_simp; (with_reducible refine hK.out _ _ ?_ ?_); exact rfl; exact ⟨Keeps.refl _ _, rfl⟩
        case s4 =>
          intro V wx hE hd
          clear hd
          intro K hK
          simp only [rput, List.foldl_cons, List.foldl_nil, Act.put, List.setIfInBounds_toArray, List.set_cons_zero, List.set_cons_succ]
          go_simp; (with_reducible refine hK.out _ _ ?_ ?_); exact rfl; exact ⟨Keeps.refl _ _, rfl⟩
        case s5 =>
          intro V wx hE hd
          obtain ⟨u4, hb4, hu4, p4⟩ : ∃ U, Keeps NoB ws.drew U ∧ Keeps NoB U wx ∧ ((V 67) = Value.slice Bx B dx) := hd 4 (by decide)
          clear hd
          clear hb4 hu4
          intro K hK
          simp only [rput, List.foldl_cons, List.foldl_nil, Act.put, List.setIfInBounds_toArray, List.set_cons_zero, List.set_cons_succ, p4]
          have hcv := HR1.out _ (HKd.out.fresh hE); go_simp; (with_reducible refine hK.out _ _ ?_ ?_); exact rfl; exact ⟨Keeps.refl _ _, rfl⟩
        case s6 =>
          intro V wx hE hd
          obtain ⟨u3, hb3, hu3, p3⟩ : ∃ U, Keeps NoB ws.drew U ∧ Keeps NoB U wx ∧ ((V 66) = Value.string (strOf l)) := hd 3 (by decide)
          obtain ⟨u5, hb5, hu5, p5⟩ : ∃ U, Keeps NoB ws.drew U ∧ Keeps NoB U wx ∧ ((V 68) = Value.string (strOf l)) := hd 5 (by decide)
          clear hd
          clear hb3 hu3
          clear hb5 hu5
          intro K hK
          simp only [rput, List.foldl_cons, List.foldl_nil, Act.put, List.setIfInBounds_toArray, List.set_cons_zero, List.set_cons_succ, p3, p5]
          go_simp; (with_reducible refine hK.out _ _ ?_ ?_); exact rfl; exact ⟨Keeps.refl _ _, rfl⟩
        case fin =>
          intro V wz hE hd
          obtain ⟨u6, hb6, hu6, p6⟩ : ∃ U, Keeps NoB ws.drew U ∧ Keeps NoB U wz ∧ ((V 69) = Value.bool false) := hd 6 (by decide)
          clear hd
          clear hb6 hu6
          simp only [rput, List.foldl_cons, List.foldl_nil, Act.put, List.setIfInBounds_toArray, List.set_cons_zero, List.set_cons_succ, p6]
          clear p6
          go_wp2_with fail
          go_roundw
          case rel => exact ⟨k + 1, by omega, by go_num, hid (HKr.out.fresh (HKd.out.fresh hE))⟩
          case measure => simp [intOf]; omega
      · obtain rfl : k = m := by omega
        have HCMi := hid (HCM.out i wr (HK6.out.fresh HKr.out))
        by_cases h0 : 0 ≤ i
        · have d0 : decide (0 ≤ i) = true := decide_eq_true h0
          by_cases h1 : i < (k : Int)
          · have d1 : decide (i < (k : Int)) = true := decide_eq_true h1
            go_wp2_with fail
            go_ret
            exact ⟨rfl, HKW.out.fresh HKr.out⟩
          · have d1 : decide (i < (k : Int)) = false := decide_eq_false h1
            have HNO := hid (HCO.out i (fun h => h1 h.2))
            go_wp2_with fail
            refine HCMi.out.mono ?_
            rintro e w9 ⟨v9, rfl, ho9, hk9⟩
            rw [HNO.out] at ho9
            obtain ⟨A9, c9, rfl, _⟩ := OwnB.reads ho9
            have HK9 := hid hk9
            clear ho9 hk9
            go_wp2_with fail
            go_ret
            exact ⟨rfl, HKW.out.fresh (HKr.out.fresh HK9.out)⟩
        · have d0 : decide (0 ≤ i) = false := decide_eq_false h0
          have HNO := hid (HCO.out i (fun h => h0 h.1))
          go_wp2_with fail
          refine HCMi.out.mono ?_
          rintro e w9 ⟨v9, rfl, ho9, hk9⟩
          rw [HNO.out] at ho9
          obtain ⟨A9, c9, rfl, _⟩ := OwnB.reads ho9
          have HK9 := hid hk9
          clear ho9 hk9
          go_wp2_with fail
          go_ret
          exact ⟨rfl, HKW.out.fresh (HKr.out.fresh HK9.out)⟩
  · have hsm : smallN p L = false := by simpa using hsm
    rw [hsm]
    clear hsm
    go_wp2_with fail
    go_ret
    exact ⟨rfl, HK34.out⟩
end Go.Proofs.Ytpkkaicpbihjfaa
/- An argument that is a slice of bytes. Conditions: the row's. -/
set_option linter.unusedVariables false
namespace Go.Proofs.Ytpkkaicpbihjfaa
open Go.RowKit

theorem bytes_of_ints : ∀ xs : List Int, (∀ n ∈ xs, (Lit.int .u8 n).wf = true) → ∃ l : List UInt8, xs = enc8 l
  | [], _ => ⟨[], rfl⟩
  | n :: r, h => by
    obtain ⟨l, hl⟩ := bytes_of_ints r (fun m hm => h m (List.mem_cons_of_mem _ hm))
    have hn := Go.bounds_u8 (h n (List.mem_cons_self ..))
    refine ⟨UInt8.ofNat n.toNat :: l, ?_⟩
    rw [hl]
    simp only [enc8, List.map_cons, List.cons.injEq, and_true]
    have : (UInt8.ofNat n.toNat).toNat = n.toNat := by
      rw [UInt8.toNat_ofNat', Nat.mod_eq_of_lt (by omega)]
    omega
theorem BytesIn.ofInts {w : World} {a : Option Addr} {xs : List Int} (h : IntsAt w .u8 a xs) (hw : ∀ n ∈ xs, (Lit.int .u8 n).wf = true) : ∃ l : List UInt8, xs.length = l.length ∧ BytesIn (fun _ => True) w a l := by
  obtain ⟨l, rfl⟩ := bytes_of_ints xs hw
  exact ⟨l, enc8_length l, h, fun _ _ _ _ => trivial⟩
end Go.Proofs.Ytpkkaicpbihjfaa
/- An argument that is an array of two slices of bytes. Conditions: the row's. -/
set_option linter.unusedVariables false
namespace Go.Proofs.Ytpkkaicpbihjfaa
open Go.ChangeShapes Go.WideShapes Go.ChangeAt Go.RowKit

theorem cell_bytes {H : Type} {enc : TypeId × Value → H} {W : World} {base : Nat} {sp : Nat → Bool} {held : Bool} {n : Nat} {v : Value} {y : DataW H × List MemPlace}
    (hsp : ∀ b, sp b = true) (h : DataW.trod enc Try.prog W base sp held n 25 [v] = some y) : ∃ (l : List UInt8) (a : Option Addr) (cap : Nat), v = .slice a l.length cap ∧ l.length ≤ cap ∧ (a = none → cap = 0) ∧ BytesIn (fun _ => True) W a l := by
  rcases open_ints Try.underlying25 Try.underlying5 (by kernel_rfl) h with ⟨hcs, _⟩ | ⟨x, l, c, zs, hcs, _, hl, hm, hz, _, hcell, hwz⟩
  · have : v = .slice none 0 0 := by simpa using hcs
    subst this
    exact ⟨[], none, 0, rfl, Nat.le_refl _, fun _ => rfl, BytesIn.nil _ _⟩
  · have : v = .slice (some x) l c := by simpa using hcs
    subst this
    rw [hsp, if_pos rfl] at hz
    obtain ⟨xs, rfl, h1, h2, h3⟩ := IsRow.ints (k := .u8) (w := W) (a := some x) (len := l) (cap := c) (zs := zs) (.inr ⟨x, rfl, hl, hm, hz, hcell, hwz⟩)
    obtain ⟨b, hb, hbi⟩ := BytesIn.ofInts h2 h3
    exact ⟨b, some x, c, by rw [hb], by omega, (fun e => by cases e), hbi⟩
set_option maxRecDepth 100000 in
theorem open_two {H : Type} {enc : TypeId × Value → H} {W : World} {r : Reach} {b0 base : Nat} {sp : Nat → Bool} {held : Bool} {v : Value} {d : DataW H} {p : List MemPlace}
    (hv : Value.okWide Try.prog W r b0 37 v) (hsp : ∀ b, sp b = true) (h : DataW.Trod enc Try.prog W base sp held 37 v d p) :
    ∃ l1 A1 c1 l2 A2 c2, v = .agg #[.slice A1 (List.length l1) c1, .slice A2 (List.length l2) c2] ∧ (l1.length ≤ c1 ∧ (A1 = none → c1 = 0) ∧ BytesIn (fun _ => True) W A1 l1) ∧ (l2.length ≤ c2 ∧ (A2 = none → c2 = 0) ∧ BytesIn (fun _ => True) W A2 l2) := by
  have hu := Try.underlying37
  have hC : Try.prog.cellsOf 37 = 2 := by kernel_rfl
  have hI : Try.prog.cellsOf 25 = 1 := by kernel_rfl
  unfold Value.okWide at hv
  rw [hu] at hv
  obtain ⟨cs, rfl, hsz, _⟩ := hv
  rw [hC] at hsz
  obtain ⟨fuel, hf⟩ := h
  obtain ⟨ys, n, _, _, hcl, hyl, hi⟩ := DataW.trod_array hu hf
  rw [hI] at hi
  simp only [Value.cells] at hcl hi
  have one : ∀ (i : Nat), i < 2 → ∃ (l : List UInt8) (a : Option Addr) (cap : Nat), cs.toList[i]? = some (.slice a l.length cap) ∧ l.length ≤ cap ∧ (a = none → cap = 0) ∧ BytesIn (fun _ => True) W a l := by
    intro i hi2
    have ht := hi i hi2
    have hlen : i < cs.toList.length := by simp; omega
    have e1 : (cs.toList.drop (i * 1)).take 1 = [cs.toList[i]] := by rw [Nat.mul_one, List.drop_eq_getElem_cons hlen]; rfl
    rw [e1, List.getElem?_eq_getElem (by omega)] at ht
    obtain ⟨l, a, cap, hx, hr⟩ := cell_bytes hsp ht
    exact ⟨l, a, cap, by rw [List.getElem?_eq_getElem hlen, hx], hr⟩
  obtain ⟨l1, A1, c1, e1, r1⟩ := one 0 (by omega)
  obtain ⟨l2, A2, c2, e2, r2⟩ := one 1 (by omega)
  refine ⟨l1, A1, c1, l2, A2, c2, ?_, r1, r2⟩
  obtain ⟨l⟩ := cs
  simp only [] at e1 e2 hsz
  have : l = [.slice A1 l1.length c1, .slice A2 l2.length c2] := by
    apply List.ext_getElem?
    intro i
    match i with
    | 0 => exact e1
    | 1 => exact e2
    | i + 2 => rw [List.getElem?_eq_none (by simp at hsz; omega), List.getElem?_eq_none (by simp)]
  subst this
  rfl
end Go.Proofs.Ytpkkaicpbihjfaa
/- Parameters by value, as a row's argument. No condition. -/
set_option linter.unusedVariables false
namespace Go.Proofs.Ytpkkaicpbihjfaa
open Go.ChangeShapes Go.WideShapes Go.ChangeAt Go.RowKit
set_option maxRecDepth 100000 in
theorem open_par {H : Type} {enc : TypeId × Value → H} {W : World} {r : Reach} {b0 base : Nat} {sp : Nat → Bool} {held : Bool} {v : Value} {d : DataW H} {p : List MemPlace}
    (hv : Value.okWide Try.prog W r b0 23 v) (h : DataW.Trod enc Try.prog W base sp held 23 v d p) : ∃ q : Par, v = q.val ∧ q.wf := by
  obtain ⟨cs, rfl, hsz⟩ := okWide_struct Try.underlying23 hv
  have hC : Try.prog.cellsOf 23 = 5 := by kernel_rfl
  have hI : Try.prog.cellsOf 3 = 1 := by kernel_rfl
  rw [hC] at hsz
  obtain ⟨fuel, hf⟩ := h
  obtain ⟨ys, n, _, _, hcl, hyl, hi⟩ := DataW.trod_struct Try.underlying23 hf
  rw [hC] at hcl
  simp only [Value.cells] at hf hcl hi
  have hyl5 : ys.length = 5 := hyl
  have one : ∀ (i : Nat) (hi5 : i < 5) (f : Field), (Try.prog.underlying 23 = some (.struct #[]) ∨ True) → f.type = 3 → f.offset = i →
      DataW.trod enc Try.prog W base sp held n f.type ((cs.toList.drop f.offset).take (Try.prog.cellsOf f.type)) = ys[i]? → ∃ x : Int, cs.toList[i]? = some (.int .i64 x) ∧ (Lit.int .i64 x).wf = true := by
    intro i hi5 f _ hT ho ht
    rw [hT, ho, hI] at ht
    have hlen : i < cs.toList.length := by simp at hcl ⊢; omega
    have e1 : (cs.toList.drop i).take 1 = [cs.toList[i]] := by rw [List.drop_eq_getElem_cons hlen]; rfl
    rw [e1, List.getElem?_eq_getElem (by omega)] at ht
    obtain ⟨x, hx, hw⟩ := cell_int Try.underlying3 ht
    exact ⟨x, by rw [List.getElem?_eq_getElem hlen, hx], hw⟩
  obtain ⟨x0, c0, w0⟩ := one 0 (by omega) _ (.inr trivial) rfl rfl (hi 0 _ rfl)
  obtain ⟨x1, c1, w1⟩ := one 1 (by omega) _ (.inr trivial) rfl rfl (hi 1 _ rfl)
  obtain ⟨x2, c2, w2⟩ := one 2 (by omega) _ (.inr trivial) rfl rfl (hi 2 _ rfl)
  obtain ⟨x3, c3, w3⟩ := one 3 (by omega) _ (.inr trivial) rfl rfl (hi 3 _ rfl)
  obtain ⟨x4, c4, w4⟩ := one 4 (by omega) _ (.inr trivial) rfl rfl (hi 4 _ rfl)
  refine ⟨⟨x0, x1, x2, x3, x4⟩, ?_, wf_i64_bounds w0, wf_i64_bounds w1, wf_i64_bounds w2, wf_i64_bounds w3, wf_i64_bounds w4⟩
  obtain ⟨l⟩ := cs
  simp only [] at c0 c1 c2 c3 c4 hsz
  have : l = [.int .i64 x0, .int .i64 x1, .int .i64 x2, .int .i64 x3, .int .i64 x4] := by
    apply List.ext_getElem?
    intro i
    match i with
    | 0 => exact c0
    | 1 => exact c1
    | 2 => exact c2
    | 3 => exact c3
    | 4 => exact c4
    | i + 5 => rw [List.getElem?_eq_none (by simp at hsz; omega), List.getElem?_eq_none (by simp)]
  subst this
  rfl
end Go.Proofs.Ytpkkaicpbihjfaa
/- An argument that is almonrylaw13's Turned, by value. Conditions: the row's. -/
set_option linter.unusedVariables false
namespace Go.Proofs.Ytpkkaicpbihjfaa
open Go.ChangeShapes Go.WideShapes Go.ChangeAt Go.RowKit

theorem one_cell {l : List Value} {o : Nat} (h : o < l.length) : (l.drop o).take 1 = [l[o]] := by
  rw [List.drop_eq_getElem_cons h]; rfl
/-- A number that is a field, of one cell. -/
theorem field_int {H : Type} {enc : TypeId × Value → H} {W : World} {base : Nat} {sp : Nat → Bool} {held : Bool} {n : Nat} {T : TypeId} {k : IntKind} {l : List Value} {o : Nat} {y : DataW H × List MemPlace} (ht : Try.prog.underlying T = some (.int k)) (hc : Try.prog.cellsOf T = 1)
    (h : DataW.trod enc Try.prog W base sp held n T ((l.drop o).take (Try.prog.cellsOf T)) = some y) (ho : o < l.length) : ∃ x : Int, l[o]? = some (.int k x) ∧ (Lit.int k x).wf = true := by
  rw [hc, one_cell ho] at h
  obtain ⟨x, hx, hw⟩ := cell_int ht h
  exact ⟨x, by rw [List.getElem?_eq_getElem ho, hx], hw⟩
theorem get_sub {l : List Value} {o m i : Nat} (h : i < m) : ((l.drop o).take m)[i]? = l[o + i]? := by
  rw [List.getElem?_take_of_lt h, List.getElem?_drop]
set_option maxRecDepth 100000 in
theorem open_turned {H : Type} {enc : TypeId × Value → H} {W : World} {r : Reach} {b0 base : Nat} {sp : Nat → Bool} {held : Bool} {v : Value} {d : DataW H} {p : List MemPlace}
    (hv : Value.okWide Try.prog W r b0 29 v) (hsp : ∀ b, sp b = true) (h : DataW.Trod enc Try.prog W base sp held 29 v d p) :
    ∃ (q : Par) (s : Int) (l : List UInt8) (A : Option Addr) (c : Nat) (tb ta ty tm tl : Int), v = .agg #[.int .i64 q.n, .int .i64 q.b, .int .i64 q.q, .int .i64 q.eps, .int .i64 q.f, .int .u64 s, .slice A (List.length l) c, .int .u8 tb, .int .u8 ta, .int .u8 ty, .int .i64 tm, .int .i64 tl] ∧ q.wf ∧
      (Lit.int .u64 s).wf = true ∧ (l.length ≤ c ∧ (A = none → c = 0) ∧ BytesIn (fun _ => True) W A l) ∧ (Lit.int .u8 tb).wf = true ∧ (Lit.int .u8 ta).wf = true ∧ (Lit.int .u8 ty).wf = true ∧ (Lit.int .i64 tm).wf = true ∧ (Lit.int .i64 tl).wf = true := by
  obtain ⟨cs, rfl, hsz⟩ := okWide_struct Try.underlying29 hv
  have hC : Try.prog.cellsOf 29 = 12 := by kernel_rfl
  have hP : Try.prog.cellsOf 23 = 5 := by kernel_rfl
  have hT : Try.prog.cellsOf 27 = 5 := by kernel_rfl
  have hI : Try.prog.cellsOf 3 = 1 := by kernel_rfl
  have hU : Try.prog.cellsOf 24 = 1 := by kernel_rfl
  have hB : Try.prog.cellsOf 5 = 1 := by kernel_rfl
  have hS : Try.prog.cellsOf 25 = 1 := by kernel_rfl
  rw [hC] at hsz
  obtain ⟨fuel, hf⟩ := h
  obtain ⟨ys, n, _, _, hcl, hyl, hi⟩ := DataW.trod_struct Try.underlying29 hf
  rw [hC] at hcl
  simp only [Value.cells] at hf hcl hi
  obtain ⟨l⟩ := cs
  simp only [] at hsz hcl hi
  have hyl4 : ys.length = 4 := hyl
  have g := fun (i : Nat) (h : i < 4) => List.getElem?_eq_getElem (l := ys) (show i < ys.length by omega)
  have f0 := (hi 0 _ rfl).trans (g 0 (by omega))
  have f1 := (hi 1 _ rfl).trans (g 1 (by omega))
  have f2 := (hi 2 _ rfl).trans (g 2 (by omega))
  have f3 := (hi 3 _ rfl).trans (g 3 (by omega))
  obtain ⟨s, e5, w5⟩ := field_int (l := l) (o := 5) Try.underlying24 hU f1 (by omega)
  have f2' : DataW.trod enc Try.prog W base sp held n 25 [l[6]] = some ys[2] := by
    have e1 := one_cell (l := l) (o := 6) (by omega)
    rw [← e1]
    exact f2
  obtain ⟨ob, A, c, hx6, r6⟩ := cell_bytes hsp f2'
  have e6 : l[6]? = some (.slice A ob.length c) := by rw [List.getElem?_eq_getElem (by omega), hx6]
  have f0' : DataW.trod enc Try.prog W base sp held n 23 ((l.drop 0).take 5) = some ys[0] := f0
  have f3' : DataW.trod enc Try.prog W base sp held n 27 ((l.drop 7).take 5) = some ys[3] := f3
  have l0 : ((l.drop 0).take 5).length = 5 := by simp; omega
  have l3 : ((l.drop 7).take 5).length = 5 := by simp; omega
  obtain ⟨zs, n0, _, _, _, hz, hi0⟩ := DataW.trod_struct Try.underlying23 f0'
  obtain ⟨us, n3, _, _, _, hu3, hi3⟩ := DataW.trod_struct Try.underlying27 f3'
  have hz5 : zs.length = 5 := hz
  have hu5 : us.length = 5 := hu3
  have gz := fun (i : Nat) (h : i < 5) => List.getElem?_eq_getElem (l := zs) (show i < zs.length by omega)
  have gu := fun (i : Nat) (h : i < 5) => List.getElem?_eq_getElem (l := us) (show i < us.length by omega)
  obtain ⟨x0, c0, w0⟩ := field_int (o := 0) Try.underlying3 hI ((hi0 0 _ rfl).trans (gz 0 (by omega))) (by omega)
  obtain ⟨x1, c1, w1⟩ := field_int (o := 1) Try.underlying3 hI ((hi0 1 _ rfl).trans (gz 1 (by omega))) (by omega)
  obtain ⟨x2, c2, w2⟩ := field_int (o := 2) Try.underlying3 hI ((hi0 2 _ rfl).trans (gz 2 (by omega))) (by omega)
  obtain ⟨x3, c3, w3⟩ := field_int (o := 3) Try.underlying3 hI ((hi0 3 _ rfl).trans (gz 3 (by omega))) (by omega)
  obtain ⟨x4, c4, w4⟩ := field_int (o := 4) Try.underlying3 hI ((hi0 4 _ rfl).trans (gz 4 (by omega))) (by omega)
  obtain ⟨t0, c7, w7⟩ := field_int (o := 0) Try.underlying5 hB ((hi3 0 _ rfl).trans (gu 0 (by omega))) (by omega)
  obtain ⟨t1, c8, w8⟩ := field_int (o := 1) Try.underlying5 hB ((hi3 1 _ rfl).trans (gu 1 (by omega))) (by omega)
  obtain ⟨t2, c9, w9⟩ := field_int (o := 2) Try.underlying5 hB ((hi3 2 _ rfl).trans (gu 2 (by omega))) (by omega)
  obtain ⟨t3, c10, w10⟩ := field_int (o := 3) Try.underlying3 hI ((hi3 3 _ rfl).trans (gu 3 (by omega))) (by omega)
  obtain ⟨t4, c11, w11⟩ := field_int (o := 4) Try.underlying3 hI ((hi3 4 _ rfl).trans (gu 4 (by omega))) (by omega)
  rw [get_sub (by omega)] at c0 c1 c2 c3 c4 c7 c8 c9 c10 c11
  refine ⟨⟨x0, x1, x2, x3, x4⟩, s, ob, A, c, t0, t1, t2, t3, t4, ?_, ⟨wf_i64_bounds w0, wf_i64_bounds w1, wf_i64_bounds w2, wf_i64_bounds w3, wf_i64_bounds w4⟩, w5, r6, w7, w8, w9, w10, w11⟩
  have : l = [.int .i64 x0, .int .i64 x1, .int .i64 x2, .int .i64 x3, .int .i64 x4, .int .u64 s, .slice A ob.length c, .int .u8 t0, .int .u8 t1, .int .u8 t2, .int .i64 t3, .int .i64 t4] := by
    apply List.ext_getElem?
    intro i
    match i with
    | 0 => exact c0
    | 1 => exact c1
    | 2 => exact c2
    | 3 => exact c3
    | 4 => exact c4
    | 5 => exact e5
    | 6 => exact e6
    | 7 => exact c7
    | 8 => exact c8
    | 9 => exact c9
    | 10 => exact c10
    | 11 => exact c11
    | i + 12 => rw [List.getElem?_eq_none (by simp at hsz; omega), List.getElem?_eq_none (by simp)]
  subst this
  rfl
end Go.Proofs.Ytpkkaicpbihjfaa
/- An argument that is almonrylaw14's Case, by value. Conditions: the row's. -/
set_option linter.unusedVariables false
namespace Go.Proofs.Ytpkkaicpbihjfaa
open Go.ChangeShapes Go.WideShapes Go.ChangeAt Go.RowKit

set_option maxRecDepth 100000 in
theorem open_case14 {H : Type} {enc : TypeId × Value → H} {W : World} {r : Reach} {b0 base : Nat} {sp : Nat → Bool} {held : Bool} {v : Value} {d : DataW H} {p : List MemPlace}
    (hv : Value.okWide Try.prog W r b0 45 v) (hsp : ∀ b, sp b = true) (h : DataW.Trod enc Try.prog W base sp held 45 v d p) :
    ∃ (q : Par) (s : Nat) (l : List UInt8) (A : Option Addr) (c : Nat) (ids : List Nat) (B : Option Addr) (e : Nat), v = .agg #[.int .i64 q.n, .int .i64 q.b, .int .i64 q.q, .int .i64 q.eps, .int .i64 q.f, .int .u64 (s : Int), .slice A (List.length l) c, .slice B (List.length ids) e] ∧ q.wf ∧
      s < 18446744073709551616 ∧ (l.length ≤ c ∧ (A = none → c = 0) ∧ BytesIn (fun _ => True) W A l) ∧ NatsAt W B ids := by
  obtain ⟨cs, rfl, hsz⟩ := okWide_struct Try.underlying45 hv
  have hC : Try.prog.cellsOf 45 = 8 := by kernel_rfl
  have hP : Try.prog.cellsOf 23 = 5 := by kernel_rfl
  have hI : Try.prog.cellsOf 3 = 1 := by kernel_rfl
  have hU : Try.prog.cellsOf 24 = 1 := by kernel_rfl
  have hS : Try.prog.cellsOf 25 = 1 := by kernel_rfl
  have hS2 : Try.prog.cellsOf 43 = 1 := by kernel_rfl
  rw [hC] at hsz
  obtain ⟨fuel, hf⟩ := h
  obtain ⟨ys, n, _, _, hcl, hyl, hi⟩ := DataW.trod_struct Try.underlying45 hf
  rw [hC] at hcl
  simp only [Value.cells] at hf hcl hi
  obtain ⟨l⟩ := cs
  simp only [] at hsz hcl hi
  have hyl4 : ys.length = 4 := hyl
  have g := fun (i : Nat) (h : i < 4) => List.getElem?_eq_getElem (l := ys) (show i < ys.length by omega)
  have f0 := (hi 0 _ rfl).trans (g 0 (by omega))
  have f1 := (hi 1 _ rfl).trans (g 1 (by omega))
  have f2 := (hi 2 _ rfl).trans (g 2 (by omega))
  have f3 := (hi 3 _ rfl).trans (g 3 (by omega))
  obtain ⟨s, e5, w5⟩ := field_int (l := l) (o := 5) Try.underlying24 hU f1 (by omega)
  have f2' : DataW.trod enc Try.prog W base sp held n 25 [l[6]] = some ys[2] := by
    have e1 := one_cell (l := l) (o := 6) (by omega)
    rw [← e1]
    exact f2
  obtain ⟨ob, A, c, hx6, r6⟩ := cell_bytes hsp f2'
  have e6 : l[6]? = some (.slice A ob.length c) := by rw [List.getElem?_eq_getElem (by omega), hx6]
  have f3' : DataW.trod enc Try.prog W base sp held n 43 [l[7]] = some ys[3] := by
    have e1 := one_cell (l := l) (o := 7) (by omega)
    rw [← e1]
    exact f3
  obtain ⟨fx, fa, fc, hx7, _, xa, xw⟩ := cell_ints Try.underlying43 Try.underlying24 (by kernel_rfl) hsp f3'
  obtain ⟨ids, nl, na⟩ := NatsAt.ofInts xa xw
  have e7 : l[7]? = some (.slice fa ids.length fc) := by rw [List.getElem?_eq_getElem (by omega), hx7, nl]
  have f0' : DataW.trod enc Try.prog W base sp held n 23 ((l.drop 0).take 5) = some ys[0] := f0
  have l0 : ((l.drop 0).take 5).length = 5 := by simp; omega
  obtain ⟨zs, n0, _, _, _, hz, hi0⟩ := DataW.trod_struct Try.underlying23 f0'
  have hz5 : zs.length = 5 := hz
  have gz := fun (i : Nat) (h : i < 5) => List.getElem?_eq_getElem (l := zs) (show i < zs.length by omega)
  obtain ⟨x0, c0, w0⟩ := field_int (o := 0) Try.underlying3 hI ((hi0 0 _ rfl).trans (gz 0 (by omega))) (by omega)
  obtain ⟨x1, c1, w1⟩ := field_int (o := 1) Try.underlying3 hI ((hi0 1 _ rfl).trans (gz 1 (by omega))) (by omega)
  obtain ⟨x2, c2, w2⟩ := field_int (o := 2) Try.underlying3 hI ((hi0 2 _ rfl).trans (gz 2 (by omega))) (by omega)
  obtain ⟨x3, c3, w3⟩ := field_int (o := 3) Try.underlying3 hI ((hi0 3 _ rfl).trans (gz 3 (by omega))) (by omega)
  obtain ⟨x4, c4, w4⟩ := field_int (o := 4) Try.underlying3 hI ((hi0 4 _ rfl).trans (gz 4 (by omega))) (by omega)
  rw [get_sub (by omega)] at c0 c1 c2 c3 c4
  have hs := wf_u64_bounds w5
  obtain ⟨sn, rfl⟩ : ∃ sn : Nat, s = (sn : Int) := ⟨s.toNat, by omega⟩
  refine ⟨⟨x0, x1, x2, x3, x4⟩, sn, ob, A, c, ids, fa, fc, ?_, ⟨wf_i64_bounds w0, wf_i64_bounds w1, wf_i64_bounds w2, wf_i64_bounds w3, wf_i64_bounds w4⟩, by omega, r6, na⟩
  have : l = [.int .i64 x0, .int .i64 x1, .int .i64 x2, .int .i64 x3, .int .i64 x4, .int .u64 (sn : Int), .slice A ob.length c, .slice fa ids.length fc] := by
    apply List.ext_getElem?
    intro i
    match i with
    | 0 => exact c0
    | 1 => exact c1
    | 2 => exact c2
    | 3 => exact c3
    | 4 => exact c4
    | 5 => exact e5
    | 6 => exact e6
    | 7 => exact e7
    | i + 8 => rw [List.getElem?_eq_none (by simp at hsz; omega), List.getElem?_eq_none (by simp)]
  subst this
  rfl
end Go.Proofs.Ytpkkaicpbihjfaa
