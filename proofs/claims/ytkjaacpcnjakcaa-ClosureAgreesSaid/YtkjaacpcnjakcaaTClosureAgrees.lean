/- The last texts ahead of the law ClosureAgrees, one behind the other: what each proves, and its conditions, stands ahead of it. -/
import Derived.Test.YtkjaacpcnjakcaaEquationHolds
import Derived.Test.YtkjaacpcnjakcaaEqsOwn
import Derived.Test.YtkjaacpcnjakcaaSumsMath
import Derived.Test.YtkjaacpcnjakcaaEqSt
import Derived.Test.YtkjaacpcnjakcaaReachSt2
import Derived.Test.YtkjaacpcnjakcaaTrueMath
import Derived.Test.YtkjaacpcnjakcaaWorkMath
import Derived.Deep.Cut
import Derived.Test.YtkjaacpcnjakcaaFits
import Derived.Test.YtkjaacpcnjakcaaRef
import Derived.Test.YtkjaacpcnjakcaaRows2
import Derived.BigQuiet
import Derived.Test.YtkjaacpcnjakcaaAgreeMath
import Derived.Test.YtkjaacpcnjakcaaBRows
import Derived.Test.YtkjaacpcnjakcaaRef03
import Derived.IntWalk
import Derived.Test.YtkjaacpcnjakcaaSpeaks16
import Derived.Test.YtkjaacpcnjakcaaBig16
import Derived.Test.YtkjaacpcnjakcaaRow
import Derived.Test.YtkjaacpcnjakcaaBytes
import Derived.Deep.Matrix
import Derived.Test.YtkjaacpcnjakcaaEqAdd
import Derived.SizedLaws
/- Equations that hold of blocks, put upon each other, hold of them, too: the law's walk. Conditions: lengths that memory bears. -/
set_option linter.unusedVariables false
namespace Go.Proofs.Ytkjaacpcnjakcaa
open Go.RowKit
attribute [local go_sem ↓] Go.wp_at_zero Go.wp_at_succ

theorem wpList_copyB {ops : Array Oper} {rest : List Oper} {o : Oper} {a : Act} {w : World} {Q : Exit → Act → World → Prop} (hgd : o.guard = none) (d s : Operand) (dT sT : TypeId)
    (ho : o.op = .call { callee := .builtin .copy, args := #[d, s], argTypes := #[dT, sT] }) (hu : Try.prog.underlying dT = some (.slice 5)) (base : Nat) (v : Value) (to b : List UInt8) (hd : a.eval d = v) (hown : OwnB w base v to) (R : Nat → Prop) (A : Option Addr) (m c : Nat)
    (hs : a.eval s = .slice A m c) (hm : b.length = m) (hb : BytesIn R w A b)
    (h : ∀ (n : Nat) (w' : World), n = min b.length to.length → OwnB w' base v (b.take n ++ to.drop n) → Keeps (fun k => v.ownBlock = some k) w w' → wpList Try.prog ops Q rest (a.put o.dst (goInt n)) w') : wpList Try.prog ops Q (o :: rest) a w := by
  refine wpList_plain hgd fun K hK => ?_
  obtain ⟨n, w', hrun, h1, h2, h3⟩ := run_copy_bytes dT sT o.type hu hown c hb
  rw [hm] at hrun
  unfold Oper.wp
  simp [execOp, ho, resolve, invoke, builtin, hd, hs, hrun, Result.andThen]
  exact hK _ _ (h n w' h1 h2 h3)
theorem cells4 {w : World} {b : Nat} {x0 x1 x2 x3 : Value} {T : TypeId} {fr : Nat × Nat} (h : w.heap[b]? = some (.cells #[x0, x1, x2, x3] T fr)) :
    w.cell? ⟨b, 0, none⟩ = some x0 ∧ w.cell? ⟨b, 1, none⟩ = some x1 ∧ w.cell? ⟨b, 2, none⟩ = some x2 ∧ w.cell? ⟨b, 3, none⟩ = some x3 := by simp [World.cell?, h]
theorem eqs_dup {w : World} {u1 u2 : Value} {x : EqV} {R : Nat → Prop} (h : PairIn R w u1 u2 x) : EqsIn (fun _ => True) (w.alloc (.cells #[u1, u2, u1, u2] 69)) (some ⟨w.heap.size, 0, none⟩) [x, x] := by
  have hk := (Keeps.refl NoB w).alloc (.cells #[u1, u2, u1, u2] 69)
  have hb := heap_alloc_new w (.cells #[u1, u2, u1, u2] 69)
  have h2 := (h.keeps hk (fun _ _ h => h)).mono (R' := fun _ => True) (fun _ _ _ => trivial)
  refine ⟨by simp, fun _ => ⟨w.heap.size, 0, rfl, trivial, fun j hj => ?_⟩⟩
  match j, hj with
  | 0, _ => exact ⟨u1, u2, (cells4 hb).1, (cells4 hb).2.1, h2.1, h2.2⟩
  | 1, _ => exact ⟨u1, u2, (cells4 hb).2.2.1, (cells4 hb).2.2.2, h2.1, h2.2⟩
end Go.Proofs.Ytkjaacpcnjakcaa
/- The equations of a law's argument: the walk of almonrylaw16.Equations. Conditions: lengths are small. -/
set_option linter.unusedVariables false
namespace Go.Proofs.Ytkjaacpcnjakcaa
open Go.RowKit
attribute [local go_sem ↓] Go.wp_at_zero Go.wp_at_succ

def esK (N : Nat) (bs : List (List UInt8)) (ofs : List (List Int)) (k : Nat) : List EqV := (List.range k).map fun i => ⟨gl ofs i, padB N (gr bs i)⟩
theorem esK_succ (N : Nat) (bs : List (List UInt8)) (ofs : List (List Int)) (k : Nat) : esK N bs ofs (k + 1) = esK N bs ofs k ++ [⟨gl ofs k, padB N (gr bs k)⟩] := by
  unfold esK; rw [List.range_succ, List.map_append]; rfl
theorem esK_length (N : Nat) (bs : List (List UInt8)) (ofs : List (List Int)) (k : Nat) : (esK N bs ofs k).length = k := by simp [esK]
theorem esK_of (N : Nat) (bs : List (List UInt8)) (ofs : List (List Int)) : (esK N bs ofs ofs.length).map EqV.of = ofs := by
  unfold esK
  rw [List.map_map]
  apply List.ext_getElem
  · simp
  · intro i h1 h2
    simp [gl, h2]
theorem esK_val (N : Nat) (bs : List (List UInt8)) (ofs : List (List Int)) (k : Nat) : (esK N bs ofs k).map EqV.val = allT N bs k := by
  unfold esK allT
  rw [List.map_map]; rfl
theorem esK_len (N : Nat) (bs : List (List UInt8)) (ofs : List (List Int)) (k : Nat) : ∀ e ∈ esK N bs ofs k, e.val.length = N := by
  intro e he
  obtain ⟨i, _, rfl⟩ := List.mem_map.1 he
  exact padB_length N _
set_option maxHeartbeats 3200000 in
set_option maxRecDepth 20000 in
theorem equations16_calls (al sz : Nat) (ofs : List (List Int)) (bs : List (List UInt8)) (Ao Av : Option Addr) (co cv : Nat) (w : World) (hsz : sz < 256) (ho : RowsAt w Ao ofs) (hb : RowsIn (fun _ => True) w Av bs) (hm4 : ofs.length ≤ 400) (hq4 : bs.length ≤ 9223372036854775807) :
    Calls Try.prog 36 #[.agg #[.int .u8 (al : Int), .int .u8 (sz : Int), .slice Ao ofs.length co, .slice Av bs.length cv]] w fun e w' => ∃ v1 v2, e = .returned (.tuple #[v1, v2]) ∧ OwnEqs (fun _ => True) w' w.heap.size v1 (esK (sz % 6) bs ofs ofs.length) ∧ OwnRows (fun _ => True) w' w.heap.size v2 (allT (sz % 6) bs ofs.length) ∧ Keeps NoB w w' := by
  have HO := hid ho
  have HB := hid hb.lt
  clear ho hb
  obtain ⟨m, hm⟩ : ∃ m, ofs.length = m := ⟨_, rfl⟩
  obtain ⟨q, hq⟩ : ∃ q, bs.length = q := ⟨_, rfl⟩
  rw [hm] at hm4 ⊢
  rw [hq] at hq4 ⊢
  have HM := hid hm
  have HQ := hid hq
  clear hm hq
  obtain ⟨N, hN⟩ : ∃ N, sz % 6 = N := ⟨_, rfl⟩
  rw [hN]
  have hN6 : N < 6 := by omega
  have hmod : (sz : Int) % 6 = (N : Int) := by omega
  clear hN
  have hub := Try.underlying67
  have hus := Try.underlying57
  have hue := Try.underlying60
  obtain ⟨i1, hi', hz0', hz1', hz2'⟩ := info_parts info_u8
  have HAS := hid (allT_succ N bs)
  have HAL := hid (allT_length N bs)
  have HES := hid (esK_succ N bs ofs)
  have HEL := hid (esK_length N bs ofs)
  go_enter Try.func36, Try.ntmps36
  obtain ⟨w0, hw0⟩ : ∃ w0, w.alloc (.cells #[.int .u8 (al : Int), .int .u8 (sz : Int), .slice Ao m co, .slice Av q cv] 59) = w0 := ⟨_, rfl⟩
  have HK0 := hid (show Keeps NoB w w0 by rw [← hw0]; exact (Keeps.refl NoB w).alloc _)
  have HBX := hid (show w0.heap[w.heap.size]? = some (.cells #[.int .u8 (al : Int), .int .u8 (sz : Int), .slice Ao m co, .slice Av q cv] 59 (0, 0)) by rw [← hw0]; exact heap_alloc_new w _)
  have c2 := (cells4 HBX.out).2.2.1
  go_wp2_with fail
  clear hw0 c2
  go_loopw [4, 5, 12] (fun v4 v5 v12 wr => ∃ k : Nat, k ≤ m ∧ v12 = .int .i64 (k : Int) ∧ Hid (EqSt w0 wr v4 v5 (esK N bs ofs k) (allT N bs k))) (fun _ _ v12 _ => m - (intOf v12).toNat)
  case atStart => exact ⟨0, Nat.zero_le _, rfl, hid (EqSt.nil w0)⟩
  case round =>
    obtain ⟨k, hk, rfl, HS⟩ := hrel
    by_cases hlt : k < m
    · obtain ⟨b6, o6, rfl, hc6⟩ := HO.out.2 (by rw [HM.out]; omega)
      obtain ⟨u, cu0, A6, c6, rfl, hc6', hA6, hat60⟩ := hc6 k (by rw [HM.out]; exact hlt)
      have HKW := hid (HK0.out.fresh HS.out.keeps)
      have cu := HKW.out.cell cu0 (fun h => h)
      have HN6 := hid (show NumsIn (fun b => b < w.heap.size) w (.slice A6 (gl ofs k).length c6) (gl ofs k) from ⟨_, _, rfl, hc6', hA6, hat60, hat60.lt⟩)
      have HB3 := hid (HS.out.keeps.heap HBX.out (fun h => h))
      have cb0 := (cells4 HB3.out).2.1
      have cb3 := (cells4 HB3.out).2.2.2
      have p0 : (0 : Int) ≤ (k : Int) := by omega
      have p1 : (k : Int) < (m : Int) := by omega
      have has := hid (HAS.out k)
      have hes := hid (HES.out k)
      have hel := hid (HEL.out k)
      have hal := hid (HAL.out k)
      have hszw := HKW.out.size
      have hsz0 := HK0.out.size
      clear hc6 hc6' hA6 hat60 cu0
      generalize hof : gl ofs k = of at *
      clear hof
      obtain ⟨lo, hlo⟩ : ∃ lo, of.length = lo := ⟨_, rfl⟩
      rw [hlo] at cu HN6
      clear hlo
      have hgout : q ≤ k → gr bs k = [] := fun h => gr_out bs k (by rw [HQ.out]; exact h)
      have HGO := hid hgout
      clear hgout
      by_cases hkq : k < q
      case' pos =>
        obtain ⟨bb, ob, rfl, hbR, hc⟩ := HB.out.2 (by rw [HQ.out]; omega)
        obtain ⟨u2, cuv, A5, c5, rfl, hc5, hA5, hrow⟩ := hc k (by rw [HQ.out]; exact hkq)
        have cuv := HKW.out.cell cuv (fun h => h)
        have HROW := hid (hrow.kept HKW.out)
        have p2 : (k : Int) < (q : Int) := by omega
        clear hc hbR hc5 hA5 hrow
        generalize hl : gr bs k = l at *
        clear hl
        obtain ⟨ln, hln⟩ : ∃ n, l.length = n := ⟨_, rfl⟩
        rw [hln] at cuv
        have hln2 := hid hln
        clear hln
        go_upto_region 9 with (first
          | (at_make; go_must (refine wpList_make_full _ rfl _ _ _ rfl wr.heap.size 5 i1 (.int .u8 0) 1 hub hi' hz0' hz1' .i64 .i64 _ _ N rfl rfl hmod hmod (by rw [hz2']; omega) (by unfold maxLen; omega) (Nat.le_refl _) ?_); intro w4 hown4 hgr4; have HX4 := hid (OwnB.ofMake hown4); have HK4 := hid ((Keeps.refl NoB wr).grown hgr4 (fun i e => by cases e)); have cb4 := HK4.out.cell cb3 (fun h => h); have cuv4 := HK4.out.cell cuv (fun h => h); clear hown4 hgr4)
          | (have hx4 := HX4.out; clear hx4; refine (wpList_copyB rfl _ _ 67 67 rfl hub wr.heap.size _ (List.replicate N 0) l rfl HX4.out _ A5 ln c5 rfl hln2.out (HROW.out.kept HK4.out) ?_); intro n5 w5 hn5 hown5 hk5; have HX5 := hid (show OwnB w5 wr.heap.size (.slice (some ⟨wr.heap.size, 0, none⟩) N N) (padB N l) by (have e5 : n5 = min l.length N := by (rw [hn5, List.length_replicate])); subst e5; exact hown5); have HK5 := hid (HK4.out.then hk5 (fun b hb hlt => by have := (OwnInts.base_le HX4.out b hb).1; omega)); clear hown5 hk5 hn5 HX4 HK4 cb4 cuv4))
      case' neg =>
        have hl0 := HGO.out (by omega)
        obtain ⟨l, hl⟩ : ∃ l, gr bs k = l := ⟨_, rfl⟩
        rw [hl] at has hes hl0
        have HPN := hid (show padB N l = List.replicate N 0 by rw [hl0]; exact padB_nil N)
        clear hl hl0
        go_upto_region 9 with (first
          | (at_make; go_must (refine wpList_make_full _ rfl _ _ _ rfl wr.heap.size 5 i1 (.int .u8 0) 1 hub hi' hz0' hz1' .i64 .i64 _ _ N rfl rfl hmod hmod (by rw [hz2']; omega) (by unfold maxLen; omega) (Nat.le_refl _) ?_); intro w5 hown4 hgr4; have HX5 := hid (show OwnB w5 wr.heap.size (.slice (some ⟨wr.heap.size, 0, none⟩) N N) (padB N l) by rw [HPN.out]; exact OwnB.ofMake hown4); have HK5 := hid ((Keeps.refl NoB wr).grown hgr4 (fun i e => by cases e)); have cb4 := HK5.out.cell cb3 (fun h => h); clear hown4 hgr4))
      all_goals
        have HS5 := hid (HS.out.kept HK5.out)
        have HKA5 := hid ((Keeps.refl NoB w5).alloc (.cells #[.slice (some ⟨wr.heap.size, 0, none⟩) N N] 67))
        have HS5a := hid (HS5.out.kept HKA5.out)
        have hyo : ∀ b, (Value.slice (some ⟨wr.heap.size, 0, none⟩) N N).ownBlock = some b → u4.ownBlock ≠ some b ∧ u5.ownBlock ≠ some b := fun b hb => by
          have h9 : wr.heap.size = b := by simpa [Value.ownBlock] using hb
          exact ⟨fun e => by have := (HS.out.eqs.base_le b e).2; omega, fun e => by have := (HS.out.vals.base_le b e).2; omega⟩
        have HX5a := hid (OwnInts.kept HX5.out HKA5.out)
        have HRV := hid (show RowIn (fun b => (b < (w5.alloc (.cells #[.slice (some ⟨wr.heap.size, 0, none⟩) N N] 67)).heap.size ∧ u4.ownBlock ≠ some b) ∧ u5.ownBlock ≠ some b) (w5.alloc (.cells #[.slice (some ⟨wr.heap.size, 0, none⟩) N N] 67)) (.slice (some ⟨wr.heap.size, 0, none⟩) N N) (padB N l) from (OwnB.row HX5a.out).mono (fun b hlt hb => ⟨⟨hlt, (hyo b hb).1⟩, (hyo b hb).2⟩))
        have hb1 : (allT N bs k).length + 1 ≤ 1000000000 := by have := hal.out; omega
        have hsz5 := HS5.out.keeps.size
        have tk1 : True := trivial
        have tk2 : True := trivial
        have tk3 : True := trivial
        go_wp2_with (first
          | (at_builtin; have _t := tk1; go_must (refine wpList_app1RowB rfl _ _ 57 _ rfl w0.heap.size hus u5 (allT N bs k) rfl HS5a.out.vals _ _ (.slice (some ⟨wr.heap.size, 0, none⟩) N N) (padB N l) rfl (cell_one _ _ _) HRV.out hb1 (by simp; omega) ?_); intro v6 w6 hown6 hgr6 hat6; have HS6 := hid (HS5a.out.vals_grown hown6 hgr6 hat6); have HX6 := hid (HS5a.out.young HX5a.out hyo (.inr hgr6)); clear hown6 hgr6 hat6 tk1 _t)
          | (at_builtin; have _t := tk2; go_must (refine wpList_appInts _ rfl _ _ 67 rfl w6.heap.size 5 .u8 1 hub info_u8 _ [] rfl (OwnInts.empty w6 w6.heap.size .u8 5 (Nat.le_refl _)) (some ⟨wr.heap.size, 0, none⟩) N (enc8 (padB N l)) (by rw [enc8_length, padB_length]; rfl) (fun e => by cases e) ((OwnInts.ints HX6.out).1.kept ((Keeps.refl NoB w6).alloc _)) (by rw [enc8_length, padB_length]; simp; omega) (by rw [enc8_length, padB_length]; simp; omega) (by simp) ?_); intro v7 w7 hown7 hgr7; have HK7 := hid (((Keeps.refl NoB w6).alloc (.cells #[] 5)).grown (show (w6.alloc (.cells #[] 5)).grownBy w7 (some w6.heap.size) from hgr7) (fun i e hi => by injection e with e; omega)); have HX7 := hid (show OwnB w7 w6.heap.size v7 (padB N l) from hown7); obtain ⟨A7, c7, hv7, _, _, _⟩ := OwnB.reads HX7.out; rw [padB_length] at hv7; subst hv7; have HS7 := hid (HS6.out.kept HK7.out); have hsz7 := HS7.out.keeps.size; have HKA7 := hid ((Keeps.refl NoB w7).alloc (.cells #[.slice A6 lo c6, .slice A7 N c7] 69)); have HS7a := hid (HS7.out.kept HKA7.out); have HX7a := hid (OwnInts.kept HX7.out HKA7.out); have HP7 := hid (show PairIn (fun b => (b < (w7.alloc (.cells #[.slice A6 lo c6, .slice A7 N c7] 69)).heap.size ∧ v6.ownBlock ≠ some b) ∧ u4.ownBlock ≠ some b) (w7.alloc (.cells #[.slice A6 lo c6, .slice A7 N c7] 69)) (.slice A6 lo c6) (.slice A7 N c7) ⟨of, padB N l⟩ from ⟨(HN6.out.keeps (HK0.out.fresh HS7a.out.keeps) (fun _ _ h => h)).mono (fun b hb2 hb => ⟨⟨hb2, fun e => by have := (HS7.out.vals.base_le b e).1; omega⟩, fun e => by have := (HS7.out.eqs.base_le b e).1; omega⟩), (OwnB.row HX7a.out).mono (fun b hb2 hb => ⟨⟨hb2, fun e => by have h1 := (OwnInts.base_le HX7.out b hb).1; have h2 := (HS6.out.vals.base_le b e).2; omega⟩, fun e => by have h1 := (OwnInts.base_le HX7.out b hb).1; have h2 := (HS6.out.eqs.base_le b e).2; omega⟩)⟩); have hcc := cells2 (heap_alloc_new w7 (.cells #[.slice A6 lo c6, .slice A7 N c7] 69)); have HC1 := hid hcc.1; have HC2 := hid hcc.2; clear hcc hown7 hgr7 tk2 _t)
          | (at_builtin; have _t := tk3; go_must (refine wpList_app1EqR rfl _ _ 60 rfl w0.heap.size hue u4 (esK N bs ofs k) rfl HS7a.out.eqs _ _ _ _ ⟨of, padB N l⟩ rfl HC1.out HC2.out HP7.out k hel.out (by omega) (by simp; omega) ?_); intro A9 c9 w9 hown9 hgr9 hat9; have HS9 := hid (HS7a.out.eqs_grown hown9 hgr9 hat9); clear hown9 hgr9 hat9 tk3 _t))
        go_roundw
        case rel => exact ⟨k + 1, by omega, by go_num, hid (by rw [hes.out, has.out]; exact HS9.out)⟩
        case measure => simp [intOf]; omega
    · obtain rfl : k = m := by omega
      have HSE := hid (show OwnEqs (fun _ => True) wr w.heap.size u4 (esK N bs ofs k) from OwnEqs.lower (HS.out.eqs.mono (fun _ _ _ => trivial)) (by have := HK0.out.size; omega))
      have HSV := hid (show OwnRows (fun _ => True) wr w.heap.size u5 (allT N bs k) from OwnRows.lower (HS.out.vals.mono (fun _ _ _ => trivial)) (by have := HK0.out.size; omega))
      have HKF := hid (HK0.out.fresh HS.out.keeps)
      go_wp2_with fail
      go_ret2
      exact ⟨_, _, rfl, HSE.out, HSV.out, HKF.out⟩
end Go.Proofs.Ytkjaacpcnjakcaa
/- Are numbers of blocks such as there are; which aren't known; which follow: the reference's walks. Conditions: numbers are of their kinds; lengths are small. -/
set_option linter.unusedVariables false
namespace Go.Proofs.Ytkjaacpcnjakcaa
open Go.RowKit

set_option maxHeartbeats 1600000 in
set_option maxRecDepth 20000 in
theorem rfits16_calls (all : Int) (of : List Int) (A : Option Addr) (c : Nat) (w : World) (h : IntsAt w .i64 A of) :
    Calls Try.prog 33 #[.int .i64 all, .slice A of.length c] w fun e w' => e = .returned (.bool (fitsN all of)) ∧ Keeps NoB w w' := by
  have hl := h.len
  have HC := hid h
  have HNO := hid (fun k (hk : k < of.length) (h : fitAt all of k = false) => fitsN_no hk h)
  have HYES := hid (fun h => fitsN_yes (all := all) (of := of) h)
  clear h
  obtain ⟨n, hn⟩ : ∃ n, of.length = n := ⟨_, rfl⟩
  rw [hn] at hl ⊢
  have hnn := hid hn
  clear hn
  go_enter Try.func33, Try.ntmps33
  go_wp2_with fail
  go_loopw [5] (fun v5 wr => ∃ k : Nat, k ≤ n ∧ v5 = .int .i64 (k : Int) ∧ Hid (∀ j, j < k → fitAt all of j = true) ∧ Hid (Keeps NoB w wr)) (fun v5 _ => n - (intOf v5).toNat)
  case atStart => exact ⟨0, Nat.zero_le _, rfl, fun j hj => absurd hj (Nat.not_lt_zero _), Keeps.refl _ _⟩
  case round =>
    obtain ⟨k, hk, rfl, HJ, HK⟩ := hrel
    by_cases hlt : k < n
    · obtain ⟨b, off, rfl, hc⟩ := (HC.out.kept HK.out).get (by rw [hnn.out]; omega)
      have c1 := hc k (by rw [hnn.out]; exact hlt)
      have p0 : (0 : Int) ≤ (k : Int) := by omega
      have p1 : (k : Int) < (n : Int) := by omega
      have hno := hid (HNO.out k (by rw [hnn.out]; exact hlt))
      have hfa := hid (show fitAt all of k = (decide (0 ≤ gi of k) && decide (gi of k < all) && (decide (k = 0) || decide (gi of (k - 1) < gi of k))) from rfl)
      by_cases h0 : gi of k < 0
      · have d0 : decide (gi of k < 0) = true := decide_eq_true h0
        have hr := hid (hno.out (by rw [hfa.out, decide_eq_false (show ¬ (0 : Int) ≤ gi of k by omega)]; rfl))
        clear hc h0
        generalize gi of k = x at *
        go_wp2_with fail
        go_quiet (fail)
        go_wp2_with fail
        go_ret
        rw [hr.out]; exact ⟨rfl, HK.out.drewN _⟩
      · have d0 : decide (gi of k < 0) = false := decide_eq_false h0
        by_cases h1 : gi of k < all
        · have d1 : decide (all ≤ gi of k) = false := decide_eq_false (by omega)
          cases k with
          | zero =>
            have hok := hid (show fitAt all of 0 = true by rw [hfa.out, decide_eq_true (show (0 : Int) ≤ gi of 0 by omega), decide_eq_true h1]; rfl)
            have c1' : wr.cell? ⟨b, off, none⟩ = some (.int .i64 (gi of 0)) := c1
            have HJ2 := hid (show ∀ j, j < 0 + 1 → fitAt all of j = true from fun j hj => by obtain rfl : j = 0 := by omega
                                                                                             exact hok.out)
            clear hc h0 h1 c1
            generalize gi of 0 = x at *
            go_wp2_with fail
            go_quiet (fail)
            go_wp2_with fail
            go_roundw
            case rel => exact ⟨1, by omega, by go_num, HJ2, hid (HK.out.drewN _)⟩
            case measure => simp [intOf]; omega
          | succ k =>
            have c2 := hc k (by rw [hnn.out]; omega)
            have hsub : IntKind.i64.wrap ((k : Nat) : Int) = (k : Int) := IntWalk.i64_in _ (by omega)
            have p5 : (0 : Int) ≤ (k : Int) := by omega
            have p6 : (k : Int) < (n : Int) := by omega
            have hgt : decide ((0 : Int) < (k : Int) + 1) = true := decide_eq_true (by omega)
            rw [show k + 1 - 1 = k from rfl] at hfa
            by_cases h2 : gi of k < gi of (k + 1)
            · have d2 : decide (gi of (k + 1) ≤ gi of k) = false := decide_eq_false (by omega)
              have hok := hid (show fitAt all of (k + 1) = true by rw [hfa.out, decide_eq_true (show (0 : Int) ≤ gi of (k + 1) by omega), decide_eq_true h1, decide_eq_true h2]; simp)
              have HJ2 := hid (show ∀ j, j < k + 1 + 1 → fitAt all of j = true from fun j hj => by
                by_cases e : j = k + 1
                · rw [e]; exact hok.out
                · exact HJ.out j (by omega))
              clear hc h0 h1 h2
              generalize gi of (k + 1) = x at *
              generalize gi of k = y at *
              go_wp2_with fail
              go_quiet (fail)
              go_wp2_with fail
              go_roundw
              case rel => exact ⟨k + 1 + 1, by omega, by go_num, HJ2, hid (HK.out.drewN _)⟩
              case measure => simp [intOf]; omega
            · have d2 : decide (gi of (k + 1) ≤ gi of k) = true := decide_eq_true (by omega)
              have hr := hid (hno.out (by rw [hfa.out, decide_eq_false h2, decide_eq_false (show ¬ k + 1 = 0 by omega)]; simp))
              clear hc h0 h1 h2
              generalize gi of (k + 1) = x at *
              generalize gi of k = y at *
              go_wp2_with fail
              go_quiet (fail)
              go_wp2_with fail
              go_ret
              rw [hr.out]; exact ⟨rfl, HK.out.drewN _⟩
        · have d1 : decide (all ≤ gi of k) = true := decide_eq_true (by omega)
          have hr := hid (hno.out (by rw [hfa.out, decide_eq_false h1]; simp))
          clear hc h0 h1
          generalize gi of k = x at *
          go_wp2_with fail
          go_quiet (fail)
          go_wp2_with fail
          go_ret
          rw [hr.out]; exact ⟨rfl, HK.out.drewN _⟩
    · obtain rfl : n = k := by omega
      have hr := hid (HYES.out (by rw [hnn.out]; exact HJ.out))
      go_wp2_with fail
      go_ret
      rw [hr.out]; exact ⟨rfl, HK.out⟩
set_option maxHeartbeats 800000 in
set_option maxRecDepth 20000 in
theorem rleft_calls (ks of : List Int) (K A : Option Addr) (ck c : Nat) (w : World) (hk : IntsAt w .i64 K ks) (h : IntsAt w .i64 A of) (hl : of.length ≤ 1073741824) :
    Calls Try.prog 35 #[.slice K ks.length ck, .slice A of.length c] w fun e w' => ∃ v, e = .returned v ∧ OwnInts w' w.heap.size .i64 3 v (unkN ks of) ∧ Keeps NoB w w' := by
  have HC := hid h
  have HKN := hid (fun (w' : World) (hh : Keeps NoB w w') (i : Int) => has_calls ks i K ck w' (hk.kept hh))
  have HT := hid (unkN_take ks of)
  have HLE := hid (show ∀ k, (unkN ks (of.take k)).length ≤ of.length from fun k => Nat.le_trans (unkN_le _ _) (by rw [List.length_take]; omega))
  have hu := Try.underlying27
  clear h hk
  obtain ⟨n, hn⟩ : ∃ n, of.length = n := ⟨_, rfl⟩
  rw [hn] at hl HLE ⊢
  have hnn := hid hn
  clear hn
  go_enter Try.func35, Try.ntmps35
  go_wp2_with fail
  go_loopw [5, 6] (fun v5 v6 wr => ∃ k : Nat, k ≤ n ∧ v6 = .int .i64 (k : Int) ∧ Hid (OwnInts wr w.heap.size .i64 3 v5 (unkN ks (of.take k))) ∧ Hid (Keeps NoB w wr)) (fun _ v6 _ => n - (intOf v6).toNat)
  case atStart => exact ⟨0, Nat.zero_le _, rfl, OwnInts.empty _ _ _ _ (Nat.le_refl _), (Keeps.refl NoB w).alloc _⟩
  case round =>
    obtain ⟨k, hk, rfl, HO, HK⟩ := hrel
    by_cases hlt : k < n
    · obtain ⟨b1, o1, rfl, hc1⟩ := HC.out.get (by rw [hnn.out]; omega)
      have c1 := HK.out.cell (hc1 k (by rw [hnn.out]; exact hlt)) (fun h => h)
      have p0 : (0 : Int) ≤ (k : Int) := by omega
      have p1 : (k : Int) < (n : Int) := by omega
      have ht := hid (HT.out k (by rw [hnn.out]; exact hlt))
      have hle := HLE.out k
      have hcg := hid (hc1 k (by rw [hnn.out]; exact hlt))
      clear hc1
      generalize gi of k = i at *
      go_wp2_with fail
      refine (HKN.out wr HK.out i).mono ?_
      rintro e w2 ⟨rfl, HK2⟩
      have HO2 := hid (HO.out.kept HK2)
      have HK2 := hid (HK.out.fresh HK2)
      have c1 := HK2.out.cell hcg.out (fun h => h)
      by_cases hx : i ∈ ks
      · rw [decide_eq_true hx]
        have ht2 := hid (show unkN ks (of.take (k + 1)) = unkN ks (of.take k) by rw [ht.out, if_pos hx, List.append_nil])
        clear hx
        go_wp2_with fail
        go_roundw
        case rel => exact ⟨k + 1, by omega, by go_num, by rw [ht2.out]; exact HO2, HK2⟩
        case measure => simp [intOf]; omega
      · rw [decide_eq_false hx]
        have ht2 := hid (show unkN ks (of.take (k + 1)) = unkN ks (of.take k) ++ [i] by rw [ht.out, if_neg hx])
        clear hx
        go_wp2_with (at_builtin; go_must (refine wpList_app1 _ rfl _ _ 27 rfl w.heap.size 3 .i64 8 hu info_int _ _ rfl (OwnInts.alloc HO2.out _) _ _ _ rfl (cell_one _ _ _) (by omega) (by omega) (by have := HK2.out.size; simp at this ⊢; omega) ?_); intro v4 w4 hown4 hgr4 _)
        go_roundw
        case rel => exact ⟨k + 1, by omega, by go_num, by rw [ht2.out]; exact hid hown4, hid ((HK2.out.alloc _).own (OwnInts.alloc HO2.out _) hgr4 (Nat.le_refl _))⟩
        case measure => simp [intOf]; omega
    · obtain rfl : n = k := by omega
      have hall : of.take n = of := by rw [← hnn.out, List.take_length]
      rw [hall] at HO
      clear hall
      go_wp2_with fail
      go_ret
      exact ⟨_, rfl, HO.out, HK.out⟩
end Go.Proofs.Ytkjaacpcnjakcaa
/- The blocks that follow, pass by pass: the reference's walk. Condition: lengths are small. -/
set_option linter.unusedVariables false
namespace Go.Proofs.Ytkjaacpcnjakcaa
open Go.RowKit

theorem ins_rising {l : List Int} (h : l.Pairwise (· < ·)) {x : Int} (hx : x ∉ l) : (ins x l).Pairwise (· < ·) :=
  rising_of (ins_sorted x l (h.imp (fun h => by omega))) ((ins_perm x l).nodup_iff.2 (List.nodup_cons.2 ⟨hx, nodup_of_rising h⟩))
theorem known_le {all : Int} {eqs : List (List Int)} {r : List Int} (hr : r.Pairwise (· < ·)) (h : ∀ x ∈ r, Follows all eqs x) : r.length ≤ eqs.flatten.length := by
  have e : r = (reachN all eqs).filter (fun x => decide (x ∈ r)) := rise_ext hr ((reachN_rising all eqs).filter _) (fun x => by
    rw [List.mem_filter, mem_reachN]
    exact ⟨fun hx => ⟨h x hx, by simpa using hx⟩, fun hx => by simpa using hx.2⟩)
  rw [e]
  exact Nat.le_trans (List.length_filter_le _ _) (reachN_length all eqs)
/-- Where a pass stands. -/
def Pass (all : Int) (eqs : List (List Int)) (L0 k : Nat) (known : List Int) (more : Bool) : Prop :=
  (more = true ∧ L0 < known.length) ∨ (more = false ∧ known.length = L0 ∧ ∀ j, j < k → fitsN all (gl eqs j) = true → (unkN known (gl eqs j)).length ≠ 1)
def lenV : Value → Nat
  | .slice _ n _ => n
  | _ => 0
def moreV : Value → Nat
  | .bool true => 1
  | _ => 0
structure KnownAt (all : Int) (eqs : List (List Int)) (w : World) (A : Option Addr) (known : List Int) : Prop where
  at_ : IntsAt w .i64 A known
  rising : known.Pairwise (· < ·)
  follow : ∀ y ∈ known, Follows all eqs y
set_option maxHeartbeats 1600000 in
set_option maxRecDepth 20000 in
theorem rreach_calls (all : Int) (eqs : List (List Int)) (A : Option Addr) (c : Nat) (w : World) (h : RowsAt w A eqs) (hB : eqs.flatten.length ≤ 1000000) (hr : ∀ of ∈ eqs, of.length ≤ 1000000) :
    Calls Try.prog 30 #[.int .i64 all, .slice A eqs.length c] w fun e w' => ∃ A' c', e = .returned (.slice A' (reachN all eqs).length c') ∧ (reachN all eqs).length ≤ c' ∧ IntsAt w' .i64 A' (reachN all eqs) ∧ Keeps NoB w w' := by
  have hl := h.1
  have HC := hid h
  have HB := hid hB
  have HR := hid (fun k (hk : k < eqs.length) => hr (gl eqs k) (by rw [gl_eq eqs k hk]; exact List.getElem_mem hk))
  have HMEM := hid (fun k (hk : k < eqs.length) => (show gl eqs k ∈ eqs by rw [gl_eq eqs k hk]; exact List.getElem_mem hk))
  have HALL := hid (show (∀ j, j < eqs.length → ∀ P : List Int → Prop, P (gl eqs j) → P (gl eqs j)) from fun _ _ _ h => h)
  obtain ⟨B, hBB⟩ : ∃ B, eqs.flatten.length = B := ⟨_, rfl⟩
  have HKL := hid (fun (r : List Int) (h1 : r.Pairwise (· < ·)) (h2 : ∀ x ∈ r, Follows all eqs x) => (show r.length ≤ B by rw [← hBB]; exact known_le h1 h2))
  rw [hBB] at hB
  have hBB := hid hBB
  clear h hr HALL
  obtain ⟨n, hn⟩ : ∃ n, eqs.length = n := ⟨_, rfl⟩
  rw [hn] at hl ⊢
  have hnn := hid hn
  clear hn
  go_enter Try.func30, Try.ntmps30
  go_wp2_with fail
  go_loopw [5, 6] (fun v5 v6 wr => ∃ (known : List Int) (more : Bool) (K : Option Addr) (ck : Nat), v5 = .slice K known.length ck ∧ known.length ≤ ck ∧ v6 = .bool more ∧ Hid (KnownAt all eqs wr K known) ∧ Hid (more = false → ∀ j, j < n → fitsN all (gl eqs j) = true → (unkN known (gl eqs j)).length ≠ 1) ∧ Hid (Keeps NoB w wr)) (fun v5 v6 _ => 2 * (B - lenV v5) + moreV v6)
  case atStart => exact ⟨[], true, _, _, rfl, Nat.le_refl _, rfl, ⟨⟨by simp, fun h => by simp at h⟩, List.Pairwise.nil, fun y hy => by simp at hy⟩, hid (fun h => by cases h), (Keeps.refl NoB w).alloc _⟩
  case round =>
    obtain ⟨known0, more0, K0, ck0, rfl, hck0, rfl, HK0, HD, HKP⟩ := hrel
    cases more0 with
    | false =>
      have hend := hid (reach_done HK0.out.rising HK0.out.follow (fun of hof hfit => by
        obtain ⟨j, hj, e⟩ := List.getElem_of_mem hof
        have := HD.out rfl j (by rw [← hnn.out]; exact hj)
        rw [gl_eq eqs j hj, e] at this
        exact this hfit))
      go_wp2_with fail
      go_ret
      rw [← hend.out]
      exact ⟨K0, ck0, rfl, hck0, HK0.out.at_, HKP.out⟩
    | true =>
      obtain ⟨L0, hL0⟩ : ∃ L, known0.length = L := ⟨_, rfl⟩
      rw [hL0] at hck0 ⊢
      have hL0 := hid hL0
      generalize hw0 : wr = wp at *
      clear hw0
      go_wp2_with fail
      go_loopw [5, 6, 7] (fun v5 v6 v7 wr => ∃ (k : Nat) (known : List Int) (more : Bool) (K : Option Addr) (ck : Nat), k ≤ n ∧ v7 = .int .i64 (k : Int) ∧ v5 = .slice K known.length ck ∧ known.length ≤ ck ∧ v6 = .bool more ∧ Hid (KnownAt all eqs wr K known) ∧ Hid (Pass all eqs L0 k known more) ∧ Hid (Keeps NoB w wr)) (fun _ _ v7 _ => n - (intOf v7).toNat)
      case atStart => exact ⟨0, known0, false, K0, ck0, Nat.zero_le _, rfl, by rw [hL0.out], by rw [hL0.out]; exact hck0, rfl, HK0, hid (.inr ⟨rfl, hL0.out, fun j hj => absurd hj (Nat.not_lt_zero _)⟩), HKP⟩
      case round =>
        obtain ⟨k, known, more, K, ck, hk, rfl, rfl, hck, rfl, HK, HPA, HKP⟩ := hrel
        by_cases hlt : k < n
        · obtain ⟨b, off, rfl, hc⟩ := (HC.out.kept HKP.out).2 (by rw [hnn.out]; omega)
          obtain ⟨u, cu, A1, c1, rfl, _, _, hat⟩ := hc k (by rw [hnn.out]; exact hlt)
          have HAT := hid hat
          have hrl := HR.out k (by rw [hnn.out]; exact hlt)
          have hmem := hid (HMEM.out k (by rw [hnn.out]; exact hlt))
          have p0 : (0 : Int) ≤ (k : Int) := by omega
          have p1 : (k : Int) < (n : Int) := by omega
          have hkl := HKL.out known HK.out.rising HK.out.follow
          clear hc hat
          obtain ⟨of, hof⟩ : ∃ of, gl eqs k = of := ⟨_, rfl⟩
          rw [hof] at cu HAT hrl hmem
          have HOF := hid hof
          clear hof
          go_wp2_with fail
          refine (rfits16_calls all of A1 c1 wr HAT.out).mono ?_
          rintro e w2 ⟨rfl, hk2⟩
          have HK2 := hid (HKP.out.fresh hk2)
          have cu := hk2.cell cu (fun h => h)
          have HAT := hid (HAT.out.kept hk2)
          have HKN := hid (show KnownAt all eqs w2 K known from ⟨HK.out.at_.kept hk2, HK.out.rising, HK.out.follow⟩)
          clear hk2
          by_cases hf : fitsN all of = true
          · rw [hf]
            have HF := hid hf
            clear hf
            go_wp2_with fail
            refine (rleft_calls known of K A1 ck c1 w2 HKN.out.at_ HAT.out (by omega)).mono ?_
            rintro e w3 ⟨v3, rfl, ho3, hk3⟩
            obtain ⟨A3, c3, rfl, _, hat3⟩ := ho3.reads
            have HAT3 := hid hat3
            have HK3 := hid (HK2.out.fresh hk3)
            have HKN3 := hid (show KnownAt all eqs w3 K known from ⟨HKN.out.at_.kept hk3, HKN.out.rising, HKN.out.follow⟩)
            clear ho3 hat3 hk3
            by_cases h1 : (unkN known of).length = 1
            · obtain ⟨x, hx⟩ : ∃ x, unkN known of = [x] := by
                match hu : unkN known of with
                | [] => rw [hu] at h1; simp at h1
                | [x] => exact ⟨x, rfl⟩
                | a :: b :: r => rw [hu] at h1; simp at h1
              have hfo := hid (follows_one HKN.out.follow hmem.out HF.out hx)
              have hxn := hid ((mem_unkN known of x).1 (by rw [hx]; exact List.mem_singleton.2 rfl)).2
              rw [hx] at HAT3 ⊢
              obtain ⟨b3, o3, rfl, hc3⟩ := HAT3.out.get (by simp)
              have cx : w3.cell? ⟨b3, o3, none⟩ = some (.int .i64 x) := hc3 0 (by simp)
              have d1 : (((([x] : List Int).length : Nat) : Int) == 1) = true := by simp
              clear hx h1 hc3
              go_wp2_with fail
              refine (insert_calls known x K ck w3 HKN3.out.at_ (by omega)).mono ?_
              rintro e w4 ⟨v4, rfl, ho4, hk4⟩
              obtain ⟨A4, c4, rfl, hc4, hat4⟩ := ho4.reads
              have HKN4 := hid (show KnownAt all eqs w4 A4 (ins x known) from ⟨hat4, ins_rising HKN3.out.rising hxn.out, fun y hy => by
                rcases (mem_ins x y known).1 hy with e | h
                · rw [e]; exact hfo.out
                · exact HKN3.out.follow y h⟩)
              have HK4 := hid (HK3.out.fresh hk4)
              have HP4 := hid (show Pass all eqs L0 (k + 1) (ins x known) true from .inl ⟨rfl, by
                rw [ins_length]
                rcases HPA.out with ⟨_, h⟩ | ⟨_, h, _⟩ <;> omega⟩)
              clear ho4 hat4 hk4
              go_wp2_with fail
              go_roundw
              case rel => exact ⟨k + 1, ins x known, true, A4, c4, by omega, by go_num, rfl, hc4, rfl, HKN4, HP4, HK4⟩
              case measure => simp [intOf]; omega
            · have d1 : ((((unkN known of).length : Nat) : Int) == 1) = false := by simp; omega
              have HP4 := hid (show Pass all eqs L0 (k + 1) known more from by
                rcases HPA.out with h | ⟨h2, h3, h4⟩
                · exact .inl h
                · refine .inr ⟨h2, h3, fun j hj hfj => ?_⟩
                  by_cases e : j = k
                  · rw [e, HOF.out]; exact h1
                  · exact h4 j (by omega) hfj)
              clear h1
              go_wp2_with fail
              go_roundw
              case rel => exact ⟨k + 1, known, more, K, ck, by omega, by go_num, rfl, hck, rfl, HKN3, HP4, HK3⟩
              case measure => simp [intOf]; omega
          · have hf : fitsN all of = false := by simpa using hf
            have HP4 := hid (show Pass all eqs L0 (k + 1) known more from by
              rcases HPA.out with h | ⟨h2, h3, h4⟩
              · exact .inl h
              · refine .inr ⟨h2, h3, fun j hj hfj => ?_⟩
                by_cases e : j = k
                · rw [e, HOF.out, hf] at hfj; cases hfj
                · exact h4 j (by omega) hfj)
            rw [hf]
            clear hf
            go_wp2_with fail
            go_roundw
            case rel => exact ⟨k + 1, known, more, K, ck, by omega, by go_num, rfl, hck, rfl, HKN, HP4, HK2⟩
            case measure => simp [intOf]; omega
        · obtain rfl : n = k := by omega
          have hkl := HKL.out known HK.out.rising HK.out.follow
          have hkl0 := HKL.out known0 HK0.out.rising HK0.out.follow
          have hpa := HPA.out
          go_wp2_with fail
          go_roundw
          case rel => exact ⟨known, more, K, ck, rfl, hck, rfl, HK, hid (fun hm => by
            rcases hpa with ⟨h, _⟩ | ⟨_, _, h⟩
            · rw [hm] at h; cases h
            · exact h), HKP⟩
          case measure =>
            rcases hpa with ⟨rfl, h⟩ | ⟨rfl, h, _⟩
            · simp [lenV, moreV]; omega
            · simp [lenV, moreV]; omega
end Go.Proofs.Ytkjaacpcnjakcaa
/- The values of the blocks that follow, and whether all closed equations hold of them: the plain law. No condition. -/
set_option linter.unusedVariables false
namespace Go.Proofs.Ytkjaacpcnjakcaa

/-- An equation's value, and the blocks that are known, one by one. -/
def restL (known of : List Int) (val : List UInt8) (vals : List (List UInt8)) : List (List UInt8) := val :: (of.filter fun i => decide (i ∈ known)).map fun i => gr vals i.toNat
def restN (n : Nat) (known of : List Int) (val : List UInt8) (vals : List (List UInt8)) : List UInt8 := sumB n (restL known of val vals)
theorem restL_take (known of : List Int) (val : List UInt8) (vals : List (List UInt8)) (k : Nat) (h : k < of.length) : restL known (of.take (k + 1)) val vals = restL known (of.take k) val vals ++ (if gi of k ∈ known then [gr vals (gi of k).toNat] else []) := by
  unfold restL
  rw [take_gi2 of k h, List.filter_append, List.map_append]
  by_cases hx : gi of k ∈ known <;> simp [hx]
theorem restL_fit {n : Nat} {known of : List Int} {val : List UInt8} {vals : List (List UInt8)} (hv : val.length = n) (h : ∀ x ∈ of, x ∈ known → (gr vals x.toNat).length = n) : fitB n (restL known of val vals) = true := by
  unfold fitB restL
  rw [List.all_cons, List.all_map, Bool.and_eq_true, List.all_eq_true]
  refine ⟨by simp [hv], fun x hx => ?_⟩
  rw [List.mem_filter] at hx
  simpa using h x hx.1 (by simpa using hx.2)
theorem restN_length {n : Nat} {known of : List Int} {val : List UInt8} {vals : List (List UInt8)} (hv : val.length = n) (h : ∀ x ∈ of, x ∈ known → (gr vals x.toNat).length = n) : (restN n known of val vals).length = n := sumB_length (restL_fit hv h)
/-- The values of the known ones, which every solution has. -/
structure VN (all : Int) (n : Nat) (es : List EqV) (known : List Int) (vals : List (List UInt8)) : Prop where
  len : vals.length = all.toNat
  rows : ∀ x ∈ known, (gr vals x.toNat).length = n
  forced : ∀ f, ValsF n f → (∀ e ∈ es, closedE all n (reachN all (es.map EqV.of)) e = true → SatE n f e) → ∀ x ∈ known, f x = gr vals x.toNat
  others : ∀ i : Nat, (i : Int) ∉ known → gr vals i = []
theorem gr_replicate (m i : Nat) : gr (List.replicate m ([] : List UInt8)) i = [] := by
  unfold gr
  rw [List.getD_eq_getElem?_getD, List.getElem?_replicate]
  split <;> rfl
theorem VN.none (all : Int) (n : Nat) (es : List EqV) : VN all n es [] (List.replicate all.toNat []) := ⟨by simp, by simp, by simp, fun i _ => gr_replicate _ i⟩
theorem gr_setB (vals : List (List UInt8)) (j i : Nat) (v : List UInt8) (h : j < vals.length) : gr (vals.set j v) i = if i = j then v else gr vals i := by
  unfold gr
  rw [List.getD_eq_getElem?_getD, List.getElem?_set]
  by_cases e : j = i
  · subst e; simp [h]
  · rw [if_neg e, if_neg (fun h => e h.symm), List.getD_eq_getElem?_getD]
theorem VN.step {all : Int} {n : Nat} {es : List EqV} {known : List Int} {vals : List (List UInt8)} {e : EqV} {x : Int} (h : VN all n es known vals) (hk : ∀ y ∈ known, Follows all (es.map EqV.of) y) (he : e ∈ es) (hfit : fitsN all e.of = true) (hv : e.val.length = n) (hu : unkN known e.of = [x]) :
    VN all n es (ins x known) (vals.set x.toNat (restN n known e.of e.val vals)) := by
  have hxm := (mem_unkN known e.of x).1 (by rw [hu]; exact List.mem_singleton.2 rfl)
  have hx := fitsN_in hfit x hxm.1
  have hxl : x.toNat < vals.length := by rw [h.len]; omega
  have hk0 : ∀ y ∈ known, 0 ≤ y ∧ y < all := fun y hy => by
    obtain ⟨of, _, hf, hm⟩ := (hk y hy).mem
    exact fitsN_in hf y hm
  have hne : ∀ y ∈ known, y.toNat ≠ x.toNat := fun y hy e0 => by
    have := hk0 y hy
    have e1 : y = x := by omega
    exact hxm.2 (e1 ▸ hy)
  refine ⟨by rw [List.length_set]; exact h.len, fun y hy => ?_, fun f hf hs y hy => ?_, fun i hi => ?_⟩
  · rw [gr_setB _ _ _ _ hxl]
    rcases (mem_ins x y known).1 hy with rfl | hy
    · rw [if_pos rfl]; exact restN_length hv (fun y _ hy => h.rows y hy)
    · rw [if_neg (hne y hy)]; exact h.rows y hy
  · rw [gr_setB _ _ _ _ hxl]
    rcases (mem_ins x y known).1 hy with rfl | hy
    · rw [if_pos rfl]
      have hcl : closedE all n (reachN all (es.map EqV.of)) e = true := by
        unfold closedE
        rw [hfit, decide_eq_true hv, Bool.true_and, Bool.true_and, List.all_eq_true]
        intro z hz
        rw [decide_eq_true_eq, mem_reachN]
        by_cases hzk : z ∈ known
        · exact hk z hzk
        · have := (mem_unkN known e.of z).2 ⟨hz, hzk⟩
          rw [hu] at this
          rw [List.mem_singleton.1 this]
          exact follows_one hk (List.mem_map.2 ⟨e, he, rfl⟩) hfit hu
      have hsat := hs e he hcl
      unfold SatE at hsat
      have hperm : (e.of.filter (fun i => decide (i ∈ known)) ++ [y]).Perm e.of := by
        have := List.filter_append_perm (fun i => decide (i ∈ known)) e.of
        rw [show (e.of.filter fun i => !decide (i ∈ known)) = [y] from hu] at this
        exact this
      have h1 : sumF n f e.of = xorL (sumF n f (e.of.filter fun i => decide (i ∈ known))) (f y) := by
        unfold sumF
        rw [← sumB_perm (hperm.map f)]
        have := sumF_append hf (e.of.filter fun i => decide (i ∈ known)) [y]
        rw [show sumF n f [y] = f y by rw [sumF_cons hf, sumF_nil]; exact xor_zero (hf y)] at this
        exact this
      have h2 : sumF n f (e.of.filter fun i => decide (i ∈ known)) = sumB n ((e.of.filter fun i => decide (i ∈ known)).map fun i => gr vals i.toNat) := by
        unfold sumF
        congr 1
        refine List.map_congr_left (fun i hi => h.forced f hf hs i (by simpa using (List.mem_filter.1 hi).2))
      unfold restN restL
      rw [sumB_cons hv, ← h2, hsat, h1, xor_comm _ (f y), xor_assoc, xor_self, sumF_length hf, xor_zero (hf y)]
    · rw [if_neg (hne y hy)]; exact h.forced f hf hs y hy
  · have hix : i ≠ x.toNat := fun e0 => hi ((mem_ins x i known).2 (.inl (by omega)))
    rw [gr_setB _ _ _ _ hxl, if_neg hix]
    exact h.others i (fun hm => hi ((mem_ins x i known).2 (.inr hm)))
/-- Does a closed equation hold of them? -/
def chkE (all : Int) (n : Nat) (known : List Int) (vals : List (List UInt8)) (e : EqV) : Bool := !(fitsN all e.of && decide ((unkN known e.of).length = 0)) || zeroB (restN n known e.of e.val vals)
theorem sum_zero_iff {n : Nat} {v s : List UInt8} (hv : v.length = n) (hs : s.length = n) : zeroB (xorL v s) = true ↔ v = s := by
  constructor
  · intro hz
    have e := zeroB_eq hz
    rw [xorL_length (by rw [hs, hv]), hv] at e
    have e2 := congrArg (xorL v) e
    rw [xor_cancel (by rw [hs, hv]), xor_zero hv] at e2
    exact e2.symm
  · intro e
    rw [e, xor_self]; exact zeroB_zero _
theorem VN.agrees {all : Int} {n : Nat} {es : List EqV} {vals : List (List UInt8)} (h : VN all n es (reachN all (es.map EqV.of)) vals) (hv : ∀ e ∈ es, e.val.length = n) : agreesN all n es = es.all (chkE all n (reachN all (es.map EqV.of)) vals) := by
  obtain ⟨known, hkn⟩ : ∃ known, reachN all (es.map EqV.of) = known := ⟨_, rfl⟩
  have hcl : ∀ e ∈ es, closedE all n known e = (fitsN all e.of && decide ((unkN known e.of).length = 0)) := fun e he => by
    unfold closedE
    rw [decide_eq_true (hv e he), Bool.and_true]
    congr 1
    rw [Bool.eq_iff_iff, decide_eq_true_eq, List.length_eq_zero_iff, List.all_eq_true]
    unfold unkN
    rw [List.filter_eq_nil_iff]
    constructor
    · intro h x hx; simpa using h x hx
    · intro h x hx; simpa using h x hx
  let g : Int → List UInt8 := fun x => if x ∈ known then gr vals x.toNat else List.replicate n 0
  have hg : ValsF n g := fun x => by
    show (if x ∈ known then _ else _ : List UInt8).length = n
    split
    · rename_i hx; exact h.rows x (by rw [hkn]; exact hx)
    · simp
  have hin : ∀ e ∈ es, closedE all n known e = true → ∀ x ∈ e.of, x ∈ known := fun e he hc x hx => by
    simp only [closedE, Bool.and_eq_true, List.all_eq_true, decide_eq_true_eq] at hc
    exact hc.2 x hx
  have hrest : ∀ e ∈ es, closedE all n known e = true → restN n known e.of e.val vals = xorL e.val (sumF n g e.of) := fun e he hc => by
    unfold restN restL
    rw [sumB_cons (hv e he)]
    congr 1
    have h0 : (e.of.filter fun i => decide (i ∈ known)) = e.of := List.filter_eq_self.2 (fun x hx => by simpa using hin e he hc x hx)
    rw [h0]
    unfold sumF
    congr 1
    refine List.map_congr_left (fun i hi => ?_)
    show _ = (if i ∈ known then _ else _)
    rw [if_pos (hin e he hc i hi)]
  have hchk : ∀ e ∈ es, (chkE all n known vals e = true ↔ (closedE all n known e = true → SatE n g e)) := fun e he => by
    unfold chkE
    rw [← hcl e he]
    cases hc : closedE all n known e with
    | false => simp
    | true =>
      rw [Bool.not_true, Bool.false_or, hrest e he hc, sum_zero_iff (hv e he) (sumF_length hg _)]
      exact ⟨fun h _ => h, fun h => h rfl⟩
  rw [hkn]
  by_cases ha : es.all (chkE all n known vals) = true
  · rw [ha]
    refine agreesN_yes ⟨g, hg, fun e he hc => ?_⟩
    rw [hkn] at hc
    exact (hchk e he).1 (List.all_eq_true.1 ha e he) hc
  · rw [show es.all (chkE all n known vals) = false by simpa using ha]
    refine agreesN_no ?_
    rintro ⟨f, hf, hs⟩
    apply ha
    rw [List.all_eq_true]
    intro e he
    refine (hchk e he).2 (fun hc => ?_)
    have h1 := hs e he (by rw [hkn]; exact hc)
    unfold SatE at *
    rw [h1]
    refine sumF_congr (fun i hi => ?_)
    have hik := hin e he hc i hi
    rw [h.forced f hf hs i (by rw [hkn]; exact hik)]
    show _ = (if i ∈ known then _ else _)
    rw [if_pos hik]
end Go.Proofs.Ytkjaacpcnjakcaa
/- The values of the blocks that follow, pass by pass: the reference's walk. Conditions: lengths are small. -/
set_option linter.unusedVariables false
namespace Go.Proofs.Ytkjaacpcnjakcaa
open Go.RowKit

theorem rows_cell {R : Nat → Prop} {w : World} {base g n c : Nat} {ls : List (List UInt8)} (h : OwnRows R w base (.slice (some ⟨g, 0, none⟩) n c) ls) {j : Nat} (hj : j < ls.length) : ∃ u, w.cell? ⟨g, j, none⟩ = some u := by
  obtain ⟨us, hul, hown, _⟩ := h
  have hlt : j < us.length := by rw [hul]; exact hj
  exact ⟨us[j], own_cell hown (List.getElem?_eq_getElem hlt)⟩
set_option maxHeartbeats 800000 in
set_option maxRecDepth 20000 in
theorem rput_calls (ls : List (List UInt8)) (x : Nat) (b : List UInt8) (A B : Option Addr) (c cb : Nat) (R : Nat → Prop) (w : World) (h : RowsIn R w A ls) (hx : x < ls.length) (hb : RowIn R w (.slice B b.length cb) b) (hR : ∀ b, R b → b < w.heap.size) (hl : ls.length ≤ 1000000) :
    Calls Try.prog 46 #[.slice A ls.length c, .int .i64 (x : Int), .slice B b.length cb] w fun e w' => ∃ g c', e = .returned (.slice (some ⟨g, 0, none⟩) ls.length c') ∧ OwnRows R w' w.heap.size (.slice (some ⟨g, 0, none⟩) ls.length c') (ls.set x b) ∧ Keeps NoB w w' := by
  obtain ⟨news, hnl, hnc, hnn⟩ := h.cellsB
  have HNN := hid hnn
  have HNC := hid hnc
  have HNL := hid hnl
  have HB := hid hb
  have hus := Try.underlying57
  obtain ⟨b0, o0, rfl, _, _⟩ := h.2 (by omega)
  clear hnl hnc hnn hb
  obtain ⟨m, hm⟩ : ∃ m, ls.length = m := ⟨_, rfl⟩
  obtain ⟨lb, hlb⟩ : ∃ m, b.length = m := ⟨_, rfl⟩
  rw [hm] at hx hl HNL ⊢
  rw [hlb] at HB ⊢
  have HM := hid hm
  have HLB := hid hlb
  clear hm hlb h
  have HKA := hid ((Keeps.refl NoB w).alloc (.cells #[] 67))
  have HN2 := hid (show ∀ (j : Nat) (u : Value), news[j]? = some u → RowIn (fun b => R b ∧ (Value.slice (some ⟨w.heap.size, 0, none⟩) 0 0).ownBlock ≠ some b) (w.alloc (.cells #[] 67)) u (gr ls j) from fun j u hj => ((HNN.out j u hj).keeps HKA.out (fun _ _ h => h)).mono (fun b _ hb => ⟨hb, fun e => by have h1 := hR b hb; have h2 : w.heap.size = b := (by simpa [Value.ownBlock] using e); omega⟩))
  have p0 : (0 : Int) ≤ (x : Int) := by omega
  have p1 : (x : Int) < (m : Int) := by omega
  go_enter Try.func46, Try.ntmps46
  go_wp2_with (at_builtin; go_must (refine wpList_appRowsBA rfl _ _ 57 R rfl w.heap.size hus _ [] rfl (OwnRows.empty R w w.heap.size (Nat.le_refl _) 0 #[] rfl) (some ⟨b0, o0, none⟩) c ls news (by rw [HM.out]; rfl) (fun e => by cases e) (by rw [HNL.out, HM.out]) (fun ad e j u hj => HKA.out.cell (HNC.out ad e j u hj) (fun h => h)) HN2.out (by rw [HM.out]; simp; omega) (by simp) ?_); intro v3 w3 hown3 hgr3 hat3; have HO3 := hid (show OwnRows R w3 w.heap.size v3 ls from hown3); have HG3 := hid (show (w.alloc (.cells #[] 67)).grownBy w3 (some w.heap.size) from hgr3); obtain ⟨g, c3, hv3⟩ := HO3.out.formB (by rw [HM.out]; omega); rw [HM.out] at hv3; clear hown3 hgr3 hat3; subst hv3; have HK3 := hid (HKA.out.grown HG3.out (fun i e hi => by injection e with e; omega)); obtain ⟨u0, hc0⟩ := rows_cell HO3.out (j := x) (by rw [HM.out]; exact hx); have hf0 := own_free HO3.out.choose_spec.2.1 x; have hgw := (HO3.out.base_le g rfl).1)
  go_ret
  refine ⟨g, c3, rfl, ?_, HK3.out.setCell (p := ⟨g, x, none⟩) (fun h => absurd h (by dsimp only; omega)) _⟩
  refine OwnRows.set HO3.out (by rw [HM.out]; exact hx) ?_
  rw [← HLB.out] at HB ⊢
  exact (HB.out.keeps HK3.out (fun _ _ h => h)).mono (fun b _ hb => ⟨hb, fun e => by have := hR b hb; omega⟩)
set_option maxHeartbeats 800000 in
set_option maxRecDepth 20000 in
theorem rrest_calls (n : Nat) (known of : List Int) (val : List UInt8) (vals : List (List UInt8)) (K A B V : Option Addr) (ck c cb cv : Nat) (R : Nat → Prop) (w : World) (hk : IntsAt w .i64 K known) (ho : IntsAt w .i64 A of) (hv : RowIn R w (.slice B n cb) val) (hvs : RowsIn R w V vals) (hR : ∀ b, R b → b < w.heap.size)
    (hn : val.length = n) (hn2 : n ≤ 1000000) (hin : ∀ i ∈ of, i ∈ known → 0 ≤ i ∧ i < (vals.length : Int) ∧ (gr vals i.toNat).length = n) (hol : of.length ≤ 1000000) :
    Calls Try.prog 47 #[.slice K known.length ck, .slice A of.length c, .slice B n cb, .slice V vals.length cv] w fun e w' => ∃ v, e = .returned v ∧ OwnB w' w.heap.size v (restN n known of val vals) ∧ Keeps NoB w w' := by
  have HK := hid hk
  have HO := hid ho
  have HV := hid hv
  have HVS := hid hvs
  have HIN := hid hin
  have HT := hid (restL_take known of val vals)
  have HFIT := hid (restL_fit hn (fun x hx hxk => (hin x hx hxk).2.2))
  have hus := Try.underlying57
  clear hk ho hv hvs hin
  obtain ⟨m, hm⟩ : ∃ m, of.length = m := ⟨_, rfl⟩
  rw [hm] at hol ⊢
  have HM := hid hm
  have HN := hid hn
  obtain ⟨lv, hlv⟩ : ∃ m, vals.length = m := ⟨_, rfl⟩
  rw [hlv] at HIN ⊢
  have HLV := hid hlv
  clear hm hn hlv
  have hkl := HK.out.len
  have hll := hid (show ∀ k, (restL known (of.take k) val vals).length ≤ m + 1 from fun k => by
    unfold restL
    rw [List.length_cons, List.length_map]
    have h1 := List.length_filter_le (fun i => decide (i ∈ known)) (of.take k)
    have h2 : (of.take k).length ≤ m := by rw [List.length_take, HM.out]; omega
    omega)
  go_enter Try.func47, Try.ntmps47
  go_wp2_with fail
  go_loopw [9, 10] (fun v9 v10 wr => ∃ k : Nat, k ≤ m ∧ v10 = .int .i64 (k : Int) ∧ Hid (OwnRows R wr w.heap.size v9 (restL known (of.take k) val vals)) ∧ Hid (Keeps NoB w wr)) (fun _ v10 _ => m - (intOf v10).toNat)
  case atStart => exact ⟨0, Nat.zero_le _, rfl, hid (OwnRows.lit1 HV.out hR (Nat.le_refl _)), hid ((Keeps.refl NoB w).alloc _)⟩
  case round =>
    obtain ⟨k, hk, rfl, HOW, HKP⟩ := hrel
    by_cases hlt : k < m
    · obtain ⟨b, off, rfl, hc⟩ := HO.out.get (by rw [HM.out]; omega)
      have cx := HKP.out.cell (hc k (by rw [HM.out]; exact hlt)) (fun h => h)
      have p0 : (0 : Int) ≤ (k : Int) := by omega
      have p1 : (k : Int) < (m : Int) := by omega
      have ht := hid (HT.out k (by rw [HM.out]; exact hlt))
      have hix := hid (HIN.out (gi of k) (gi_mem of k (by rw [HM.out]; exact hlt)))
      clear hc
      generalize gi of k = x at *
      have HH := hid (has_calls known x K ck wr (HK.out.kept HKP.out))
      by_cases hxk : x ∈ known
      · rw [decide_eq_true hxk] at HH
        rw [if_pos hxk] at ht
        obtain ⟨hx0, hx1, hx2⟩ := hix.out hxk
        obtain ⟨bv, ov, rfl, _, hcv⟩ := HVS.out.2 (by rw [HLV.out]; omega)
        obtain ⟨u, cu, B2, d2, rfl, hd2, hB2, hrow⟩ := hcv x.toNat (by rw [HLV.out]; omega)
        have hl2 := hll.out k
        have HROW := hid (show RowIn R w (.slice B2 (gr vals x.toNat).length d2) (gr vals x.toNat) from ⟨_, _, rfl, hd2, hB2, hrow⟩)
        clear hcv hd2 hB2 hrow hix hx2
        generalize gr vals x.toNat = l at *
        go_wp2_with fail
        refine HH.out.mono ?_
        rintro e w3 ⟨rfl, hk3⟩
        have HK3 := hid (HKP.out.fresh hk3)
        have HO3 := hid (HOW.out.kept hk3)
        have cx3 := hk3.cell cx (fun h => h)
        have cu3 := HK3.out.cell cu (fun h => h)
        have hsz3 := HK3.out.size
        have HKA := hid ((Keeps.refl NoB w3).alloc (.cells #[.slice B2 l.length d2] 67))
        clear hk3 hxk
        go_wp2_with (at_builtin; go_must (refine wpList_app1RowB rfl _ _ 57 R rfl w.heap.size hus _ (restL known (of.take k) val vals) rfl (HO3.out.kept HKA.out) _ _ (.slice B2 l.length d2) l rfl (cell_one _ _ _) ((HROW.out.keeps (HK3.out.fresh HKA.out) (fun _ _ h => h)).mono (fun b _ hb => ⟨hb, fun e => by have h1 := hR b hb; have h2 := (HO3.out.base_le b e).1; omega⟩)) (by omega) (by simp; omega) ?_); intro v4 w4 hown4 hgr4 hat4)
        have HO4 := hid (show OwnRows R w4 w.heap.size v4 (restL known (of.take (k + 1)) val vals) by rw [ht.out]; exact hown4)
        have HK4 := hid ((HK3.out.fresh HKA.out).grown hgr4 (fun i e hi => by have := (HO3.out.base_le i e.symm).1; omega))
        clear hown4 hgr4 hat4
        go_roundw
        case rel => exact ⟨k + 1, by omega, by go_num, HO4, HK4⟩
        case measure => simp [intOf]; omega
      · rw [decide_eq_false hxk] at HH
        rw [if_neg hxk, List.append_nil] at ht
        clear hxk
        go_wp2_with fail
        refine HH.out.mono ?_
        rintro e w3 ⟨rfl, hk3⟩
        have HK3 := hid (HKP.out.fresh hk3)
        have HO3 := hid (HOW.out.kept hk3)
        clear hk3
        go_wp2_with fail
        go_roundw
        case rel => exact ⟨k + 1, by omega, by go_num, hid (by rw [ht.out]; exact HO3.out), HK3⟩
        case measure => simp [intOf]; omega
    · obtain rfl : k = m := by omega
      have htk : of.take k = of := by rw [← HM.out]; exact List.take_length
      rw [htk] at HOW
      clear htk
      obtain ⟨A9, c9, hv9, _, _, hrows⟩ := HOW.out.reads
      have HRS := hid (rsum_calls n (restL known of val vals) A9 c9 _ wr (by omega) hrows HFIT.out)
      obtain ⟨q, hq⟩ : ∃ q, (restL known of val vals).length = q := ⟨_, rfl⟩
      rw [hq] at hv9 HRS
      subst hv9
      clear hrows hq
      go_wp2_with fail
      refine HRS.out.mono ?_
      rintro e w5 ⟨v5, rfl, ho5, hk5⟩
      have HO5 := hid ho5
      have HK5 := hid (HKP.out.fresh hk5)
      have hsz5 := HKP.out.size
      clear ho5 hk5
      go_wp2_with fail
      go_ret
      exact ⟨_, rfl, OwnInts.lower HO5.out (by omega), HK5.out⟩
theorem gl_of (es : List EqV) (k : Nat) (h : k < es.length) : gl (es.map EqV.of) k = (ge es k).of := by rw [gl_eq _ _ (by rw [List.length_map]; exact h), ge_eq es k h]; simp
theorem gr_val (es : List EqV) (k : Nat) (h : k < es.length) : gr (es.map EqV.val) k = (ge es k).val := by rw [gr_eq _ _ (by rw [List.length_map]; exact h), ge_eq es k h]; simp
theorem chk_take (p : EqV → Bool) (es : List EqV) (k : Nat) (h : k < es.length) : (es.take (k + 1)).all p = ((es.take k).all p && p (ge es k)) := by rw [take_ge es k h, List.all_append]; simp
def Below0 (w : World) : Nat → Prop := fun b => b < w.heap.size
set_option maxHeartbeats 3200000 in
set_option maxRecDepth 20000 in
theorem rsolve_calls (al n : Nat) (es : List EqV) (A B : Option Addr) (c cb : Nat) (R : Nat → Prop) (w : World) (h : RowsAt w A (es.map EqV.of)) (hvs : RowsIn R w B (es.map EqV.val)) (hv : ∀ e ∈ es, e.val.length = n) (hn : n ≤ 1000000) (hB : (ofsE es).length ≤ 1000000) (hr : ∀ e ∈ es, e.of.length ≤ 1000000) (hal : al ≤ 1000000) (hlen : es.length ≤ 1000000) :
    Calls Try.prog 37 #[.int .i64 (al : Int), .int .i64 (n : Int), .slice A es.length c, .slice B es.length cb] w fun e w' => ∃ A' c' v2 vals, e = .returned (.tuple #[.slice A' (reachN (al : Int) (es.map EqV.of)).length c', v2, .bool (agreesN (al : Int) n es)]) ∧ (reachN (al : Int) (es.map EqV.of)).length ≤ c' ∧ IntsAt w' .i64 A' (reachN (al : Int) (es.map EqV.of)) ∧ OwnRows (Below0 w') w' w.heap.size v2 vals ∧ VN (al : Int) n es (reachN (al : Int) (es.map EqV.of)) vals ∧ Keeps NoB w w' := by
  have HC := hid h
  have HVS := hid (hvs.lt.mono (R' := fun b => b < w.heap.size) (fun b _ h => h.2))
  have HVL := hid (fun k (hk : k < es.length) => hv (ge es k) (ge_mem es k hk))
  have HVA := hid hv
  have HR := hid (fun k (hk : k < es.length) => hr (ge es k) (ge_mem es k hk))
  have HMEM := hid (fun k (hk : k < es.length) => ge_mem es k hk)
  have HMM := hid (fun k (hk : k < es.length) => (show (ge es k).of ∈ es.map EqV.of from List.mem_map.2 ⟨_, ge_mem es k hk, rfl⟩))
  have HGO := hid (gl_of es)
  have HGV := hid (gr_val es)
  have HBB : (es.map EqV.of).flatten.length ≤ 1000000 := by rw [flat_ofs]; exact hB
  obtain ⟨NB, hNB⟩ : ∃ NB, (es.map EqV.of).flatten.length = NB := ⟨_, rfl⟩
  have HKL := hid (fun (r : List Int) (h1 : r.Pairwise (· < ·)) (h2 : ∀ x ∈ r, Follows (al : Int) (es.map EqV.of) x) => (show r.length ≤ NB by rw [← hNB]; exact known_le h1 h2))
  rw [hNB] at HBB
  have hNB := hid hNB
  have hus := Try.underlying57
  obtain ⟨i1, hi', hz0', hz1', hz2'⟩ := info_parts info_bytes
  clear h hvs hv hr hB
  obtain ⟨m, hm⟩ : ∃ m, es.length = m := ⟨_, rfl⟩
  rw [hm] at hlen ⊢
  have HM := hid hm
  have HML := hid (show (es.map EqV.of).length = m by rw [List.length_map, hm])
  have HMV := hid (show (es.map EqV.val).length = m by rw [List.length_map, hm])
  clear hm
  go_enter Try.func37, Try.ntmps37
  go_wp2_with (at_make; go_must (refine wpList_make_full _ rfl _ _ _ rfl w.heap.size 67 i1 (.slice none 0 0) 1 hus hi' hz0' hz1' .i64 .i64 _ _ al rfl rfl rfl rfl (by rw [hz2']; omega) (by unfold maxLen; omega) (by simp) ?_); intro w1 hown1 hgr1; have HL1 := hid (OwnRows.made (R := Below0 w1) hown1); have HK1 := hid (((Keeps.refl NoB w).alloc (.cells #[] 3)).grown hgr1 (fun i e => by cases e)); clear hown1 hgr1)
  go_loopw [11, 12, 13] (fun v11 v12 v13 wr => ∃ (known : List Int) (more : Bool) (K V : Option Addr) (ck cv : Nat) (vals : List (List UInt8)), v11 = .slice K known.length ck ∧ known.length ≤ ck ∧ v13 = .bool more ∧ v12 = .slice V al cv ∧ Hid (KnownAt (al : Int) (es.map EqV.of) wr K known) ∧ Hid (more = false → ∀ j, j < m → fitsN (al : Int) (ge es j).of = true → (unkN known (ge es j).of).length ≠ 1) ∧ Hid (OwnRows (Below0 wr) wr w.heap.size (.slice V al cv) vals) ∧ Hid (VN (al : Int) n es known vals) ∧ Hid (Keeps NoB w wr)) (fun v11 _ v13 _ => 2 * (NB - lenV v11) + moreV v13)
  case atStart => exact ⟨[], true, _, _, _, _, List.replicate al [], rfl, Nat.le_refl _, rfl, rfl, hid ⟨⟨by simp, fun h => by simp at h⟩, List.Pairwise.nil, fun y hy => by simp at hy⟩, hid (fun h => by cases h), hid (by have h := HL1.out; rw [World.size_alloc] at h; exact h), hid (VN.none (al : Int) n es), HK1⟩
  case round =>
    obtain ⟨known0, more0, K0, V0, ck0, cv0, vals0, rfl, hck0, rfl, rfl, HK0, HD, HV0, HN0, HKP⟩ := hrel
    cases more0 with
    | false =>
      have hend := hid (show known0 = reachN (al : Int) (es.map EqV.of) from reach_done HK0.out.rising HK0.out.follow (fun of hof hfit => by
        obtain ⟨e, he, rfl⟩ := List.mem_map.1 hof
        obtain ⟨j, hj, rfl⟩ := List.getElem_of_mem he
        rw [← ge_eq es j hj] at hfit ⊢
        exact HD.out rfl j (by rw [← HM.out]; exact hj) hfit))
      have hkl := HKL.out known0 HK0.out.rising HK0.out.follow
      have HCT := hid (chk_take (chkE (al : Int) n known0 vals0) es)
      have hvsl : vals0.length = al := by rw [HN0.out.len]; omega
      have HVR := hid (show ∀ w', Keeps NoB wr w' → RowsIn (Below0 w') w' V0 vals0 from fun w' h => by
        obtain ⟨A', c', e', _, _, hr⟩ := HV0.out.reads
        injection e' with e1 e2 e3
        subst e1
        have hr2 := hr.mono (R' := fun b => b < wr.heap.size) (fun b hlt _ => hlt)
        exact (hr2.keeps h (fun _ _ h => h)).mono (fun b hlt _ => hlt))
      have HVSL := hid hvsl
      clear hvsl
      generalize hw0 : wr = wp at *
      clear hw0
      go_wp2_with fail
      go_loopw [16, 17] (fun v16 v17 wr => ∃ (k : Nat) (agr : Bool), k ≤ m ∧ v17 = .int .i64 (k : Int) ∧ v16 = .bool agr ∧ Hid (agr = (es.take k).all (chkE (al : Int) n known0 vals0)) ∧ Hid (Keeps NoB wp wr)) (fun _ v17 _ => m - (intOf v17).toNat)
      case atStart => exact ⟨0, true, Nat.zero_le _, rfl, rfl, hid (by simp), hid (Keeps.refl _ _)⟩
      case round =>
        obtain ⟨k, agr, hk, rfl, rfl, HAG, HKQ⟩ := hrel
        by_cases hlt : k < m
        · obtain ⟨b, off, rfl, hc⟩ := HC.out.2 (by rw [HML.out]; omega)
          obtain ⟨u, cu0, A1, c1, rfl, _, _, hat⟩ := hc k (by rw [HML.out]; exact hlt)
          have hgo := hid (HGO.out k (by rw [HM.out]; exact hlt))
          rw [hgo.out] at cu0 hat
          obtain ⟨bv, ov, rfl, _, hcv⟩ := HVS.out.2 (by rw [HMV.out]; omega)
          obtain ⟨u2, cv20, A2, c2, rfl, hc2, hA2, hat2⟩ := hcv k (by rw [HMV.out]; exact hlt)
          rw [HGV.out k (by rw [HM.out]; exact hlt)] at cv20 hat2 hc2
          have hvl := HVL.out k (by rw [HM.out]; exact hlt)
          rw [hvl] at cv20 hc2
          have HVL2 := hid hvl
          have HROW := hid (show RowIn (fun b => b < w.heap.size) w (.slice A2 n c2) (ge es k).val from ⟨_, _, by rw [hvl], by rw [hvl]; exact hc2, hA2, hat2⟩)
          have HAT0 := hid hat
          have HCU0 := hid cu0
          have HCV0 := hid cv20
          have HKW := hid (HKP.out.fresh HKQ.out)
          have cu := HKW.out.cell cu0 (fun h => h)
          have hrl := HR.out k (by rw [HM.out]; exact hlt)
          have p0 : (0 : Int) ≤ (k : Int) := by omega
          have p1 : (k : Int) < (m : Int) := by omega
          have hct := hid (HCT.out k (by rw [HM.out]; exact hlt))
          clear hc hat hcv hat2 hc2 hA2 hvl cu0 cv20
          obtain ⟨e, he⟩ : ∃ e, ge es k = e := ⟨_, rfl⟩
          rw [he] at cu HAT0 HCU0 hrl HVL2 HROW hgo hct
          clear he
          go_wp2_with fail
          refine (rfits16_calls (al : Int) e.of A1 c1 wr (HAT0.out.kept HKW.out)).mono ?_
          rintro e2 w4 ⟨rfl, hk4⟩
          have HK4 := hid (HKW.out.fresh hk4)
          have HKQ4 := hid (HKQ.out.fresh hk4)
          have cu4 := HK4.out.cell HCU0.out (fun h => h)
          clear hk4 cu
          by_cases hf : fitsN (al : Int) e.of = true
          · rw [hf]
            have HF := hid hf
            clear hf
            go_wp2_with fail
            refine (rleft_calls known0 e.of K0 A1 ck0 c1 w4 (HK0.out.at_.kept HKQ4.out) (HAT0.out.kept HK4.out) (by omega)).mono ?_
            rintro e2 w5 ⟨v5, rfl, ho5, hk5⟩
            obtain ⟨A5, c5, rfl, _, _⟩ := ho5.reads
            have HK5 := hid (HK4.out.fresh hk5)
            have HKQ5 := hid (HKQ4.out.fresh hk5)
            have cu5 := HK5.out.cell HCU0.out (fun h => h)
            have cv5 := HK5.out.cell HCV0.out (fun h => h)
            clear ho5 hk5 cu4
            by_cases h1 : (unkN known0 e.of).length = 0
            · have hchk := hid (show chkE (al : Int) n known0 vals0 e = zeroB (restN n known0 e.of e.val vals0) by unfold chkE; rw [HF.out, decide_eq_true h1]; rfl)
              have d1 : ((((unkN known0 e.of).length : Nat) : Int) == 0) = true := by simp [h1]
              clear h1
              cases agr with
              | false =>
                go_wp2_with fail
                go_quiet (fail)
                go_wp2_with fail
                go_roundw
                case rel => exact ⟨k + 1, false, by omega, by go_num, rfl, hid (by rw [hct.out, ← HAG.out]; rfl), hid (by first | exact HKQ5.out | exact HKQ5.out.drew | exact HKQ5.out.drewN _)⟩
                case measure => simp [intOf]; omega
              | true =>
                have hS := hid (show ∀ w', Keeps NoB w5 w' → w'.cell? ⟨b, off + k, none⟩ = some (.slice A1 e.of.length c1) ∧ w'.cell? ⟨bv, ov + k, none⟩ = some (.slice A2 n c2) from fun w' h => ⟨h.cell cu5 (fun h => h), h.cell cv5 (fun h => h)⟩)
                have HRS := hid (fun (w' : World) (h : Keeps NoB w5 w') => rrest_calls n known0 e.of e.val vals0 K0 A1 A2 V0 ck0 c1 c2 cv0 (Below0 w') w' ((HK0.out.at_.kept HKQ5.out).kept h) ((HAT0.out.kept HK5.out).kept h) ((HROW.out.keeps (HK5.out.fresh h) (fun _ _ h => h)).mono (fun b hlt _ => hlt)) (HVR.out w' (HKQ5.out.fresh h)) (fun _ h => h) HVL2.out hn (fun i hi hik => by
                  have h1 := fitsN_in HF.out i hi
                  exact ⟨h1.1, by rw [HVSL.out]; exact h1.2, HN0.out.rows i hik⟩) hrl)
                rw [HVSL.out] at HRS
                have HRLL := hid (show (restN n known0 e.of e.val vals0).length = n from restN_length HVL2.out (fun x _ hx => HN0.out.rows x hx))
                obtain ⟨rst, hrst⟩ : ∃ rst, restN n known0 e.of e.val vals0 = rst := ⟨_, rfl⟩
                rw [hrst] at HRS HRLL hchk
                clear hrst
                obtain ⟨zr, hzr⟩ : ∃ zr, zeroB rst = zr := ⟨_, rfl⟩
                have HZR := hid (fun (w' : World) (B7 : Option Addr) (c7 : Nat) (R7 : Nat → Prop) (h7 : BytesIn R7 w' B7 rst) => rzero_calls rst B7 c7 R7 w' h7)
                rw [HRLL.out, hzr] at HZR
                rw [hzr] at hchk
                clear hzr
                have HKr := hid (Keeps.refl NoB w5)
                go_wp2_with fail
                go_region_held3 (fun w' => w'.cell? ⟨b, off + k, none⟩ = some (.slice A1 e.of.length c1) ∧ w'.cell? ⟨bv, ov + k, none⟩ = some (.slice A2 n c2)) (first | (exact hS.out _ HKr.out) | (exact hS.out _ HKr.out.drew) | go_keep) (first
                  | (go_at_call 47; refine (HRS.out _ (by first | exact HKr.out | exact HKr.out.drew)).mono ?_; rintro e6 w6 ⟨v6, rfl, ho6, hk6⟩; obtain ⟨B7, c7, hv6, _, _, hb6⟩ := OwnB.reads ho6; rw [HRLL.out] at hv6; subst hv6; have HB6 := hid hb6; have HKr := hid (show Keeps NoB w5 w6 by first | exact HKr.out.fresh hk6 | exact HKr.out.drew.fresh hk6); clear ho6 hk6 hb6)
                  | (go_at_call 48; refine (HZR.out _ B7 c7 _ (by exact HB6.out)).mono ?_; rintro e8 w8 ⟨rfl, rfl⟩))
                have HKZ := hid (HKQ5.out.fresh HKr.out)
                clear hS HRS HZR cu5 cv5
                go_wp2_with fail
                go_roundw
                case rel => exact ⟨k + 1, zr, by omega, by go_num, rfl, hid (by rw [hct.out, ← HAG.out, hchk.out, Bool.true_and]), hid (by first | exact HKZ.out | exact HKZ.out.drew)⟩
                case measure => simp [intOf]; omega
            · have d1 : ((((unkN known0 e.of).length : Nat) : Int) == 0) = false := by rw [beq_eq_false_iff_ne]; omega
              have hchk := hid (show chkE (al : Int) n known0 vals0 e = true by unfold chkE; rw [decide_eq_false h1]; simp)
              clear h1
              go_wp2_with fail
              go_roundw
              case rel => exact ⟨k + 1, agr, by omega, by go_num, rfl, hid (by rw [hct.out, ← HAG.out, hchk.out, Bool.and_true]), HKQ5⟩
              case measure => simp [intOf]; omega
          · have hf : fitsN (al : Int) e.of = false := by simpa using hf
            have hchk := hid (show chkE (al : Int) n known0 vals0 e = true by unfold chkE; rw [hf]; simp)
            rw [hf]
            clear hf
            go_wp2_with fail
            go_roundw
            case rel => exact ⟨k + 1, agr, by omega, by go_num, rfl, hid (by rw [hct.out, ← HAG.out, hchk.out, Bool.and_true]), HKQ4⟩
            case measure => simp [intOf]; omega
        · obtain rfl : k = m := by omega
          have hag : agreesN (al : Int) n es = agr := by
            have h1 := HN0.out
            rw [hend.out] at h1
            rw [h1.agrees HVA.out, HAG.out, ← hend.out]
            congr 1
            rw [← HM.out]; exact List.take_length.symm
          go_wp2_with fail
          go_ret3
          rw [hag, ← hend.out]
          exact ⟨K0, ck0, _, vals0, rfl, hck0, HK0.out.at_.kept HKQ.out, (HV0.out.kept HKQ.out).mono (fun b hlt h => hlt), HN0.out, HKP.out.fresh HKQ.out⟩
    | true =>
      obtain ⟨L0, hL0⟩ : ∃ L, known0.length = L := ⟨_, rfl⟩
      rw [hL0] at hck0 ⊢
      have hL0 := hid hL0
      generalize hw0 : wr = wp at *
      clear hw0
      go_wp2_with fail
      go_loopw [11, 12, 13, 14] (fun v11 v12 v13 v14 wr => ∃ (k : Nat) (known : List Int) (more : Bool) (K V : Option Addr) (ck cv : Nat) (vals : List (List UInt8)), k ≤ m ∧ v14 = .int .i64 (k : Int) ∧ v11 = .slice K known.length ck ∧ known.length ≤ ck ∧ v13 = .bool more ∧ v12 = .slice V al cv ∧ Hid (KnownAt (al : Int) (es.map EqV.of) wr K known) ∧ Hid (Pass (al : Int) (es.map EqV.of) L0 k known more) ∧ Hid (OwnRows (Below0 wr) wr w.heap.size (.slice V al cv) vals) ∧ Hid (VN (al : Int) n es known vals) ∧ Hid (Keeps NoB w wr)) (fun _ _ _ v14 _ => m - (intOf v14).toNat)
      case atStart => exact ⟨0, known0, false, K0, V0, ck0, cv0, vals0, Nat.zero_le _, rfl, by rw [hL0.out], by rw [hL0.out]; exact hck0, rfl, rfl, HK0, hid (.inr ⟨rfl, hL0.out, fun j hj => absurd hj (Nat.not_lt_zero _)⟩), HV0, HN0, HKP⟩
      case round =>
        obtain ⟨k, known, more, K, V, ck, cv, vals, hk, rfl, rfl, hck, rfl, rfl, HK, HPA, HV, HN, HKP⟩ := hrel
        by_cases hlt : k < m
        · obtain ⟨b, off, rfl, hc⟩ := HC.out.2 (by rw [HML.out]; omega)
          obtain ⟨u, cu0, A1, c1, rfl, _, _, hat⟩ := hc k (by rw [HML.out]; exact hlt)
          have hgo := hid (HGO.out k (by rw [HM.out]; exact hlt))
          rw [hgo.out] at cu0 hat
          obtain ⟨bv, ov, rfl, _, hcv⟩ := HVS.out.2 (by rw [HMV.out]; omega)
          obtain ⟨u2, cv20, A2, c2, rfl, hc2, hA2, hat2⟩ := hcv k (by rw [HMV.out]; exact hlt)
          rw [HGV.out k (by rw [HM.out]; exact hlt)] at cv20 hat2 hc2
          have hvl := HVL.out k (by rw [HM.out]; exact hlt)
          rw [hvl] at cv20 hc2
          have HVL2 := hid hvl
          have HROW := hid (show RowIn (fun b => b < w.heap.size) w (.slice A2 n c2) (ge es k).val from ⟨_, _, by rw [hvl], by rw [hvl]; exact hc2, hA2, hat2⟩)
          have HAT0 := hid hat
          have HCU0 := hid cu0
          have HCV0 := hid cv20
          have cu := HKP.out.cell cu0 (fun h => h)
          have hrl := HR.out k (by rw [HM.out]; exact hlt)
          have hmem := hid (HMEM.out k (by rw [HM.out]; exact hlt))
          have hmm := hid (HMM.out k (by rw [HM.out]; exact hlt))
          have p0 : (0 : Int) ≤ (k : Int) := by omega
          have p1 : (k : Int) < (m : Int) := by omega
          have hkl := HKL.out known HK.out.rising HK.out.follow
          clear hc hat hcv hat2 hc2 hA2 hvl cu0 cv20
          obtain ⟨e, he⟩ : ∃ e, ge es k = e := ⟨_, rfl⟩
          rw [he] at cu HAT0 HCU0 hrl hmem hmm HVL2 HROW hgo
          have HE := hid he
          clear he
          go_wp2_with fail
          refine (rleft_calls known e.of K A1 ck c1 wr HK.out.at_ (HAT0.out.kept HKP.out) (by omega)).mono ?_
          rintro e2 w3 ⟨v3, rfl, ho3, hk3⟩
          obtain ⟨A3, c3, rfl, _, hat3⟩ := ho3.reads
          have HAT3 := hid hat3
          have HK3 := hid (HKP.out.fresh hk3)
          have HKN3 := hid (show KnownAt (al : Int) (es.map EqV.of) w3 K known from ⟨HK.out.at_.kept hk3, HK.out.rising, HK.out.follow⟩)
          have HV3 := hid (show OwnRows (Below0 w3) w3 w.heap.size (.slice V al cv) vals from (HV.out.kept hk3).mono (fun b h _ => h))
          have cu3 := HK3.out.cell HCU0.out (fun h => h)
          clear ho3 hat3 hk3
          go_wp2_with fail
          refine (rfits16_calls (al : Int) e.of A1 c1 w3 (HAT0.out.kept HK3.out)).mono ?_
          rintro e2 w4 ⟨rfl, hk4⟩
          have HK4 := hid (HK3.out.fresh hk4)
          have HKN4 := hid (show KnownAt (al : Int) (es.map EqV.of) w4 K known from ⟨HKN3.out.at_.kept hk4, HKN3.out.rising, HKN3.out.follow⟩)
          have HV4 := hid (show OwnRows (Below0 w4) w4 w.heap.size (.slice V al cv) vals from (HV3.out.kept hk4).mono (fun b h _ => h))
          have HAT4 := hid (HAT3.out.kept hk4)
          have cu4 := HK4.out.cell HCU0.out (fun h => h)
          have cv4 := HK4.out.cell HCV0.out (fun h => h)
          clear hk4 cu cu3
          by_cases hf : fitsN (al : Int) e.of = true
          · rw [hf]
            have HF := hid hf
            clear hf
            by_cases h1 : (unkN known e.of).length = 1
            · obtain ⟨x, hx⟩ : ∃ x, unkN known e.of = [x] := by
                match hu : unkN known e.of with
                | [] => rw [hu] at h1; simp at h1
                | [x] => exact ⟨x, rfl⟩
                | a :: b :: r => rw [hu] at h1; simp at h1
              have hx1 := (mem_unkN known e.of x).1 (by rw [hx]; exact List.mem_singleton.2 rfl)
              obtain ⟨xn, rfl⟩ : ∃ xn : Nat, x = (xn : Int) := ⟨x.toNat, by have := fitsN_in HF.out x hx1.1; omega⟩
              have hxal : xn < al := by have := fitsN_in HF.out _ hx1.1; omega
              have HVS2 := hid (VN.step HN.out HKN4.out.follow hmem.out HF.out HVL2.out hx)
              rw [Int.toNat_natCast] at HVS2
              have hfo := hid (follows_one HKN4.out.follow hmm.out HF.out hx)
              have hxn := hid hx1.2
              rw [hx] at HAT4 ⊢
              obtain ⟨b3, o3, rfl, hc3⟩ := HAT4.out.get (by simp)
              have cx : w4.cell? ⟨b3, o3, none⟩ = some (.int .i64 (xn : Int)) := hc3 0 (by simp)
              have d1 : (((([(xn : Int)] : List Int).length : Nat) : Int) == 1) = true := by simp
              clear hx h1 hc3 hx1
              have hS := hid (show ∀ w', Keeps NoB w4 w' → w'.cell? ⟨b3, o3, none⟩ = some (.int .i64 (xn : Int)) ∧ w'.cell? ⟨b, off + k, none⟩ = some (.slice A1 e.of.length c1) ∧ w'.cell? ⟨bv, ov + k, none⟩ = some (.slice A2 n c2) from fun w' h => ⟨h.cell cx (fun h => h), h.cell cu4 (fun h => h), h.cell cv4 (fun h => h)⟩)
              have hvsl : vals.length = al := by rw [HN.out.len]; omega
              have HVR := hid (show ∀ w', Keeps NoB w4 w' → RowsIn (Below0 w') w' V vals from fun w' h => by
                obtain ⟨A', c', e', _, _, hr⟩ := HV4.out.reads
                injection e' with e1 e2 e3
                subst e1
                have hr2 := hr.mono (R' := fun b => b < w4.heap.size) (fun b hlt _ => hlt)
                exact (hr2.keeps h (fun _ _ h => h)).mono (fun b hlt _ => hlt))
              have HRS := hid (fun (w' : World) (h : Keeps NoB w4 w') => rrest_calls n known e.of e.val vals K A1 A2 V ck c1 c2 cv (Below0 w') w' (HKN4.out.at_.kept h) ((HAT0.out.kept HK4.out).kept h) ((HROW.out.keeps (HK4.out.fresh h) (fun _ _ h => h)).mono (fun b hlt _ => hlt)) (HVR.out w' h) (fun _ h => h) HVL2.out hn (fun i hi hik => by
                have h1 := fitsN_in HF.out i hi
                exact ⟨h1.1, by rw [hvsl]; exact h1.2, HN.out.rows i hik⟩) hrl)
              have HPT := hid (fun (w' : World) (h : Keeps NoB w4 w') (B5 : Option Addr) (c5 : Nat) (h5 : RowIn (Below0 w') w' (.slice B5 (restN n known e.of e.val vals).length c5) (restN n known e.of e.val vals)) => rput_calls vals xn (restN n known e.of e.val vals) V B5 cv c5 (Below0 w') w' (HVR.out w' h) (by rw [hvsl]; exact hxal) h5 (fun _ h => h) (by rw [hvsl]; exact hal))
              have hrll : (restN n known e.of e.val vals).length = n := restN_length HVL2.out (fun x _ hx => HN.out.rows x hx)
              rw [hvsl] at HRS HPT
              rw [hrll] at HPT
              have HRLL := hid hrll
              clear hrll hvsl
              obtain ⟨rst, hrst⟩ : ∃ rst, restN n known e.of e.val vals = rst := ⟨_, rfl⟩
              rw [hrst] at HRS HPT HRLL HVS2
              clear hrst
              have HKr := hid (Keeps.refl NoB w4)
              have q0 : (0 : Int) ≤ (xn : Int) := by omega
              go_wp2_with fail
              go_region_held3 (fun w' => w'.cell? ⟨b3, o3, none⟩ = some (.int .i64 (xn : Int)) ∧ w'.cell? ⟨b, off + k, none⟩ = some (.slice A1 e.of.length c1) ∧ w'.cell? ⟨bv, ov + k, none⟩ = some (.slice A2 n c2)) (first | (exact hS.out _ HKr.out) | (exact hS.out _ HKr.out.drew) | go_keep) (first
                | (go_at_call 47; refine (HRS.out _ (by first | exact HKr.out | exact HKr.out.drew)).mono ?_; rintro e5 w5 ⟨v5, rfl, ho5, hk5⟩; obtain ⟨B5, c5, hv5, _, _, hb5⟩ := OwnB.reads ho5; rw [HRLL.out] at hv5; have HR5 := hid (show RowIn (Below0 w5) w5 v5 rst from (OwnB.row ho5).mono (fun b hlt _ => hlt)); subst hv5; have HKr := hid (show Keeps NoB w4 w5 by first | exact HKr.out.fresh hk5 | exact HKr.out.drew.fresh hk5); have hsz5 := HKr.out.size; clear ho5 hk5 hb5)
                | (go_at_call 46; refine (HPT.out _ (by first | exact HKr.out | exact HKr.out.drew) B5 c5 (by exact HR5.out)).mono ?_; rintro e6 w6 ⟨g6, c6, rfl, ho6, hk6⟩; have HO6 := hid ho6; have HKr := hid (show Keeps NoB w4 w6 by first | exact HKr.out.fresh hk6 | exact HKr.out.drew.fresh hk6); clear ho6 hk6))
              have HK6 := hid (HK4.out.fresh HKr.out)
              have cx6 := HKr.out.cell cx (fun h => h)
              have HI := hid (insert_calls known (xn : Int) K ck w6 (HKN4.out.at_.kept HKr.out) (by omega))
              have HKF := hid (⟨HKN4.out.rising, HKN4.out.follow⟩ : known.Pairwise (· < ·) ∧ ∀ y ∈ known, Follows (al : Int) (es.map EqV.of) y)
              have HP4 := hid (show Pass (al : Int) (es.map EqV.of) L0 (k + 1) (ins (xn : Int) known) true from .inl ⟨rfl, by
                rw [ins_length]
                rcases HPA.out with ⟨_, h⟩ | ⟨_, h, _⟩ <;> omega⟩)
              clear cx cu4 cv4 hS HVR HRS HPT HR5
              go_wp2_with fail
              refine HI.out.mono ?_
              rintro e7 w7 ⟨v7, rfl, ho7, hk7⟩
              obtain ⟨A7, c7, rfl, hc7, hat7⟩ := ho7.reads
              have HKN7 := hid (show KnownAt (al : Int) (es.map EqV.of) w7 A7 (ins (xn : Int) known) from ⟨hat7, ins_rising HKF.out.1 hxn.out, fun y hy => by
                rcases (mem_ins (xn : Int) y known).1 hy with e | h
                · rw [e]; exact hfo.out
                · exact HKF.out.2 y h⟩)
              have HK7 := hid (HK6.out.fresh hk7)
              have HV7 := hid (show OwnRows (Below0 w7) w7 w.heap.size (.slice (some ⟨g6, 0, none⟩) al c6) (vals.set xn rst) from ((HO6.out.kept hk7).mono (fun b h _ => h)).lower (by have := HKP.out.size; have := HK4.out.size; omega))
              clear ho7 hat7 hk7
              go_wp2_with fail
              go_roundw
              case rel => exact ⟨k + 1, ins (xn : Int) known, true, A7, _, c7, c6, vals.set xn rst, by omega, by go_num, rfl, hc7, rfl, rfl, HKN7, HP4, HV7, HVS2, HK7⟩
              case measure => simp [intOf]; omega
            · have d1 : ((((unkN known e.of).length : Nat) : Int) == 1) = false := by simp; omega
              have HP4 := hid (show Pass (al : Int) (es.map EqV.of) L0 (k + 1) known more from by
                rcases HPA.out with h | ⟨h2, h3, h4⟩
                · exact .inl h
                · refine .inr ⟨h2, h3, fun j hj hfj => ?_⟩
                  by_cases e : j = k
                  · rw [e, hgo.out]; exact h1
                  · exact h4 j (by omega) hfj)
              clear h1
              go_wp2_with fail
              go_roundw
              case rel => exact ⟨k + 1, known, more, K, V, ck, cv, vals, by omega, by go_num, rfl, hck, rfl, rfl, HKN4, HP4, HV4, HN, HK4⟩
              case measure => simp [intOf]; omega
          · have hf : fitsN (al : Int) e.of = false := by simpa using hf
            have HP4 := hid (show Pass (al : Int) (es.map EqV.of) L0 (k + 1) known more from by
              rcases HPA.out with h | ⟨h2, h3, h4⟩
              · exact .inl h
              · refine .inr ⟨h2, h3, fun j hj hfj => ?_⟩
                by_cases e : j = k
                · rw [e, hgo.out, hf] at hfj; cases hfj
                · exact h4 j (by omega) hfj)
            rw [hf]
            clear hf
            go_wp2_with fail
            go_roundw
            case rel => exact ⟨k + 1, known, more, K, V, ck, cv, vals, by omega, by go_num, rfl, hck, rfl, rfl, HKN4, HP4, HV4, HN, HK4⟩
            case measure => simp [intOf]; omega
        · obtain rfl : m = k := by omega
          have hkl := HKL.out known HK.out.rising HK.out.follow
          have hkl0 := HKL.out known0 HK0.out.rising HK0.out.follow
          have hpa := HPA.out
          go_wp2_with fail
          go_roundw
          case rel => exact ⟨known, more, K, V, ck, cv, vals, rfl, hck, rfl, rfl, HK, hid (fun hm j hj hfj => by
            rcases hpa with ⟨h, _⟩ | ⟨_, _, h⟩
            · rw [hm] at h; cases h
            · have := h j hj
              rw [HGO.out j (by rw [HM.out]; exact hj)] at this
              exact this hfj), HV, HN, HKP⟩
          case measure =>
            rcases hpa with ⟨rfl, h⟩ | ⟨rfl, h, _⟩
            · simp [lenV, moreV]; omega
            · simp [lenV, moreV]; omega
end Go.Proofs.Ytkjaacpcnjakcaa
/- The law ClosureAgrees: its walk. Conditions: lengths that memory bears. -/
set_option linter.unusedVariables false
namespace Go.Proofs.Ytkjaacpcnjakcaa
open Go.RowKit
attribute [local go_sem ↓] Go.wp_at_zero Go.wp_at_succ

set_option maxHeartbeats 4000000 in
set_option maxRecDepth 20000 in
theorem closureAgrees_calls (al sz : Nat) (ofs : List (List Int)) (bs : List (List UInt8)) (Ao Av : Option Addr) (co cv : Nat) (w : World) (hal : al < 256) (hsz : sz < 256) (ho : RowsAt w Ao ofs) (hb : RowsIn (fun _ => True) w Av bs) (hmx : ∀ of ∈ ofs, of.length ≤ 140737488355328) :
    Calls Try.prog 8 #[.agg #[.int .u8 (al : Int), .int .u8 (sz : Int), .slice Ao ofs.length co, .slice Av bs.length cv]] w fun e w' => e = .returned (.bool true) ∧ Keeps NoB w w' := by
  have hol := ho.1
  have hbl := hb.len
  have HO := hid ho
  have HBG := hid (fun (w0 : World) (h0 : RowsAt w0 Ao ofs) => big16_calls ofs Ao co w0 h0 hmx)
  have HEQ := hid (fun (w0 : World) (hk : Keeps NoB w w0) (hm4 : ofs.length ≤ 400) => equations16_calls al sz ofs bs Ao Av co cv w0 hsz (ho.kept hk) (hb.kept hk) hm4 (by omega))
  clear ho hb hmx
  obtain ⟨n, hn⟩ : ∃ n, al % 40 = n := ⟨_, rfl⟩
  obtain ⟨N, hN⟩ : ∃ N, sz % 6 = N := ⟨_, rfl⟩
  rw [hN] at HEQ
  have hn40 : n < 40 := by omega
  have hN6 : N < 6 := by omega
  have r1 : (al : Int).tmod 40 = (n : Int) := by rw [Int.tmod_eq_emod_of_nonneg (by omega)]; omega
  have r2 : (sz : Int).tmod 6 = (N : Int) := by rw [Int.tmod_eq_emod_of_nonneg (by omega)]; omega
  have s1 : IntKind.i64.wrap (al : Int) = (al : Int) := IntWalk.i64_in _ (by omega)
  have s2 : IntKind.i64.wrap (sz : Int) = (sz : Int) := IntWalk.i64_in _ (by omega)
  have s3 : IntKind.i64.wrap (n : Int) = (n : Int) := IntWalk.i64_in _ (by omega)
  have s4 : IntKind.i64.wrap (N : Int) = (N : Int) := IntWalk.i64_in _ (by omega)
  have HR := hid (And.intro (And.intro r1 r2) (And.intro (And.intro s1 s2) (And.intro s3 s4)))
  clear hn hN r1 r2 s1 s2 s3 s4
  have HELL := hid (esK_length N bs ofs ofs.length)
  have HEL := hid (esK_of N bs ofs)
  have HEV := hid (esK_val N bs ofs ofs.length)
  have HEN := hid (esK_len N bs ofs ofs.length)
  have HAL := hid (allT_length N bs ofs.length)
  generalize hes : esK N bs ofs ofs.length = es at *
  clear hes
  obtain ⟨m, hm⟩ : ∃ m, ofs.length = m := ⟨_, rfl⟩
  obtain ⟨q, hq⟩ : ∃ q, bs.length = q := ⟨_, rfl⟩
  rw [hm] at hol HBG HEQ HELL HEV HAL ⊢
  rw [hq] at hbl HEQ ⊢
  have HM := hid hm
  clear hm hq
  go_enter Try.func8, Try.ntmps8
  obtain ⟨w0, hw0⟩ : ∃ w0, w.alloc (.cells #[.int .u8 (al : Int), .int .u8 (sz : Int), .slice Ao m co, .slice Av q cv] 59) = w0 := ⟨_, rfl⟩
  have HK0 := hid (show Keeps NoB w w0 by rw [← hw0]; exact (Keeps.refl NoB w).alloc _)
  have HBX := hid (show w0.heap[w.heap.size]? = some (.cells #[.int .u8 (al : Int), .int .u8 (sz : Int), .slice Ao m co, .slice Av q cv] 59 (0, 0)) by rw [← hw0]; exact heap_alloc_new w _)
  go_wp2_with fail
  clear hw0
  refine (speaks16_calls w0).mono ?_
  rintro e w1 ⟨rfl, hk1⟩
  have HK1 := hid (HK0.out.fresh hk1)
  have HBX := hid (hk1.heap HBX.out (fun h => h))
  clear hk1
  have c1 := (cells4 HBX.out).2.2.1
  go_wp2_with fail
  refine (HBG.out w1 (HO.out.kept HK1.out)).mono ?_
  rintro e w2 ⟨b, rfl, hb, rfl⟩
  cases b with
  | true =>
    go_wp2_with fail
    go_ret
    exact ⟨rfl, HK1.out⟩
  | false =>
    have hs := hb rfl
    have HS1 := hid hs.flat
    have HS2 := hid hs.each
    have HS3 := hid hs.len
    clear hb hs
    have hm4 : m ≤ 400 := by have := HS3.out; have := HM.out; omega
    go_wp2_with fail
    have c2 := (cells4 HBX.out).1
    have c3 := (cells4 HBX.out).2.1
    obtain ⟨⟨r1, r2⟩, ⟨s1, s2⟩, s3, s4⟩ := HR.out
    go_quiet (fail)
    clear r1 r2 s1 s2 s3 s4 c2 c3
    have HK3 := hid (HK1.out.drewN nq)
    have HBX3 := hid (show (w2.drewN nq).heap[w.heap.size]? = _ from HBX.out)
    obtain ⟨w3, hw3⟩ : ∃ w3, w2.drewN nq = w3 := ⟨_, rfl⟩
    rw [hw3] at HK3 HBX3
    have cx := cells4 HBX3.out
    have cx1 := cx.1
    have cx2 := cx.2.1
    have cx3 := cx.2.2.1
    have cx4 := cx.2.2.2
    rw [hw3]
    clear hw3 c1 HBX cx
    go_wp2_with fail
    refine (HEQ.out w3 HK3.out hm4).mono ?_
    rintro e w4 ⟨v1, v2, rfl, hoe, hor, hk4⟩
    have HK4 := hid (HK3.out.fresh hk4)
    have HBX4 := hid (hk4.heap HBX3.out (fun h => h))
    obtain ⟨A1, c1, hv1, _, _, heq⟩ := hoe.reads (by rw [HELL.out]; omega)
    rw [HELL.out] at hv1
    obtain ⟨A2, c2, hv2, _, _, hrows⟩ := hor.reads
    rw [HAL.out] at hv2
    subst hv1 hv2
    have HEQS := hid heq
    have HRWS := hid hrows
    clear hoe hor hk4 heq hrows
    have cx3 := (cells4 HBX4.out).2.2.1
    go_wp2_with fail
    have HFL := hid (show (ofsE es).length ≤ 4000 by rw [← flat_ofs, HEL.out]; have := HS1.out; omega)
    have HRS := hid (rsolve_calls n N es Ao A2 co c2 _ w4 (by rw [HEL.out]; exact HO.out.kept HK4.out) (by rw [HEV.out]; exact HRWS.out) HEN.out (by omega) (by have := HFL.out; omega) (fun e he => by
      have h1 : e.of ∈ ofs := by rw [← HEL.out]; exact List.mem_map_of_mem he
      have := HS2.out _ h1
      omega) (by omega) (by rw [HELL.out]; omega))
    rw [HELL.out] at HRS
    refine HRS.out.mono ?_
    rintro e w5 ⟨A3, c3, v3, vals, rfl, -, -, -, -, hk5⟩
    have HK5 := hid (HK4.out.fresh hk5)
    have HAG := hid (agrees_calls (n : Int) N es A1 c1 _ w5 (HEQS.out.kept hk5) (by omega) (by rw [HELL.out]; omega) (by have := HFL.out; omega) (by omega) (fun e he => by
      have h1 : e.of ∈ ofs := by rw [← HEL.out]; exact List.mem_map_of_mem he
      have := HS2.out _ h1
      omega))
    rw [HELL.out] at HAG
    clear hk5 HRS
    obtain ⟨ag, hag⟩ : ∃ ag, agreesN (n : Int) N es = ag := ⟨_, rfl⟩
    rw [hag] at HAG ⊢
    clear hag
    go_wp2_with fail
    refine HAG.out.mono ?_
    rintro e w6 ⟨rfl, hk6⟩
    have HK6 := hid (HK5.out.fresh hk6)
    clear hk6
    cases ag <;> (go_wp2_with fail; go_ret; exact ⟨rfl, HK6.out⟩)
end Go.Proofs.Ytkjaacpcnjakcaa
/- An argument that is a slice of bytes. Conditions: the row's. -/
set_option linter.unusedVariables false
namespace Go.Proofs.Ytkjaacpcnjakcaa
open Go.RowKit

theorem bytes_of_ints : ∀ xs : List Int, (∀ n ∈ xs, (Lit.int .u8 n).wf = true) → ∃ l : List UInt8, xs = enc8 l
  | [], _ => ⟨[], rfl⟩
  | n :: r, h => by
    obtain ⟨l, hl⟩ := bytes_of_ints r (fun m hm => h m (List.mem_cons_of_mem _ hm))
    have hn := Go.bounds_u8 (h n (List.mem_cons_self ..))
    refine ⟨UInt8.ofNat n.toNat :: l, ?_⟩
    rw [hl]
    simp only [enc8, List.map_cons, List.cons.injEq, and_true]
    have : (UInt8.ofNat n.toNat).toNat = n.toNat := by
      rw [UInt8.toNat_ofNat', Nat.mod_eq_of_lt (by omega)]
    omega
theorem BytesIn.ofInts {w : World} {a : Option Addr} {xs : List Int} (h : IntsAt w .u8 a xs) (hw : ∀ n ∈ xs, (Lit.int .u8 n).wf = true) : ∃ l : List UInt8, xs.length = l.length ∧ BytesIn (fun _ => True) w a l := by
  obtain ⟨l, rfl⟩ := bytes_of_ints xs hw
  exact ⟨l, enc8_length l, h, fun _ _ _ _ => trivial⟩
end Go.Proofs.Ytkjaacpcnjakcaa
/- An argument that is a slice of slices of bytes. Conditions: the row's. -/
set_option linter.unusedVariables false
namespace Go.Proofs.Ytkjaacpcnjakcaa
open Go.ChangeShapes Go.WideShapes Go.ChangeAt Go.RowKit Go.Deep

theorem add_none {a : Addr} {i : Nat} (h : a.spot = none) : a.add i = ⟨a.block, a.off + i, none⟩ := by
  obtain ⟨b, o, s⟩ := a
  simp only at h
  subst h
  unfold Addr.add
  split
  · rename_i e; subst e; rfl
  · rfl
/-- A row whose cells are told: its bytes. -/
theorem row_bytes {w : World} {A : Option Addr} {l c : Nat} {Z : List Int} (hl : l ≤ c) (hm : c ≤ maxLen) (hz : Z.length = c) (hw : ∀ n ∈ Z, (Lit.int .u8 n).wf = true) (hA : A = none → c = 0) (hc : ∀ a', A = some a' → ∀ j, j < c → w.cell? (a'.add j) = some (.int .u8 (Z.getD j 0))) :
    ∃ b : List UInt8, l = b.length ∧ BytesIn (fun _ => True) w A b := by
  cases A with
  | none =>
    have h0 := hA rfl
    obtain rfl : l = 0 := by omega
    exact ⟨[], rfl, BytesIn.nil _ _⟩
  | some a =>
    obtain ⟨xs, h1, h2, h3, h4⟩ := IsRow.ints (k := .u8) (w := w) (a := some a) (len := l) (cap := c) (zs := Z) (.inr ⟨a, rfl, hl, hm, hz, fun i hi => hc a rfl i (by omega), hw⟩)
    obtain ⟨b, hb, hbi⟩ := BytesIn.ofInts h3 h4
    exact ⟨b, by omega, hbi⟩
set_option maxRecDepth 100000 in
theorem open_rows {H : Type} {enc : TypeId × Value → H} {W : World} {r : Reach} {b0 base : Nat} {held : Bool} {v : Value} {d : DataW H} {p : List MemPlace}
    (hv : Value.okWide Try.prog W r b0 57 v) (h : DataW.Trod enc Try.prog W base (fun _ => true) held 57 v d p) : ∃ ls A c, v = .slice A (List.length ls) c ∧ ls.length ≤ c ∧ (A = none → c = 0) ∧ RowsIn (fun _ => True) W A ls := by
  obtain ⟨a, len, cap, rfl⟩ := okWide_slice Try.underlying57 hv
  obtain ⟨fuel, hf⟩ := h
  rcases open_int_rows Try.underlying57 Try.underlying67 Try.underlying5 (by kernel_rfl) (by kernel_rfl) hf with ⟨hcs, _⟩ | ⟨x, l, c, AA, L, C, Z, hcs, _, hl, hm, _, hr⟩
  · simp [Value.cells] at hcs
    obtain ⟨rfl, rfl, rfl⟩ := hcs
    exact ⟨[], none, 0, rfl, Nat.le_refl _, fun _ => rfl, RowsIn.nil _ _ _⟩
  · simp [Value.cells] at hcs
    obtain ⟨rfl, rfl, rfl⟩ := hcs
    have each : ∀ j, ∃ b : List UInt8, j < cap → L j = b.length ∧ BytesIn (fun _ => True) W (AA j) b := by
      intro j
      by_cases hj : j < cap
      · obtain ⟨_, h1, h2, h3, h4, h5, h6⟩ := hr j hj
        obtain ⟨b, hb⟩ := row_bytes (w := W) h1 h2 h3 h4 h5 (fun a' e => (h6 a' e).2)
        exact ⟨b, fun _ => hb⟩
      · exact ⟨[], fun h => absurd h hj⟩
    have f := fun j => Classical.choose_spec (each j)
    generalize hF : (fun j => Classical.choose (each j)) = F at f
    have hF' : ∀ j, Classical.choose (each j) = F j := fun j => by rw [← hF]
    refine ⟨(List.range len).map F, some x, cap, by simp, by simpa using hl, (fun e => by cases e), (by simp; unfold maxLen at hm; omega), fun h0 => ?_⟩
    simp only [List.length_map, List.length_range] at h0
    obtain ⟨xb, xo, xs⟩ := x
    have hs : xs = none := by
      have := (hr 0 (by omega)).1
      simpa [Addr.add] using World.cell?_spot this
    subst hs
    refine ⟨xb, xo, rfl, trivial, fun j hj => ?_⟩
    simp only [List.length_map, List.length_range] at hj
    obtain ⟨h0', h1, h2, h3, h4, h5, h6⟩ := hr j (by omega)
    have hfj := f j (by omega)
    rw [hF'] at hfj
    refine ⟨_, by rw [show (⟨xb, xo + j, none⟩ : Addr) = (⟨xb, xo, none⟩ : Addr).add j from (add_none (a := ⟨xb, xo, none⟩) (i := j) rfl).symm]; exact h0', AA j, C j, ?_, ?_, h5, ?_⟩
    · have : gr ((List.range len).map F) j = F j := by simp [gr, hj]
      rw [this, ← hfj.1]
    · have : gr ((List.range len).map F) j = F j := by simp [gr, hj]
      rw [this, ← hfj.1]; exact h1
    · have : gr ((List.range len).map F) j = F j := by simp [gr, hj]
      rw [this]; exact hfj.2
end Go.Proofs.Ytkjaacpcnjakcaa
/- Arguments that are equations. Conditions: the row's. -/
set_option linter.unusedVariables false
namespace Go.Proofs.Ytkjaacpcnjakcaa
open Go.ChangeShapes Go.WideShapes Go.ChangeAt Go.RowKit

def Weighs {H : Type} (t : TypeId) (d : DataW H) : Prop := ∀ n ∈ d.weights Try.prog t, n ≤ reachBytes
theorem weighs_slice {H : Type} {t e : TypeId} {elems spare : List (DataW H)} (hu : Try.prog.underlying t = some (.slice e)) (h : Weighs t (.slice elems spare)) : (elems.length + spare.length) * Try.prog.bytesOf e ≤ reachBytes :=
  h _ (by simp [DataW.weights, hu])
theorem weightsAll_mem {H : Type} {P : Program} {e : TypeId} : ∀ {l : List (DataW H)} {d : DataW H}, d ∈ l → ∀ n ∈ d.weights P e, n ∈ DataW.weightsAll P e l
  | d' :: r, d, hd, n, hn => by
    simp only [DataW.weightsAll, List.mem_append]
    rcases List.mem_cons.1 hd with rfl | h
    · exact Or.inl hn
    · exact Or.inr (weightsAll_mem h n hn)
theorem weighs_elem {H : Type} {t e : TypeId} {elems spare : List (DataW H)} {d : DataW H} (hu : Try.prog.underlying t = some (.slice e)) (h : Weighs t (.slice elems spare)) (hd : d ∈ elems) : Weighs e d := fun n hn =>
  h _ (by simp only [DataW.weights, hu, List.mem_cons, List.mem_append]; exact Or.inr (Or.inl (weightsAll_mem hd n hn)))
theorem weighs_part {H : Type} {t e : TypeId} {fs : Array Field} {parts : List (DataW H)} {d : DataW H} {i : Nat} (hu : Try.prog.underlying t = some (.struct fs)) (h : Weighs t (.agg parts)) (hf : (fs.toList.map (·.type))[i]? = some e) (hd : parts[i]? = some d) : Weighs e d := fun n hn =>
  h _ (by simp only [DataW.weights, hu]; exact DataW.weights_mem_each hf hd n hn)
theorem cell_nums {H : Type} {enc : TypeId × Value → H} {W : World} {base : Nat} {sp : Nat → Bool} {held : Bool} {n : Nat} {v : Value} {y : DataW H × List MemPlace}
    (hsp : ∀ b, sp b = true) (h : DataW.trod enc Try.prog W base sp held n 27 [v] = some y) (hw : Weighs 27 y.1) : ∃ (l : List Int) (a : Option Addr) (cap : Nat), v = .slice a l.length cap ∧ l.length ≤ cap ∧ (a = none → cap = 0) ∧ IntsAt W .i64 a l ∧ (∀ n ∈ l, (Lit.int .i64 n).wf = true) ∧ l.length ≤ 17592186044416 := by
  rcases open_ints Try.underlying27 Try.underlying3 (by kernel_rfl) h with ⟨hcs, _⟩ | ⟨x, l, c, zs, hcs, _, hl, hm, hz, hx, hcell, hwz⟩
  · have : v = .slice none 0 0 := by simpa using hcs
    subst this
    exact ⟨[], none, 0, rfl, Nat.le_refl _, fun _ => rfl, ⟨by simp, fun h => by simp at h⟩, fun n hn => by simp at hn, by simp⟩
  · have : v = .slice (some x) l c := by simpa using hcs
    subst this
    rw [hsp, if_pos rfl] at hz
    rw [hx] at hw
    have hwt := weighs_slice Try.underlying27 hw
    rw [show Try.prog.bytesOf 3 = 8 by kernel_rfl] at hwt
    simp only [lits, List.length_map, List.length_take, List.length_drop] at hwt
    obtain ⟨xs, rfl, h1, h2, h3⟩ := IsRow.ints (k := .i64) (w := W) (a := some x) (len := l) (cap := c) (zs := zs) (.inr ⟨x, rfl, hl, hm, hz, hcell, hwz⟩)
    refine ⟨xs, some x, c, rfl, h1, (fun e => by cases e), h2, h3, ?_⟩
    have : reachBytes = 140737488351232 := rfl
    omega
theorem cell_bytesW {H : Type} {enc : TypeId × Value → H} {W : World} {base : Nat} {sp : Nat → Bool} {held : Bool} {n : Nat} {v : Value} {y : DataW H × List MemPlace}
    (hsp : ∀ b, sp b = true) (h : DataW.trod enc Try.prog W base sp held n 67 [v] = some y) (hw : Weighs 67 y.1) : ∃ (l : List UInt8) (a : Option Addr) (cap : Nat), v = .slice a l.length cap ∧ l.length ≤ cap ∧ (a = none → cap = 0) ∧ BytesIn (fun _ => True) W a l ∧ l.length ≤ 140737488351232 := by
  rcases open_ints Try.underlying67 Try.underlying5 (by kernel_rfl) h with ⟨hcs, _⟩ | ⟨x, l, c, zs, hcs, _, hl, hm, hz, hx, hcell, hwz⟩
  · have : v = .slice none 0 0 := by simpa using hcs
    subst this
    exact ⟨[], none, 0, rfl, Nat.le_refl _, fun _ => rfl, BytesIn.nil _ _, by simp⟩
  · have : v = .slice (some x) l c := by simpa using hcs
    subst this
    rw [hsp, if_pos rfl] at hz
    rw [hx] at hw
    have hwt := weighs_slice Try.underlying67 hw
    rw [show Try.prog.bytesOf 5 = 1 by kernel_rfl] at hwt
    simp only [lits, List.length_map, List.length_take, List.length_drop] at hwt
    obtain ⟨xs, rfl, h1, h2, h3⟩ := IsRow.ints (k := .u8) (w := W) (a := some x) (len := l) (cap := c) (zs := zs) (.inr ⟨x, rfl, hl, hm, hz, hcell, hwz⟩)
    obtain ⟨b, hb, hbi⟩ := BytesIn.ofInts h2 h3
    refine ⟨b, some x, c, by rw [hb], by omega, (fun e => by cases e), hbi, ?_⟩
    have : reachBytes = 140737488351232 := rfl
    omega
/-- An equation's two cells, as they are told. -/
def EqCells (W : World) (v1 v2 : Value) (e : EqV) : Prop :=
  (∃ a cap, v1 = .slice a e.of.length cap ∧ e.of.length ≤ cap ∧ (a = none → cap = 0) ∧ IntsAt W .i64 a e.of) ∧ (∀ n ∈ e.of, (Lit.int .i64 n).wf = true) ∧ e.of.length ≤ 17592186044416 ∧
  (∃ a cap, v2 = .slice a e.val.length cap ∧ e.val.length ≤ cap ∧ (a = none → cap = 0) ∧ BytesIn (fun _ => True) W a e.val) ∧ e.val.length ≤ 140737488351232
set_option maxRecDepth 100000 in
theorem cells_eq {H : Type} {enc : TypeId × Value → H} {W : World} {base : Nat} {sp : Nat → Bool} {held : Bool} {fuel : Nat} {l : List Value} {y : DataW H × List MemPlace}
    (hsp : ∀ b, sp b = true) (h : DataW.trod enc Try.prog W base sp held fuel 69 l = some y) (hw : Weighs 69 y.1) : ∃ v1 v2 e, l = [v1, v2] ∧ EqCells W v1 v2 e := by
  have hC : Try.prog.cellsOf 69 = 2 := by kernel_rfl
  have hI : Try.prog.cellsOf 27 = 1 := by kernel_rfl
  have hS : Try.prog.cellsOf 67 = 1 := by kernel_rfl
  obtain ⟨ys, n, _, hy, hcl, hyl, hi⟩ := DataW.trod_struct Try.underlying69 h
  rw [hC] at hcl
  have hyl2 : ys.length = 2 := hyl
  match l, hcl with
  | [v1, v2], _ =>
    have g := fun (i : Nat) (h : i < 2) => List.getElem?_eq_getElem (l := ys) (show i < ys.length by omega)
    have f0 := (hi 0 _ rfl).trans (g 0 (by omega))
    have f1 := (hi 1 _ rfl).trans (g 1 (by omega))
    have f0' : DataW.trod enc Try.prog W base sp held n 27 [v1] = some ys[0] := f0
    have f1' : DataW.trod enc Try.prog W base sp held n 67 [v2] = some ys[1] := f1
    rw [hy] at hw
    obtain ⟨of, a1, c1, e1, p1, q1, r1, s1, t1⟩ := cell_nums hsp f0' (weighs_part (i := 0) Try.underlying69 hw rfl (by rw [List.getElem?_map, g 0 (by omega)]; rfl))
    obtain ⟨vl, a2, c2, e2, p2, q2, r2, t2⟩ := cell_bytesW hsp f1' (weighs_part (i := 1) Try.underlying69 hw rfl (by rw [List.getElem?_map, g 1 (by omega)]; rfl))
    exact ⟨v1, v2, ⟨of, vl⟩, rfl, ⟨a1, c1, e1, p1, q1, r1⟩, s1, t1, ⟨a2, c2, e2, p2, q2, r2⟩, t2⟩
set_option maxRecDepth 100000 in
theorem open_eq {H : Type} {enc : TypeId × Value → H} {W : World} {r : Reach} {b0 base : Nat} {sp : Nat → Bool} {held : Bool} {v : Value} {d : DataW H} {p : List MemPlace}
    (hv : Value.okWide Try.prog W r b0 69 v) (hsp : ∀ b, sp b = true) (h : DataW.Trod enc Try.prog W base sp held 69 v d p) (hw : Weighs 69 d) :
    ∃ (of : List Int) (A1 : Option Addr) (c1 : Nat) (vl : List UInt8) (A2 : Option Addr) (c2 : Nat), v = .agg #[.slice A1 (List.length of) c1, .slice A2 (List.length vl) c2] ∧ (of.length ≤ c1 ∧ (A1 = none → c1 = 0) ∧ IntsAt W .i64 A1 of) ∧ (∀ n ∈ of, (Lit.int .i64 n).wf = true) ∧ of.length ≤ 17592186044416 ∧
      (vl.length ≤ c2 ∧ (A2 = none → c2 = 0) ∧ BytesIn (fun _ => True) W A2 vl) ∧ vl.length ≤ 140737488351232 := by
  obtain ⟨cs, rfl, hsz⟩ := okWide_struct Try.underlying69 hv
  obtain ⟨fuel, hf⟩ := h
  simp only [Value.cells] at hf
  obtain ⟨v1, v2, e, hl, ⟨a1, c1, e1, p1⟩, w1, t1, ⟨a2, c2, e2, p2⟩, t2⟩ := cells_eq hsp hf hw
  obtain ⟨l⟩ := cs
  simp only [] at hl
  subst hl e1 e2
  exact ⟨e.of, a1, c1, e.val, a2, c2, rfl, p1, w1, t1, p2, t2⟩
set_option maxRecDepth 100000 in
theorem open_eqs {H : Type} {enc : TypeId × Value → H} {W : World} {r : Reach} {b0 base : Nat} {held : Bool} {v : Value} {d : DataW H} {p : List MemPlace}
    (hv : Value.okWide Try.prog W r b0 60 v) (h : DataW.Trod enc Try.prog W base (fun _ => true) held 60 v d p) (hw : Weighs 60 d) :
    ∃ es A c, v = .slice A (List.length es) c ∧ es.length ≤ c ∧ (A = none → c = 0) ∧ EqsIn (fun _ => True) W A es ∧ (∀ e ∈ es, e.of.length ≤ 17592186044416 ∧ e.val.length ≤ 140737488351232) ∧ (∀ e ∈ es, ∀ n ∈ e.of, (Lit.int .i64 n).wf = true) := by
  obtain ⟨a, len, cap, rfl⟩ := okWide_slice Try.underlying60 hv
  have hC : Try.prog.cellsOf 69 = 2 := by kernel_rfl
  obtain ⟨fuel, hf⟩ := h
  rcases DataW.trod_slice Try.underlying60 hf with ⟨hcs, _⟩ | ⟨x, l, c, elems, rest, n, _, hcs, hx, hb, hl, hm, hlen, hel, hsp, _⟩
  · simp [Value.cells] at hcs
    obtain ⟨rfl, rfl, rfl⟩ := hcs
    exact ⟨[], none, 0, rfl, Nat.le_refl _, fun _ => rfl, ⟨by simp, fun h => by simp at h⟩, fun e he => by simp at he, fun e he => by simp at he⟩
  · simp [Value.cells] at hcs
    obtain ⟨rfl, rfl, rfl⟩ := hcs
    have hd : d = .slice (elems.map (·.1)) (rest.map (·.1)) := by injection hx
    rw [hd] at hw
    have hwt := weighs_slice Try.underlying60 hw
    rw [show Try.prog.bytesOf 69 = 48 by kernel_rfl] at hwt
    simp only [List.length_map, hlen] at hwt
    rw [hC] at hel
    have each : ∀ j, ∃ e : EqV, j < len → ∃ v1 v2, W.cell? (x.add (j * 2)) = some v1 ∧ W.cell? ((x.add (j * 2)).add 1) = some v2 ∧ EqCells W v1 v2 e := by
      intro j
      by_cases hj : j < len
      · have h1 := hel j hj
        rw [List.getElem?_eq_getElem (by omega), Option.bind_eq_some_iff] at h1
        obtain ⟨cs, hc1, hc2⟩ := h1
        obtain ⟨v1, v2, e, rfl, he⟩ := cells_eq (fun _ => rfl) hc2 (weighs_elem Try.underlying60 hw (List.mem_map.2 ⟨_, List.getElem_mem (by omega), rfl⟩))
        obtain ⟨_, _, hc3⟩ := World.cells?_some hc1
        have h0 := hc3 0 (by omega)
        have h1 := hc3 1 (by omega)
        refine ⟨e, fun _ => ⟨v1, v2, ?_, h1, he⟩⟩
        have : (x.add (j * 2)).add 0 = x.add (j * 2) := rfl
        rw [← this]; exact h0
      · exact ⟨⟨[], []⟩, fun h => absurd h hj⟩
    have f := fun j => Classical.choose_spec (each j)
    generalize hF : (fun j => Classical.choose (each j)) = F at f
    have hF' : ∀ j, Classical.choose (each j) = F j := fun j => by rw [← hF]
    have hge : ∀ j, j < len → ge ((List.range len).map F) j = F j := fun j hj => by simp [ge, hj]
    have hreach : reachBytes = 140737488351232 := rfl
    refine ⟨(List.range len).map F, some x, cap, by simp, by simpa using hl, (fun e => by cases e), ⟨by simp; omega, fun h0 => ?_⟩, fun e he => ?_, fun e he => ?_⟩
    · simp only [List.length_map, List.length_range] at h0
      obtain ⟨xb, xo, xs⟩ := x
      have hs : xs = none := by
        obtain ⟨v1, v2, h1, _⟩ := f 0 h0
        simpa [Addr.add] using World.cell?_spot h1
      subst hs
      refine ⟨xb, xo, rfl, trivial, fun j hj => ?_⟩
      simp only [List.length_map, List.length_range] at hj
      obtain ⟨v1, v2, h1, h2, ⟨a1, c1, e1, p1, q1, r1⟩, _, _, ⟨a2, c2, e2, p2, q2, r2⟩, _⟩ := f j hj
      rw [hF'] at e1 e2 p1 p2 r1 r2
      refine ⟨v1, v2, ?_, ?_, ⟨a1, c1, ?_, ?_, q1, ?_⟩, ⟨a2, c2, ?_, ?_, q2, ?_⟩⟩
      · rw [← h1, add_none rfl]
      · rw [← h2, add_none (by rw [add_none rfl]), add_none rfl]
      · rw [hge j hj]; exact e1
      · rw [hge j hj]; exact p1
      · rw [hge j hj]; exact ⟨r1, fun _ _ _ _ => trivial⟩
      · rw [hge j hj]; exact e2
      · rw [hge j hj]; exact p2
      · rw [hge j hj]; exact r2
    · obtain ⟨j, hj, rfl⟩ := List.mem_map.1 he
      obtain ⟨v1, v2, _, _, _, _, h1, _, h2⟩ := f j (List.mem_range.1 hj)
      rw [hF'] at h1 h2
      exact ⟨h1, h2⟩
    · obtain ⟨j, hj, rfl⟩ := List.mem_map.1 he
      obtain ⟨v1, v2, _, _, _, h1, _⟩ := f j (List.mem_range.1 hj)
      rw [hF'] at h1
      exact h1
end Go.Proofs.Ytkjaacpcnjakcaa
/- An argument that is lists of numbers, with what memory bears of it. Conditions: the row's. -/
set_option linter.unusedVariables false
namespace Go.Proofs.Ytkjaacpcnjakcaa
open Go.ChangeShapes Go.WideShapes Go.ChangeAt Go.RowKit

def NumCell (W : World) (v : Value) (l : List Int) : Prop := (∃ a cap, v = .slice a l.length cap ∧ l.length ≤ cap ∧ (a = none → cap = 0) ∧ IntsAt W .i64 a l) ∧ (∀ n ∈ l, (Lit.int .i64 n).wf = true) ∧ l.length ≤ 17592186044416
set_option maxRecDepth 100000 in
theorem open_nrows {H : Type} {enc : TypeId × Value → H} {W : World} {base : Nat} {sp : Nat → Bool} {held : Bool} {v : Value} {d : DataW H} {p : List MemPlace} (hsp0 : ∀ b, sp b = true)
    (hv : ∃ a n c, v = .slice a n c) (h : DataW.Trod enc Try.prog W base sp held 22 v d p) (hw : Weighs 22 d) :
    ∃ ls A c, v = .slice A (List.length ls) c ∧ ls.length ≤ c ∧ (A = none → c = 0) ∧ RowsAt W A ls ∧ ls.length ≤ 5864062014805 ∧ (∀ l ∈ ls, l.length ≤ 17592186044416) ∧ (∀ l ∈ ls, ∀ n ∈ l, (Lit.int .i64 n).wf = true) := by
  obtain ⟨a, len, cap, rfl⟩ := hv
  have hC : Try.prog.cellsOf 27 = 1 := by kernel_rfl
  obtain ⟨fuel, hf⟩ := h
  rcases DataW.trod_slice Try.underlying22 hf with ⟨hcs, _⟩ | ⟨x, l, c, elems, rest, n, _, hcs, hx, hb, hl, hm, hlen, hel, hsp, _⟩
  · simp [Value.cells] at hcs
    obtain ⟨rfl, rfl, rfl⟩ := hcs
    exact ⟨[], none, 0, rfl, Nat.le_refl _, fun _ => rfl, ⟨by simp, fun h => by simp at h⟩, by simp, fun e he => by simp at he, fun e he => by simp at he⟩
  · simp [Value.cells] at hcs
    obtain ⟨rfl, rfl, rfl⟩ := hcs
    have hd : d = .slice (elems.map (·.1)) (rest.map (·.1)) := by injection hx
    rw [hd] at hw
    have hwt := weighs_slice Try.underlying22 hw
    rw [show Try.prog.bytesOf 27 = 24 by kernel_rfl] at hwt
    simp only [List.length_map, hlen] at hwt
    rw [hC] at hel
    have each : ∀ j, ∃ e : List Int, j < len → ∃ v1, W.cell? (x.add j) = some v1 ∧ NumCell W v1 e := by
      intro j
      by_cases hj : j < len
      · have h1 := hel j hj
        rw [List.getElem?_eq_getElem (by omega), Option.bind_eq_some_iff] at h1
        obtain ⟨cs, hc1, hc2⟩ := h1
        obtain ⟨_, hs1, hc3⟩ := World.cells?_some hc1
        obtain ⟨v1, rfl⟩ : ∃ v1, cs = [v1] := List.length_eq_one_iff.1 hs1
        have h0 : W.cell? ((x.add (j * 1)).add 0) = some v1 := hc3 0 (by simp)
        obtain ⟨e, a1, c1, he, g1, g2, g3, g4, g5⟩ := cell_nums hsp0 hc2 (weighs_elem Try.underlying22 hw (List.mem_map.2 ⟨_, List.getElem_mem (by omega), rfl⟩))
        refine ⟨e, fun _ => ⟨v1, ?_, ⟨a1, c1, he, g1, g2, g3⟩, g4, g5⟩⟩
        have : (x.add (j * 1)).add 0 = x.add j := by rw [Nat.mul_one]; rfl
        rw [← this]; exact h0
      · exact ⟨[], fun h => absurd h hj⟩
    have f := fun j => Classical.choose_spec (each j)
    generalize hF : (fun j => Classical.choose (each j)) = F at f
    have hF' : ∀ j, Classical.choose (each j) = F j := fun j => by rw [← hF]
    have hge : ∀ j, j < len → gl ((List.range len).map F) j = F j := fun j hj => by simp [gl, hj]
    have hreach : reachBytes = 140737488351232 := rfl
    refine ⟨(List.range len).map F, some x, cap, by simp, by simpa using hl, (fun e => by cases e), ⟨by simp; omega, fun h0 => ?_⟩, by simp; omega, fun e he => ?_, fun e he => ?_⟩
    · simp only [List.length_map, List.length_range] at h0
      obtain ⟨xb, xo, xs⟩ := x
      have hs : xs = none := by
        obtain ⟨v1, h1, _⟩ := f 0 h0
        simpa [Addr.add] using World.cell?_spot h1
      subst hs
      refine ⟨xb, xo, rfl, fun j hj => ?_⟩
      simp only [List.length_map, List.length_range] at hj
      obtain ⟨v1, h1, ⟨a1, c1, h2, h3, h4, h5⟩, _⟩ := f j hj
      rw [hF'] at h2 h3 h5
      rw [hge j hj]
      refine ⟨v1, ?_, a1, c1, h2, h3, h4, h5⟩
      rw [show (⟨xb, xo + j, none⟩ : Addr) = (⟨xb, xo, none⟩ : Addr).add j from (add_none (a := ⟨xb, xo, none⟩) (i := j) rfl).symm]
      exact h1
    · obtain ⟨j, hj, rfl⟩ := List.mem_map.1 he
      have := f j (List.mem_range.1 hj)
      obtain ⟨v1, h1, _, _, h2⟩ := this
      rw [hF'] at h2
      exact h2
    · obtain ⟨j, hj, rfl⟩ := List.mem_map.1 he
      have := f j (List.mem_range.1 hj)
      obtain ⟨v1, h1, _, h2, _⟩ := this
      rw [hF'] at h2
      exact h2
end Go.Proofs.Ytkjaacpcnjakcaa
/- An argument that is almonrylaw16's Eqs, by value. Conditions: the row's. -/
set_option linter.unusedVariables false
namespace Go.Proofs.Ytkjaacpcnjakcaa
open Go.ChangeShapes Go.WideShapes Go.ChangeAt Go.RowKit Go.Deep

set_option maxRecDepth 100000 in
theorem open_brows {H : Type} {enc : TypeId × Value → H} {W : World} {base : Nat} {held : Bool} {v : Value} {d : DataW H} {p : List MemPlace}
    (hv : ∃ a n c, v = .slice a n c) (h : DataW.Trod enc Try.prog W base (fun _ => true) held 57 v d p) : ∃ ls A c, v = .slice A (List.length ls) c ∧ ls.length ≤ c ∧ (A = none → c = 0) ∧ RowsIn (fun _ => True) W A ls := by
  obtain ⟨a, len, cap, rfl⟩ := hv
  obtain ⟨fuel, hf⟩ := h
  rcases open_int_rows Try.underlying57 Try.underlying67 Try.underlying5 (by kernel_rfl) (by kernel_rfl) hf with ⟨hcs, _⟩ | ⟨x, l, c, AA, L, C, Z, hcs, _, hl, hm, _, hr⟩
  · simp [Value.cells] at hcs
    obtain ⟨rfl, rfl, rfl⟩ := hcs
    exact ⟨[], none, 0, rfl, Nat.le_refl _, fun _ => rfl, RowsIn.nil _ _ _⟩
  · simp [Value.cells] at hcs
    obtain ⟨rfl, rfl, rfl⟩ := hcs
    have each : ∀ j, ∃ b : List UInt8, j < cap → L j = b.length ∧ BytesIn (fun _ => True) W (AA j) b := by
      intro j
      by_cases hj : j < cap
      · obtain ⟨_, h1, h2, h3, h4, h5, h6⟩ := hr j hj
        obtain ⟨b, hb⟩ := row_bytes (w := W) h1 h2 h3 h4 h5 (fun a' e => (h6 a' e).2)
        exact ⟨b, fun _ => hb⟩
      · exact ⟨[], fun h => absurd h hj⟩
    have f := fun j => Classical.choose_spec (each j)
    generalize hF : (fun j => Classical.choose (each j)) = F at f
    have hF' : ∀ j, Classical.choose (each j) = F j := fun j => by rw [← hF]
    refine ⟨(List.range len).map F, some x, cap, by simp, by simpa using hl, (fun e => by cases e), (by simp; unfold maxLen at hm; omega), fun h0 => ?_⟩
    simp only [List.length_map, List.length_range] at h0
    obtain ⟨xb, xo, xs⟩ := x
    have hs : xs = none := by
      have := (hr 0 (by omega)).1
      simpa [Addr.add] using World.cell?_spot this
    subst hs
    refine ⟨xb, xo, rfl, trivial, fun j hj => ?_⟩
    simp only [List.length_map, List.length_range] at hj
    obtain ⟨h0', h1, h2, h3, h4, h5, h6⟩ := hr j (by omega)
    have hfj := f j (by omega)
    rw [hF'] at hfj
    refine ⟨_, by rw [show (⟨xb, xo + j, none⟩ : Addr) = (⟨xb, xo, none⟩ : Addr).add j from (add_none (a := ⟨xb, xo, none⟩) (i := j) rfl).symm]; exact h0', AA j, C j, ?_, ?_, h5, ?_⟩
    · have : gr ((List.range len).map F) j = F j := by simp [gr, hj]
      rw [this, ← hfj.1]
    · have : gr ((List.range len).map F) j = F j := by simp [gr, hj]
      rw [this, ← hfj.1]; exact h1
    · have : gr ((List.range len).map F) j = F j := by simp [gr, hj]
      rw [this]; exact hfj.2
theorem slice_cell {H : Type} {enc : TypeId × Value → H} {W : World} {base : Nat} {sp : Nat → Bool} {held : Bool} {n : Nat} {T e : TypeId} {v : Value} {y : DataW H × List MemPlace} (hu : Try.prog.underlying T = some (.slice e)) (h : DataW.trod enc Try.prog W base sp held n T [v] = some y) :
    (∃ a n c, v = .slice a n c) ∧ DataW.Trod enc Try.prog W base sp held T v y.1 y.2 := by
  have hs : ∃ a n c, v = .slice a n c := by
    rcases DataW.trod_slice hu h with ⟨hcs, _⟩ | ⟨x, l, c, elems, rest, n, _, hcs, _⟩
    · exact ⟨none, 0, 0, by simpa using hcs⟩
    · exact ⟨some x, l, c, by simpa using hcs⟩
  refine ⟨hs, ?_⟩
  obtain ⟨a, m, c, rfl⟩ := hs
  exact ⟨n, h⟩
set_option maxRecDepth 100000 in
theorem open_eqs16 {H : Type} {enc : TypeId × Value → H} {W : World} {r : Reach} {b0 base : Nat} {held : Bool} {v : Value} {d : DataW H} {p : List MemPlace}
    (hv : Value.okWide Try.prog W r b0 59 v) (h : DataW.Trod enc Try.prog W base (fun _ => true) held 59 v d p) (hw : Weighs 59 d) :
    ∃ (al sz : Nat) (ls : List (List Int)) (A : Option Addr) (c : Nat) (bs : List (List UInt8)) (B : Option Addr) (e : Nat), v = .agg #[.int .u8 (al : Int), .int .u8 (sz : Int), .slice A (List.length ls) c, .slice B (List.length bs) e] ∧ al < 256 ∧ sz < 256 ∧
      (ls.length ≤ c ∧ (A = none → c = 0) ∧ RowsAt W A ls ∧ (∀ l ∈ ls, l.length ≤ 17592186044416)) ∧ (bs.length ≤ e ∧ (B = none → e = 0) ∧ RowsIn (fun _ => True) W B bs) := by
  obtain ⟨cs, rfl, hsz⟩ := okWide_struct Try.underlying59 hv
  have hC : Try.prog.cellsOf 59 = 4 := by kernel_rfl
  have hB : Try.prog.cellsOf 5 = 1 := by kernel_rfl
  have hS : Try.prog.cellsOf 22 = 1 := by kernel_rfl
  have hR : Try.prog.cellsOf 57 = 1 := by kernel_rfl
  rw [hC] at hsz
  obtain ⟨fuel, hf⟩ := h
  obtain ⟨ys, n, _, hy, hcl, hyl, hi⟩ := DataW.trod_struct Try.underlying59 hf
  rw [hC] at hcl
  simp only [Value.cells] at hf hcl hi
  obtain ⟨l⟩ := cs
  simp only [] at hsz hcl hi
  have hyl4 : ys.length = 4 := hyl
  match l, hsz with
  | [v0, v1, v2, v3], _ =>
    have g := fun (i : Nat) (h : i < 4) => List.getElem?_eq_getElem (l := ys) (show i < ys.length by omega)
    have f0 := (hi 0 _ rfl).trans (g 0 (by omega))
    have f1 := (hi 1 _ rfl).trans (g 1 (by omega))
    have f2 := (hi 2 _ rfl).trans (g 2 (by omega))
    have f3 := (hi 3 _ rfl).trans (g 3 (by omega))
    have f0' : DataW.trod enc Try.prog W base (fun _ => true) held n 5 [v0] = some ys[0] := f0
    have f1' : DataW.trod enc Try.prog W base (fun _ => true) held n 5 [v1] = some ys[1] := f1
    have f2' : DataW.trod enc Try.prog W base (fun _ => true) held n 22 [v2] = some ys[2] := f2
    have f3' : DataW.trod enc Try.prog W base (fun _ => true) held n 57 [v3] = some ys[3] := f3
    injection hy with hy1 hy2
    rw [hy1] at hw
    obtain ⟨x0, rfl, w0⟩ := cell_int Try.underlying5 f0'
    obtain ⟨x1, rfl, w1⟩ := cell_int Try.underlying5 f1'
    obtain ⟨s2, t2⟩ := slice_cell Try.underlying22 f2'
    obtain ⟨s3, t3⟩ := slice_cell Try.underlying57 f3'
    obtain ⟨ls, A, c, rfl, h1, h2, h3, _, h4, _⟩ := open_nrows (fun _ => rfl) s2 t2 (weighs_part (i := 2) Try.underlying59 hw rfl (by rw [List.getElem?_map, g 2 (by omega)]; rfl))
    obtain ⟨bs, B, e, rfl, h5, h6, h7⟩ := open_brows s3 t3
    have b0 := bounds_u8 w0
    have b1 := bounds_u8 w1
    refine ⟨x0.toNat, x1.toNat, ls, A, c, bs, B, e, ?_, by omega, by omega, ⟨h1, h2, h3, h4⟩, ⟨h5, h6, h7⟩⟩
    rw [show ((x0.toNat : Nat) : Int) = x0 by omega, show ((x1.toNat : Nat) : Int) = x1 by omega]
end Go.Proofs.Ytkjaacpcnjakcaa
