/- The last texts ahead of the law ClosureTrue, one behind the other: what each proves, and its conditions, stands ahead of it. -/
import Derived.Test.YtkjaacpcnjakcaaSpeaks16
import Derived.Test.YtkjaacpcnjakcaaBig16
import Derived.Test.YtkjaacpcnjakcaaTrueMath
import Derived.Test.YtkjaacpcnjakcaaEquationSums
import Derived.Test.YtkjaacpcnjakcaaBRows
import Derived.IntWalk
import Derived.Test.YtkjaacpcnjakcaaRow
import Derived.Test.YtkjaacpcnjakcaaBytes
import Derived.Deep.Matrix
import Derived.Test.YtkjaacpcnjakcaaEqAdd
import Derived.SizedLaws
import Derived.Test.YtkjaacpcnjakcaaRows2
/- The law ClosureTrue: its walk. Conditions: lengths that memory bears. -/
set_option linter.unusedVariables false
namespace Go.Proofs.Ytkjaacpcnjakcaa
open Go.RowKit
attribute [local go_sem ↓] Go.wp_at_zero Go.wp_at_succ

set_option maxHeartbeats 4000000 in
set_option maxRecDepth 20000 in
theorem closureTrue_calls (al sz : Nat) (ofs : List (List Int)) (bs : List (List UInt8)) (Ao Av Ab : Option Addr) (co mv cv cb : Nat) (w : World) (hal : al < 256) (hsz : sz < 256) (ho : RowsAt w Ao ofs) (hb : RowsIn (fun _ => True) w Ab bs) (hmx : ∀ of ∈ ofs, of.length ≤ 140737488355328) :
    Calls Try.prog 9 #[.agg #[.int .u8 (al : Int), .int .u8 (sz : Int), .slice Ao ofs.length co, .slice Av mv cv], .slice Ab bs.length cb] w fun e w' => e = .returned (.bool true) ∧ Keeps NoB w w' := by
  have hol := ho.1
  have hbl := hb.len
  have HO := hid ho
  have HB := hid hb.lt
  have HBG := hid (fun (w0 : World) (h0 : RowsAt w0 Ao ofs) => big16_calls ofs Ao co w0 h0 hmx)
  clear ho hb hmx
  obtain ⟨m, hm⟩ : ∃ m, ofs.length = m := ⟨_, rfl⟩
  obtain ⟨q, hq⟩ : ∃ q, bs.length = q := ⟨_, rfl⟩
  rw [hm] at hol HBG ⊢
  rw [hq] at hbl ⊢
  have HM := hid hm
  have HQ := hid hq
  clear hm hq
  obtain ⟨n, hn⟩ : ∃ n, al % 40 = n := ⟨_, rfl⟩
  obtain ⟨N, hN⟩ : ∃ N, sz % 6 = N := ⟨_, rfl⟩
  have hn40 : n < 40 := by omega
  have hN6 : N < 6 := by omega
  have r1 : (al : Int).tmod 40 = (n : Int) := by rw [Int.tmod_eq_emod_of_nonneg (by omega)]; omega
  have r2 : (sz : Int).tmod 6 = (N : Int) := by rw [Int.tmod_eq_emod_of_nonneg (by omega)]; omega
  have s1 : IntKind.i64.wrap (al : Int) = (al : Int) := IntWalk.i64_in _ (by omega)
  have s2 : IntKind.i64.wrap (sz : Int) = (sz : Int) := IntWalk.i64_in _ (by omega)
  have s3 : IntKind.i64.wrap (n : Int) = (n : Int) := IntWalk.i64_in _ (by omega)
  have s4 : IntKind.i64.wrap (N : Int) = (N : Int) := IntWalk.i64_in _ (by omega)
  have HR := hid (And.intro (And.intro r1 r2) (And.intro (And.intro s1 s2) (And.intro s3 s4)))
  clear hn hN r1 r2 s1 s2 s3 s4
  go_enter Try.func9, Try.ntmps9
  obtain ⟨w0, hw0⟩ : ∃ w0, w.alloc (.cells #[.int .u8 (al : Int), .int .u8 (sz : Int), .slice Ao m co, .slice Av mv cv] 59) = w0 := ⟨_, rfl⟩
  have HK0 := hid (show Keeps NoB w w0 by rw [← hw0]; exact (Keeps.refl NoB w).alloc _)
  have HBX := hid (show w0.heap[w.heap.size]? = some (.cells #[.int .u8 (al : Int), .int .u8 (sz : Int), .slice Ao m co, .slice Av mv cv] 59 (0, 0)) by rw [← hw0]; exact heap_alloc_new w _)
  go_wp2_with fail
  clear hw0
  refine (speaks16_calls w0).mono ?_
  rintro e w1 ⟨rfl, hk1⟩
  have HK1 := hid (HK0.out.fresh hk1)
  have HBX := hid (hk1.heap HBX.out (fun h => h))
  clear hk1
  have c1 := (cells4 HBX.out).2.2.1
  go_wp2_with fail
  refine (HBG.out w1 (HO.out.kept HK1.out)).mono ?_
  rintro e w2 ⟨b, rfl, hb, rfl⟩
  cases b with
  | true =>
    go_wp2_with fail
    go_ret
    exact ⟨rfl, HK1.out⟩
  | false =>
    have hs := hb rfl
    have HS1 := hid hs.flat
    have HS2 := hid hs.each
    have HS3 := hid hs.len
    clear hb hs
    have hm4 : m ≤ 400 := by have := HS3.out; have := HM.out; omega
    by_cases hq60 : 60 < q
    · have d1 : decide ((60 : Int) < (q : Int)) = true := decide_eq_true (by omega)
      go_wp2_with fail
      go_ret
      exact ⟨rfl, HK1.out⟩
    · have d1 : decide ((60 : Int) < (q : Int)) = false := decide_eq_false (by omega)
      go_wp2_with fail
      have c2 := (cells4 HBX.out).1
      have c3 := (cells4 HBX.out).2.1
      obtain ⟨⟨r1, r2⟩, ⟨s1, s2⟩, s3, s4⟩ := HR.out
      go_quiet (fail)
      clear r1 r2 s1 s2 s3 s4 c2 c3
      go_wp2_with fail
      have HK3 := hid (HK1.out.drewN nq)
      have HBX3 := hid (show (w2.drewN nq).heap[w.heap.size]? = _ from HBX.out)
      obtain ⟨w3, hw3⟩ : ∃ w3, w2.drewN nq = w3 := ⟨_, rfl⟩
      rw [hw3] at HK3 HBX3
      rw [hw3]
      clear hw3 c1 HBX
      have hub := Try.underlying67
      have hus := Try.underlying57
      have hue := Try.underlying60
      obtain ⟨i1, hi', hz0', hz1', hz2'⟩ := info_parts info_u8
      have HAS := hid (allT_succ N bs)
      have HAL := hid (allT_length N bs)
      go_loopw [7, 36] (fun v7 v36 wr => ∃ k : Nat, k ≤ n ∧ v36 = .int .i64 (k : Int) ∧ Hid (OwnRows (fun _ => True) wr w3.heap.size v7 (allT N bs k)) ∧ Hid (Keeps NoB w3 wr)) (fun _ v36 _ => n - (intOf v36).toNat)
      case atStart => exact ⟨0, Nat.zero_le _, rfl, hid (OwnRows.nil _ _ _), hid (Keeps.refl _ _)⟩
      case round =>
        obtain ⟨k, hk, rfl, HRW, HK⟩ := hrel
        by_cases hlt : k < n
        · have hsz := HK.out.size
          have hal := HAL.out k
          have has := hid (HAS.out k)
          have hb1 : (allT N bs k).length + 1 ≤ 1000000000 := by omega
          clear hal
          have HRM := hid (HRW.out.mono (R' := fun b => b < wr.heap.size) (fun b h1 _ => h1))
          by_cases hkq : k < q
          · obtain ⟨bb, ob, rfl, hbR, hc⟩ := HB.out.2 (by rw [HQ.out]; omega)
            obtain ⟨u, cu, A5, c5, rfl, hc5, hA5, hrow⟩ := hc k (by rw [HQ.out]; exact hkq)
            have cu := (HK3.out.fresh HK.out).cell cu (fun h => h)
            have HROW := hid (hrow.kept (HK3.out.fresh HK.out))
            have p0 : (0 : Int) ≤ (k : Int) := by omega
            have p1 : (k : Int) < (q : Int) := by omega
            clear hc hbR hc5 hA5 hrow
            generalize gr bs k = l at *
            obtain ⟨ln, hln⟩ : ∃ n, l.length = n := ⟨_, rfl⟩
            rw [hln] at cu
            have hln2 := hid hln
            clear hln
            have tka : True := trivial
            go_wp2_with (first
              | (at_make; go_must (refine wpList_make_full _ rfl _ _ _ rfl wr.heap.size 5 i1 (.int .u8 0) 1 hub hi' hz0' hz1' .i64 .i64 _ _ N rfl rfl rfl rfl (by rw [hz2']; omega) (by unfold maxLen; omega) (Nat.le_refl _) ?_); intro w4 hown4 hgr4; have HX4 := hid (OwnB.ofMake hown4); have HK4 := hid ((Keeps.refl NoB wr).grown hgr4 (fun i e => by cases e)); have cu4 := HK4.out.cell cu (fun h => h); clear hown4 hgr4)
              | (at_builtin; go_must (refine wpList_app1RowB rfl _ _ 57 (fun _ => True) rfl w3.heap.size hus u7 (allT N bs k) rfl (HR5.out.kept ((Keeps.refl NoB _).alloc _)) _ _ (.slice (some ⟨wr.heap.size, 0, none⟩) N N) (padB N l) rfl (cell_one _ _ _) (RowIn.keeps HROW5.out ((Keeps.refl NoB _).alloc _) (fun _ _ h => h)) hb1 (by have h1 := HK5.out.size; simp; omega) ?_); intro v6 w6 hown6 hgr6 hat6)
              | (have hx4 := HX4.out; clear hx4; clear tka; refine (wpList_copyB rfl _ _ 67 67 rfl hub wr.heap.size _ (List.replicate N 0) l rfl HX4.out _ A5 ln c5 rfl hln2.out (HROW.out.kept HK4.out) ?_); intro n5 w5 hn5 hown5 hk5; have HX5 := hid (show OwnB w5 wr.heap.size _ (padB N l) by (have e5 : n5 = min l.length N := by (rw [hn5, List.length_replicate])); subst e5; exact hown5); have HK5 := hid (HK4.out.then hk5 (fun b hb hlt => by have := (OwnInts.base_le HX4.out b hb).1; omega)); have HR5 := hid (((HRM.out.kept HK4.out).keeps hk5 (fun b hb e => by have := (OwnInts.base_le HX4.out b e).1; omega) (fun b hb e => by have h1 := (OwnInts.base_le HX4.out b e).1; have h2 := (HRW.out.base_le b hb).2; omega)).mono (R' := fun _ => True) (fun _ _ _ => trivial)); have HROW5 := hid ((OwnB.row HX5.out).mono (R' := fun b => True ∧ u7.ownBlock ≠ some b) (fun b hlt hb => ⟨trivial, fun e => by have h1 := (OwnInts.base_le HX5.out b hb).1; have h2 := (HRW.out.base_le b e).2; omega⟩)); clear hown5 hk5 hn5))
            have HR6 := hid (show OwnRows (fun _ => True) w6 w3.heap.size v6 (allT N bs (k + 1)) by rw [has.out]; exact hown6)
            have HK6 := hid (((HK.out.fresh HK5.out).alloc (.cells #[.slice (some ⟨wr.heap.size, 0, none⟩) N N] 67)).grown hgr6 (fun i e hi => by have := (HRW.out.base_le i e.symm).1; omega))
            clear hown6 hgr6 hat6
            go_roundw
            case rel => exact ⟨k + 1, by omega, by go_num, HR6, HK6⟩
            case measure => simp [intOf]; omega
          · have hgo := hid (show padB N (gr bs k) = List.replicate N 0 by rw [gr_out bs k (by rw [HQ.out]; omega)]; exact padB_nil N)
            rw [hgo.out] at has
            go_wp2_with (first
              | (at_make; go_must (refine wpList_make_full _ rfl _ _ _ rfl wr.heap.size 5 i1 (.int .u8 0) 1 hub hi' hz0' hz1' .i64 .i64 _ _ N rfl rfl rfl rfl (by rw [hz2']; omega) (by unfold maxLen; omega) (Nat.le_refl _) ?_); intro w4 hown4 hgr4; have HX4 := hid (OwnB.ofMake hown4); have HK4 := hid ((Keeps.refl NoB wr).grown hgr4 (fun i e => by cases e)); have HR4 := hid ((HRM.out.kept HK4.out).mono (R' := fun _ => True) (fun _ _ _ => trivial)); have HROW4 := hid ((OwnB.row HX4.out).mono (R' := fun b => True ∧ u7.ownBlock ≠ some b) (fun b hlt hb => ⟨trivial, fun e => by have h1 := (OwnInts.base_le HX4.out b hb).1; have h2 := (HRW.out.base_le b e).2; omega⟩)); clear hown4 hgr4)
              | (at_builtin; go_must (refine wpList_app1RowB rfl _ _ 57 (fun _ => True) rfl w3.heap.size hus u7 (allT N bs k) rfl (HR4.out.kept ((Keeps.refl NoB _).alloc _)) _ _ (.slice (some ⟨wr.heap.size, 0, none⟩) N N) (List.replicate N 0) rfl (cell_one _ _ _) (RowIn.keeps HROW4.out ((Keeps.refl NoB _).alloc _) (fun _ _ h => h)) hb1 (by have h1 := HK4.out.size; simp; omega) ?_); intro v6 w6 hown6 hgr6 hat6))
            have HR6 := hid (show OwnRows (fun _ => True) w6 w3.heap.size v6 (allT N bs (k + 1)) by rw [has.out]; exact hown6)
            have HK6 := hid (((HK.out.fresh HK4.out).alloc (.cells #[.slice (some ⟨wr.heap.size, 0, none⟩) N N] 67)).grown hgr6 (fun i e hi => by have := (HRW.out.base_le i e.symm).1; omega))
            clear hown6 hgr6 hat6
            go_roundw
            case rel => exact ⟨k + 1, by omega, by go_num, HR6, HK6⟩
            case measure => simp [intOf]; omega
        · obtain rfl : k = n := by omega
          have HRL := hid (HRW.out.reads)
          obtain ⟨A7, c7, hv7, _, _, hrows⟩ := HRL.out
          rw [HAL.out k] at hv7
          subst hv7
          have HRI := hid (hrows.mono (R' := fun b => b < wr.heap.size) (fun b h _ => h))
          have HK4 := hid (HK3.out.fresh HK.out)
          have HBX4 := hid (HK.out.heap HBX3.out (fun h => h))
          clear hrows HRL HRW HK HBX3
          generalize hw4 : wr = w4 at *
          clear hw4
          have HET := hid (show ∀ j, j < m → eqsT k N bs (ofs.take (j + 1)) = eqsT k N bs (ofs.take j) ++ [eqT k N bs (gl ofs j)] from fun j hj => by
            rw [List.take_succ_eq_append_getElem (by rw [HM.out]; exact hj), eqsT, List.map_append, gl_eq ofs j (by rw [HM.out]; exact hj)]; rfl)
          have HEL := hid (show ∀ j, j ≤ m → (eqsT k N bs (ofs.take j)).length = j from fun j hj => by rw [eqsT, List.length_map, List.length_take, HM.out]; omega)
          have cbx := (cells4 HBX4.out).2.2.1
          go_wp2_with fail
          clear cbx
          go_loopw [10, 59] (fun v10 v59 wr => ∃ j : Nat, j ≤ m ∧ v59 = .int .i64 (j : Int) ∧ Hid (OwnEqs (fun _ => True) wr w4.heap.size v10 (eqsT k N bs (ofs.take j))) ∧ Hid (Keeps NoB w4 wr)) (fun _ v59 _ => m - (intOf v59).toNat)
          case atStart => exact ⟨0, Nat.zero_le _, rfl, hid (OwnEqs.nil _ _ _), hid (Keeps.refl _ _)⟩
          case round =>
            obtain ⟨j, hj, rfl, HOE, HK⟩ := hrel
            generalize hw5 : wr = w5 at *
            clear hw5
            by_cases hlt2 : j < m
            · obtain ⟨b6, o6, rfl, hc6⟩ := HO.out.2 (by rw [HM.out]; omega)
              obtain ⟨u, cu0, A6, c6, rfl, hc6', hA6, hat60⟩ := hc6 j (by rw [HM.out]; exact hlt2)
              have cu := (HK4.out.fresh HK.out).cell cu0 (fun h => h)
              have hat6 := hat60.kept (HK4.out.fresh HK.out)
              have HI := hid hat6
              have p0 : (0 : Int) ≤ (j : Int) := by omega
              have p1 : (j : Int) < (m : Int) := by omega
              have ht := hid (HET.out j hlt2)
              have hel := hid (HEL.out j (by omega))
              have hsz5 := HK.out.size
              have hofl := HS2.out (gl ofs j) (gl_mem (by rw [HM.out]; exact hlt2))
              have HN6 := hid (show NumsIn (fun b => b < w.heap.size) w5 (.slice A6 (gl ofs j).length c6) (gl ofs j) from ⟨_, _, rfl, hc6', hA6, hat6, hat60.lt⟩)
              have hszw4 := HK4.out.size
              clear hc6 hc6' hA6 hat6 hat60 cu0
              generalize hgl : gl ofs j = l at *
              clear hgl
              obtain ⟨ll, hll⟩ : ∃ ll, l.length = ll := ⟨_, rfl⟩
              rw [hll] at cu hofl HN6
              have HLL := hid hll
              clear hll
              go_wp2_with (at_make; go_must (refine wpList_make_full _ rfl _ _ _ rfl w5.heap.size 5 i1 (.int .u8 0) 1 hub hi' hz0' hz1' .i64 .i64 _ _ N rfl rfl rfl rfl (by rw [hz2']; omega) (by unfold maxLen; omega) (Nat.le_refl _) ?_); intro w6 hown6 hgr6; have HX6 := hid (OwnB.ofMake hown6); have HK6 := hid ((Keeps.refl NoB w5).grown hgr6 (fun i e => by cases e)); clear hown6 hgr6)
              have HIT := hid (inT_take k l)
              go_loopw [67] (fun v67 wr => ∃ i : Nat, i ≤ ll ∧ v67 = .int .i64 (i : Int) ∧ Hid (OwnB wr w5.heap.size (.slice (some ⟨w5.heap.size, 0, none⟩) N N) (sumF N (fT N bs) (inT k (l.take i)))) ∧ Hid (Keeps NoB w5 wr)) (fun v67 _ => ll - (intOf v67).toNat)
              case atStart => exact ⟨0, Nat.zero_le _, rfl, hid (by simpa [inT, sumF_nil] using HX6.out), HK6⟩
              case round =>
                obtain ⟨i, hi, rfl, HX, HKi⟩ := hrel
                by_cases hlt3 : i < ll
                · obtain ⟨b8, o8, rfl, hc8⟩ := (HI.out.kept HKi.out).get (by rw [HLL.out]; omega)
                  have cx := hc8 i (by rw [HLL.out]; exact hlt3)
                  have q0 : (0 : Int) ≤ (i : Int) := by omega
                  have q1 : (i : Int) < (ll : Int) := by omega
                  have hit := hid (HIT.out i (by rw [HLL.out]; exact hlt3))
                  clear hc8
                  generalize gi l i = x at *
                  by_cases hx0 : 0 ≤ x
                  · by_cases hxn : x < (k : Int)
                    · have hit2 := hid (show inT k (l.take (i + 1)) = inT k (l.take i) ++ [x] by rw [hit.out, if_pos ⟨hx0, hxn⟩])
                      have hxk : x.toNat < k := by omega
                      obtain ⟨b7, o7, rfl, hbR7, hc7⟩ := HRI.out.2 (by rw [HAL.out]; omega)
                      obtain ⟨u7', cu7, B7, d7, rfl, hd7, hB7, hrow7⟩ := hc7 x.toNat (by rw [HAL.out]; exact hxk)
                      rw [allT_gr N bs k x.toNat hxk] at cu7 hrow7 hd7
                      rw [padB_length] at cu7 hd7
                      have HROW7 := hid hrow7
                      clear hc7 hbR7 hd7 hB7 hrow7
                      obtain ⟨acc, hacc⟩ : ∃ acc, sumF N (fT N bs) (inT k (l.take i)) = acc := ⟨_, rfl⟩
                      obtain ⟨bx, hbx⟩ : ∃ bx, padB N (gr bs x.toNat) = bx := ⟨_, rfl⟩
                      have hal7 : acc.length = N := by rw [← hacc]; exact sumF_length (fT_vals N bs) _
                      have hbl7 : bx.length = acc.length := by rw [← hbx, padB_length, hal7]
                      have HNX := hid (show sumF N (fT N bs) (inT k (l.take (i + 1))) = xorL acc bx by rw [hit2.out, sumF_snoc (fT_vals N bs), hacc]; show xorL acc (padB N (gr bs x.toNat)) = _; rw [hbx])
                      rw [hacc] at HX
                      rw [hbx] at HROW7
                      have H0 := hid (xorTo_zero acc bx)
                      have HF := hid (xorTo_full acc bx hbl7)
                      have HL := hid (fun y => (xorTo_length acc bx hbl7 y).trans hal7)
                      have HA := hid (fun y (hy : y < N) => xorTo_at acc bx hbl7 y (by omega))
                      have HS := hid (fun y (hy : y < N) => xorTo_set acc bx hbl7 y (by omega))
                      have HAL7 := hid hal7
                      have HBL7 := hid hbl7
                      clear hacc hbx hal7 hbl7 hxk
                      have HKw := hid (HK.out.fresh HKi.out)
                      have CU7 := hid cu7
                      clear cu7
                      generalize hw8 : wr = w8 at *
                      clear hw8
                      go_wp2_with fail
                      go_loopw [80] (fun v80 wr => ∃ y : Nat, y ≤ N ∧ v80 = .int .i64 (y : Int) ∧ Hid (OwnB wr w5.heap.size (.slice (some ⟨w5.heap.size, 0, none⟩) N N) (xorTo acc bx y)) ∧ Hid (Keeps NoB w5 wr)) (fun v80 _ => N - (intOf v80).toNat)
                      case atStart => exact ⟨0, Nat.zero_le _, rfl, hid (by rw [H0.out]; exact HX.out), HKi⟩
                      case round =>
                        obtain ⟨y, hy, rfl, HY, HKy⟩ := hrel
                        by_cases hyN : y < N
                        · have HKwy := hid (HK.out.fresh HKy.out)
                          have cu8 := HKwy.out.cell CU7.out (fun h => h)
                          obtain ⟨bb, ob, rfl, hbR, hc⟩ := (HROW7.out.kept HKwy.out).get (by rw [HBL7.out, HAL7.out]; omega)
                          have g1 := hc y (by rw [HBL7.out, HAL7.out]; exact hyN)
                          have hll := HL.out y
                          have hat := HA.out y hyN
                          have hset := HS.out y hyN
                          have g2 := OwnInts.cell (HY.out : OwnInts _ _ _ _ _ _) (j := y) (by rw [enc8_length, hll]; exact hyN)
                          rw [gi_enc8 _ y (by rw [hll]; exact hyN), hat] at g2
                          have f2 := OwnInts.free (HY.out : OwnInts _ _ _ _ _ _) y
                          have hst := OwnInts.set (HY.out : OwnInts _ _ _ _ _ _) (j := y) (by rw [enc8_length, hll]; exact hyN) ((gb acc y ^^^ gb bx y).toNat : Int)
                          rw [enc8_set, hset] at hst
                          have HST := hid hst
                          have hxx := xor_byte (gb acc y) (gb bx y)
                          have hbd := byte_lt (gb acc y ^^^ gb bx y)
                          generalize ((gb acc y ^^^ gb bx y).toNat : Int) = z at *
                          generalize ((gb acc y).toNat : Int) = xa at *
                          generalize ((gb bx y).toNat : Int) = xb at *
                          have y0 : (0 : Int) ≤ (y : Int) := by omega
                          have y1 : (y : Int) < (N : Int) := by omega
                          have hszy := HKy.out.size
                          clear hst hset hat hc hbR hll
                          go_wp2_with fail
                          go_region
                          all_goals
                            go_wp2_with fail
                            go_roundw
                            case rel => exact ⟨y + 1, by omega, by go_num, hid (by exact HST.out), hid ((HKy.out.setCell (p := ⟨w5.heap.size, y, none⟩) (fun h => absurd h (Nat.lt_irrefl _)) _).drew)⟩
                            case measure => simp [intOf]; omega
                        · obtain rfl : y = N := by omega
                          go_wp2_with fail
                          go_roundw
                          case rel => exact ⟨i + 1, by omega, by go_num, hid (by rw [HNX.out, ← HF.out, HAL7.out]; exact HY.out), HKy⟩
                          case measure => simp [intOf]; omega
                    · have hit2 := hid (show inT k (l.take (i + 1)) = inT k (l.take i) by rw [hit.out, if_neg (by omega), List.append_nil])
                      go_wp2_with fail
                      go_roundw
                      case rel => exact ⟨i + 1, by omega, by go_num, hid (by rw [hit2.out]; exact HX.out), HKi⟩
                      case measure => simp [intOf]; omega
                  · have hit2 := hid (show inT k (l.take (i + 1)) = inT k (l.take i) by rw [hit.out, if_neg (by omega), List.append_nil])
                    go_wp2_with fail
                    go_roundw
                    case rel => exact ⟨i + 1, by omega, by go_num, hid (by rw [hit2.out]; exact HX.out), HKi⟩
                    case measure => simp [intOf]; omega
                · obtain rfl : i = ll := by omega
                  have hal2 : l.take i = l := by rw [← HLL.out]; exact List.take_length
                  have HXF := hid (show OwnB wr w5.heap.size (.slice (some ⟨w5.heap.size, 0, none⟩) N N) (eqT k N bs l).val by have := HX.out; rw [hal2] at this; exact this)
                  have HVL := hid (eqT_length k N bs l)
                  have HKA := hid ((Keeps.refl NoB wr).alloc (.cells #[.slice A6 i c6, .slice (some ⟨w5.heap.size, 0, none⟩) N N] 69))
                  have HPR := hid (show PairIn (fun b => u10.ownBlock ≠ some b) (wr.alloc (.cells #[.slice A6 i c6, .slice (some ⟨w5.heap.size, 0, none⟩) N N] 69)) (.slice A6 i c6) (.slice (some ⟨w5.heap.size, 0, none⟩) N N) (eqT k N bs l) from ⟨(HN6.out.keeps (HKi.out.fresh HKA.out) (fun _ _ h => h)).mono (fun b _ hb e => by have := (HOE.out.base_le b e).1; omega), (RowIn.keeps (OwnB.row HXF.out) HKA.out (fun _ _ h => h)).mono (fun b _ hb e => by have h1 := (HOE.out.base_le b e).2; have h2 : w5.heap.size = b := (by simpa [Value.ownBlock] using hb); omega)⟩)
                  have hcc := cells2 (heap_alloc_new wr (.cells #[.slice A6 i c6, .slice (some ⟨w5.heap.size, 0, none⟩) N N] 69))
                  have HC1 := hid hcc.1
                  have HC2 := hid hcc.2
                  have hszw := HKi.out.size
                  clear hcc hal2
                  go_wp2_with (at_builtin; go_must (refine wpList_app1Eq rfl _ _ 60 rfl w4.heap.size hue u10 (eqsT k N bs (ofs.take j)) rfl (HOE.out.kept (HKi.out.fresh HKA.out)) _ _ _ _ (eqT k N bs l) rfl HC1.out HC2.out HPR.out j hel.out (by omega) (by simp; omega) ?_); intro A9 c9 w9 hown9 hgr9 hlo9)
                  have HO9 := hid (show OwnEqs (fun _ => True) w9 w4.heap.size (.slice A9 (j + 1) c9) (eqsT k N bs (ofs.take (j + 1))) by rw [ht.out]; exact hown9)
                  have HK9 := hid ((HK.out.fresh (HKi.out.fresh HKA.out)).grown hgr9 (fun i e hi => by have := hlo9 i e; omega))
                  clear hown9 hgr9 hlo9
                  go_roundw
                  case rel => exact ⟨j + 1, by omega, by go_num, HO9, HK9⟩
                  case measure => simp [intOf]; omega
            · obtain rfl : j = m := by omega
              have hall : ofs.take j = ofs := by rw [← HM.out]; exact List.take_length
              rw [hall] at HOE
              have hell := HEL.out j (Nat.le_refl _)
              rw [hall] at hell
              obtain ⟨A9, c9, hv9, _, _, heq⟩ := HOE.out.reads (by omega)
              rw [hell] at hv9
              subst hv9
              have HAG := hid (agrees_calls (k : Int) N (eqsT k N bs ofs) A9 c9 _ w5 heq (by omega) (by omega) (by rw [← flat_ofs, eqsT_of]; have := HS1.out; omega) (by omega) (fun e he => by
                obtain ⟨of, hof, rfl⟩ := List.mem_map.1 he
                have := HS2.out of hof
                show of.length ≤ _
                omega))
              rw [eqsT_agree, hell] at HAG
              clear hall heq hell
              go_wp2_with fail
              refine HAG.out.mono ?_
              rintro e w9 ⟨rfl, hk9⟩
              have HK9 := hid ((HK4.out.fresh HK.out).fresh hk9)
              clear hk9
              go_wp2_with fail
              go_ret
              exact ⟨rfl, HK9.out⟩
end Go.Proofs.Ytkjaacpcnjakcaa
/- An argument that is a slice of bytes. Conditions: the row's. -/
set_option linter.unusedVariables false
namespace Go.Proofs.Ytkjaacpcnjakcaa
open Go.RowKit

theorem bytes_of_ints : ∀ xs : List Int, (∀ n ∈ xs, (Lit.int .u8 n).wf = true) → ∃ l : List UInt8, xs = enc8 l
  | [], _ => ⟨[], rfl⟩
  | n :: r, h => by
    obtain ⟨l, hl⟩ := bytes_of_ints r (fun m hm => h m (List.mem_cons_of_mem _ hm))
    have hn := Go.bounds_u8 (h n (List.mem_cons_self ..))
    refine ⟨UInt8.ofNat n.toNat :: l, ?_⟩
    rw [hl]
    simp only [enc8, List.map_cons, List.cons.injEq, and_true]
    have : (UInt8.ofNat n.toNat).toNat = n.toNat := by
      rw [UInt8.toNat_ofNat', Nat.mod_eq_of_lt (by omega)]
    omega
theorem BytesIn.ofInts {w : World} {a : Option Addr} {xs : List Int} (h : IntsAt w .u8 a xs) (hw : ∀ n ∈ xs, (Lit.int .u8 n).wf = true) : ∃ l : List UInt8, xs.length = l.length ∧ BytesIn (fun _ => True) w a l := by
  obtain ⟨l, rfl⟩ := bytes_of_ints xs hw
  exact ⟨l, enc8_length l, h, fun _ _ _ _ => trivial⟩
end Go.Proofs.Ytkjaacpcnjakcaa
/- An argument that is a slice of slices of bytes. Conditions: the row's. -/
set_option linter.unusedVariables false
namespace Go.Proofs.Ytkjaacpcnjakcaa
open Go.ChangeShapes Go.WideShapes Go.ChangeAt Go.RowKit Go.Deep

theorem add_none {a : Addr} {i : Nat} (h : a.spot = none) : a.add i = ⟨a.block, a.off + i, none⟩ := by
  obtain ⟨b, o, s⟩ := a
  simp only at h
  subst h
  unfold Addr.add
  split
  · rename_i e; subst e; rfl
  · rfl
/-- A row whose cells are told: its bytes. -/
theorem row_bytes {w : World} {A : Option Addr} {l c : Nat} {Z : List Int} (hl : l ≤ c) (hm : c ≤ maxLen) (hz : Z.length = c) (hw : ∀ n ∈ Z, (Lit.int .u8 n).wf = true) (hA : A = none → c = 0) (hc : ∀ a', A = some a' → ∀ j, j < c → w.cell? (a'.add j) = some (.int .u8 (Z.getD j 0))) :
    ∃ b : List UInt8, l = b.length ∧ BytesIn (fun _ => True) w A b := by
  cases A with
  | none =>
    have h0 := hA rfl
    obtain rfl : l = 0 := by omega
    exact ⟨[], rfl, BytesIn.nil _ _⟩
  | some a =>
    obtain ⟨xs, h1, h2, h3, h4⟩ := IsRow.ints (k := .u8) (w := w) (a := some a) (len := l) (cap := c) (zs := Z) (.inr ⟨a, rfl, hl, hm, hz, fun i hi => hc a rfl i (by omega), hw⟩)
    obtain ⟨b, hb, hbi⟩ := BytesIn.ofInts h3 h4
    exact ⟨b, by omega, hbi⟩
set_option maxRecDepth 100000 in
theorem open_rows {H : Type} {enc : TypeId × Value → H} {W : World} {r : Reach} {b0 base : Nat} {held : Bool} {v : Value} {d : DataW H} {p : List MemPlace}
    (hv : Value.okWide Try.prog W r b0 57 v) (h : DataW.Trod enc Try.prog W base (fun _ => true) held 57 v d p) : ∃ ls A c, v = .slice A (List.length ls) c ∧ ls.length ≤ c ∧ (A = none → c = 0) ∧ RowsIn (fun _ => True) W A ls := by
  obtain ⟨a, len, cap, rfl⟩ := okWide_slice Try.underlying57 hv
  obtain ⟨fuel, hf⟩ := h
  rcases open_int_rows Try.underlying57 Try.underlying67 Try.underlying5 (by kernel_rfl) (by kernel_rfl) hf with ⟨hcs, _⟩ | ⟨x, l, c, AA, L, C, Z, hcs, _, hl, hm, _, hr⟩
  · simp [Value.cells] at hcs
    obtain ⟨rfl, rfl, rfl⟩ := hcs
    exact ⟨[], none, 0, rfl, Nat.le_refl _, fun _ => rfl, RowsIn.nil _ _ _⟩
  · simp [Value.cells] at hcs
    obtain ⟨rfl, rfl, rfl⟩ := hcs
    have each : ∀ j, ∃ b : List UInt8, j < cap → L j = b.length ∧ BytesIn (fun _ => True) W (AA j) b := by
      intro j
      by_cases hj : j < cap
      · obtain ⟨_, h1, h2, h3, h4, h5, h6⟩ := hr j hj
        obtain ⟨b, hb⟩ := row_bytes (w := W) h1 h2 h3 h4 h5 (fun a' e => (h6 a' e).2)
        exact ⟨b, fun _ => hb⟩
      · exact ⟨[], fun h => absurd h hj⟩
    have f := fun j => Classical.choose_spec (each j)
    generalize hF : (fun j => Classical.choose (each j)) = F at f
    have hF' : ∀ j, Classical.choose (each j) = F j := fun j => by rw [← hF]
    refine ⟨(List.range len).map F, some x, cap, by simp, by simpa using hl, (fun e => by cases e), (by simp; unfold maxLen at hm; omega), fun h0 => ?_⟩
    simp only [List.length_map, List.length_range] at h0
    obtain ⟨xb, xo, xs⟩ := x
    have hs : xs = none := by
      have := (hr 0 (by omega)).1
      simpa [Addr.add] using World.cell?_spot this
    subst hs
    refine ⟨xb, xo, rfl, trivial, fun j hj => ?_⟩
    simp only [List.length_map, List.length_range] at hj
    obtain ⟨h0', h1, h2, h3, h4, h5, h6⟩ := hr j (by omega)
    have hfj := f j (by omega)
    rw [hF'] at hfj
    refine ⟨_, by rw [show (⟨xb, xo + j, none⟩ : Addr) = (⟨xb, xo, none⟩ : Addr).add j from (add_none (a := ⟨xb, xo, none⟩) (i := j) rfl).symm]; exact h0', AA j, C j, ?_, ?_, h5, ?_⟩
    · have : gr ((List.range len).map F) j = F j := by simp [gr, hj]
      rw [this, ← hfj.1]
    · have : gr ((List.range len).map F) j = F j := by simp [gr, hj]
      rw [this, ← hfj.1]; exact h1
    · have : gr ((List.range len).map F) j = F j := by simp [gr, hj]
      rw [this]; exact hfj.2
end Go.Proofs.Ytkjaacpcnjakcaa
/- Arguments that are equations. Conditions: the row's. -/
set_option linter.unusedVariables false
namespace Go.Proofs.Ytkjaacpcnjakcaa
open Go.ChangeShapes Go.WideShapes Go.ChangeAt Go.RowKit

def Weighs {H : Type} (t : TypeId) (d : DataW H) : Prop := ∀ n ∈ d.weights Try.prog t, n ≤ reachBytes
theorem weighs_slice {H : Type} {t e : TypeId} {elems spare : List (DataW H)} (hu : Try.prog.underlying t = some (.slice e)) (h : Weighs t (.slice elems spare)) : (elems.length + spare.length) * Try.prog.bytesOf e ≤ reachBytes :=
  h _ (by simp [DataW.weights, hu])
theorem weightsAll_mem {H : Type} {P : Program} {e : TypeId} : ∀ {l : List (DataW H)} {d : DataW H}, d ∈ l → ∀ n ∈ d.weights P e, n ∈ DataW.weightsAll P e l
  | d' :: r, d, hd, n, hn => by
    simp only [DataW.weightsAll, List.mem_append]
    rcases List.mem_cons.1 hd with rfl | h
    · exact Or.inl hn
    · exact Or.inr (weightsAll_mem h n hn)
theorem weighs_elem {H : Type} {t e : TypeId} {elems spare : List (DataW H)} {d : DataW H} (hu : Try.prog.underlying t = some (.slice e)) (h : Weighs t (.slice elems spare)) (hd : d ∈ elems) : Weighs e d := fun n hn =>
  h _ (by simp only [DataW.weights, hu, List.mem_cons, List.mem_append]; exact Or.inr (Or.inl (weightsAll_mem hd n hn)))
theorem weighs_part {H : Type} {t e : TypeId} {fs : Array Field} {parts : List (DataW H)} {d : DataW H} {i : Nat} (hu : Try.prog.underlying t = some (.struct fs)) (h : Weighs t (.agg parts)) (hf : (fs.toList.map (·.type))[i]? = some e) (hd : parts[i]? = some d) : Weighs e d := fun n hn =>
  h _ (by simp only [DataW.weights, hu]; exact DataW.weights_mem_each hf hd n hn)
theorem cell_nums {H : Type} {enc : TypeId × Value → H} {W : World} {base : Nat} {sp : Nat → Bool} {held : Bool} {n : Nat} {v : Value} {y : DataW H × List MemPlace}
    (hsp : ∀ b, sp b = true) (h : DataW.trod enc Try.prog W base sp held n 27 [v] = some y) (hw : Weighs 27 y.1) : ∃ (l : List Int) (a : Option Addr) (cap : Nat), v = .slice a l.length cap ∧ l.length ≤ cap ∧ (a = none → cap = 0) ∧ IntsAt W .i64 a l ∧ (∀ n ∈ l, (Lit.int .i64 n).wf = true) ∧ l.length ≤ 17592186044416 := by
  rcases open_ints Try.underlying27 Try.underlying3 (by kernel_rfl) h with ⟨hcs, _⟩ | ⟨x, l, c, zs, hcs, _, hl, hm, hz, hx, hcell, hwz⟩
  · have : v = .slice none 0 0 := by simpa using hcs
    subst this
    exact ⟨[], none, 0, rfl, Nat.le_refl _, fun _ => rfl, ⟨by simp, fun h => by simp at h⟩, fun n hn => by simp at hn, by simp⟩
  · have : v = .slice (some x) l c := by simpa using hcs
    subst this
    rw [hsp, if_pos rfl] at hz
    rw [hx] at hw
    have hwt := weighs_slice Try.underlying27 hw
    rw [show Try.prog.bytesOf 3 = 8 by kernel_rfl] at hwt
    simp only [lits, List.length_map, List.length_take, List.length_drop] at hwt
    obtain ⟨xs, rfl, h1, h2, h3⟩ := IsRow.ints (k := .i64) (w := W) (a := some x) (len := l) (cap := c) (zs := zs) (.inr ⟨x, rfl, hl, hm, hz, hcell, hwz⟩)
    refine ⟨xs, some x, c, rfl, h1, (fun e => by cases e), h2, h3, ?_⟩
    have : reachBytes = 140737488351232 := rfl
    omega
theorem cell_bytesW {H : Type} {enc : TypeId × Value → H} {W : World} {base : Nat} {sp : Nat → Bool} {held : Bool} {n : Nat} {v : Value} {y : DataW H × List MemPlace}
    (hsp : ∀ b, sp b = true) (h : DataW.trod enc Try.prog W base sp held n 67 [v] = some y) (hw : Weighs 67 y.1) : ∃ (l : List UInt8) (a : Option Addr) (cap : Nat), v = .slice a l.length cap ∧ l.length ≤ cap ∧ (a = none → cap = 0) ∧ BytesIn (fun _ => True) W a l ∧ l.length ≤ 140737488351232 := by
  rcases open_ints Try.underlying67 Try.underlying5 (by kernel_rfl) h with ⟨hcs, _⟩ | ⟨x, l, c, zs, hcs, _, hl, hm, hz, hx, hcell, hwz⟩
  · have : v = .slice none 0 0 := by simpa using hcs
    subst this
    exact ⟨[], none, 0, rfl, Nat.le_refl _, fun _ => rfl, BytesIn.nil _ _, by simp⟩
  · have : v = .slice (some x) l c := by simpa using hcs
    subst this
    rw [hsp, if_pos rfl] at hz
    rw [hx] at hw
    have hwt := weighs_slice Try.underlying67 hw
    rw [show Try.prog.bytesOf 5 = 1 by kernel_rfl] at hwt
    simp only [lits, List.length_map, List.length_take, List.length_drop] at hwt
    obtain ⟨xs, rfl, h1, h2, h3⟩ := IsRow.ints (k := .u8) (w := W) (a := some x) (len := l) (cap := c) (zs := zs) (.inr ⟨x, rfl, hl, hm, hz, hcell, hwz⟩)
    obtain ⟨b, hb, hbi⟩ := BytesIn.ofInts h2 h3
    refine ⟨b, some x, c, by rw [hb], by omega, (fun e => by cases e), hbi, ?_⟩
    have : reachBytes = 140737488351232 := rfl
    omega
/-- An equation's two cells, as they are told. -/
def EqCells (W : World) (v1 v2 : Value) (e : EqV) : Prop :=
  (∃ a cap, v1 = .slice a e.of.length cap ∧ e.of.length ≤ cap ∧ (a = none → cap = 0) ∧ IntsAt W .i64 a e.of) ∧ (∀ n ∈ e.of, (Lit.int .i64 n).wf = true) ∧ e.of.length ≤ 17592186044416 ∧
  (∃ a cap, v2 = .slice a e.val.length cap ∧ e.val.length ≤ cap ∧ (a = none → cap = 0) ∧ BytesIn (fun _ => True) W a e.val) ∧ e.val.length ≤ 140737488351232
set_option maxRecDepth 100000 in
theorem cells_eq {H : Type} {enc : TypeId × Value → H} {W : World} {base : Nat} {sp : Nat → Bool} {held : Bool} {fuel : Nat} {l : List Value} {y : DataW H × List MemPlace}
    (hsp : ∀ b, sp b = true) (h : DataW.trod enc Try.prog W base sp held fuel 69 l = some y) (hw : Weighs 69 y.1) : ∃ v1 v2 e, l = [v1, v2] ∧ EqCells W v1 v2 e := by
  have hC : Try.prog.cellsOf 69 = 2 := by kernel_rfl
  have hI : Try.prog.cellsOf 27 = 1 := by kernel_rfl
  have hS : Try.prog.cellsOf 67 = 1 := by kernel_rfl
  obtain ⟨ys, n, _, hy, hcl, hyl, hi⟩ := DataW.trod_struct Try.underlying69 h
  rw [hC] at hcl
  have hyl2 : ys.length = 2 := hyl
  match l, hcl with
  | [v1, v2], _ =>
    have g := fun (i : Nat) (h : i < 2) => List.getElem?_eq_getElem (l := ys) (show i < ys.length by omega)
    have f0 := (hi 0 _ rfl).trans (g 0 (by omega))
    have f1 := (hi 1 _ rfl).trans (g 1 (by omega))
    have f0' : DataW.trod enc Try.prog W base sp held n 27 [v1] = some ys[0] := f0
    have f1' : DataW.trod enc Try.prog W base sp held n 67 [v2] = some ys[1] := f1
    rw [hy] at hw
    obtain ⟨of, a1, c1, e1, p1, q1, r1, s1, t1⟩ := cell_nums hsp f0' (weighs_part (i := 0) Try.underlying69 hw rfl (by rw [List.getElem?_map, g 0 (by omega)]; rfl))
    obtain ⟨vl, a2, c2, e2, p2, q2, r2, t2⟩ := cell_bytesW hsp f1' (weighs_part (i := 1) Try.underlying69 hw rfl (by rw [List.getElem?_map, g 1 (by omega)]; rfl))
    exact ⟨v1, v2, ⟨of, vl⟩, rfl, ⟨a1, c1, e1, p1, q1, r1⟩, s1, t1, ⟨a2, c2, e2, p2, q2, r2⟩, t2⟩
set_option maxRecDepth 100000 in
theorem open_eq {H : Type} {enc : TypeId × Value → H} {W : World} {r : Reach} {b0 base : Nat} {sp : Nat → Bool} {held : Bool} {v : Value} {d : DataW H} {p : List MemPlace}
    (hv : Value.okWide Try.prog W r b0 69 v) (hsp : ∀ b, sp b = true) (h : DataW.Trod enc Try.prog W base sp held 69 v d p) (hw : Weighs 69 d) :
    ∃ (of : List Int) (A1 : Option Addr) (c1 : Nat) (vl : List UInt8) (A2 : Option Addr) (c2 : Nat), v = .agg #[.slice A1 (List.length of) c1, .slice A2 (List.length vl) c2] ∧ (of.length ≤ c1 ∧ (A1 = none → c1 = 0) ∧ IntsAt W .i64 A1 of) ∧ (∀ n ∈ of, (Lit.int .i64 n).wf = true) ∧ of.length ≤ 17592186044416 ∧
      (vl.length ≤ c2 ∧ (A2 = none → c2 = 0) ∧ BytesIn (fun _ => True) W A2 vl) ∧ vl.length ≤ 140737488351232 := by
  obtain ⟨cs, rfl, hsz⟩ := okWide_struct Try.underlying69 hv
  obtain ⟨fuel, hf⟩ := h
  simp only [Value.cells] at hf
  obtain ⟨v1, v2, e, hl, ⟨a1, c1, e1, p1⟩, w1, t1, ⟨a2, c2, e2, p2⟩, t2⟩ := cells_eq hsp hf hw
  obtain ⟨l⟩ := cs
  simp only [] at hl
  subst hl e1 e2
  exact ⟨e.of, a1, c1, e.val, a2, c2, rfl, p1, w1, t1, p2, t2⟩
set_option maxRecDepth 100000 in
theorem open_eqs {H : Type} {enc : TypeId × Value → H} {W : World} {r : Reach} {b0 base : Nat} {held : Bool} {v : Value} {d : DataW H} {p : List MemPlace}
    (hv : Value.okWide Try.prog W r b0 60 v) (h : DataW.Trod enc Try.prog W base (fun _ => true) held 60 v d p) (hw : Weighs 60 d) :
    ∃ es A c, v = .slice A (List.length es) c ∧ es.length ≤ c ∧ (A = none → c = 0) ∧ EqsIn (fun _ => True) W A es ∧ (∀ e ∈ es, e.of.length ≤ 17592186044416 ∧ e.val.length ≤ 140737488351232) ∧ (∀ e ∈ es, ∀ n ∈ e.of, (Lit.int .i64 n).wf = true) := by
  obtain ⟨a, len, cap, rfl⟩ := okWide_slice Try.underlying60 hv
  have hC : Try.prog.cellsOf 69 = 2 := by kernel_rfl
  obtain ⟨fuel, hf⟩ := h
  rcases DataW.trod_slice Try.underlying60 hf with ⟨hcs, _⟩ | ⟨x, l, c, elems, rest, n, _, hcs, hx, hb, hl, hm, hlen, hel, hsp, _⟩
  · simp [Value.cells] at hcs
    obtain ⟨rfl, rfl, rfl⟩ := hcs
    exact ⟨[], none, 0, rfl, Nat.le_refl _, fun _ => rfl, ⟨by simp, fun h => by simp at h⟩, fun e he => by simp at he, fun e he => by simp at he⟩
  · simp [Value.cells] at hcs
    obtain ⟨rfl, rfl, rfl⟩ := hcs
    have hd : d = .slice (elems.map (·.1)) (rest.map (·.1)) := by injection hx
    rw [hd] at hw
    have hwt := weighs_slice Try.underlying60 hw
    rw [show Try.prog.bytesOf 69 = 48 by kernel_rfl] at hwt
    simp only [List.length_map, hlen] at hwt
    rw [hC] at hel
    have each : ∀ j, ∃ e : EqV, j < len → ∃ v1 v2, W.cell? (x.add (j * 2)) = some v1 ∧ W.cell? ((x.add (j * 2)).add 1) = some v2 ∧ EqCells W v1 v2 e := by
      intro j
      by_cases hj : j < len
      · have h1 := hel j hj
        rw [List.getElem?_eq_getElem (by omega), Option.bind_eq_some_iff] at h1
        obtain ⟨cs, hc1, hc2⟩ := h1
        obtain ⟨v1, v2, e, rfl, he⟩ := cells_eq (fun _ => rfl) hc2 (weighs_elem Try.underlying60 hw (List.mem_map.2 ⟨_, List.getElem_mem (by omega), rfl⟩))
        obtain ⟨_, _, hc3⟩ := World.cells?_some hc1
        have h0 := hc3 0 (by omega)
        have h1 := hc3 1 (by omega)
        refine ⟨e, fun _ => ⟨v1, v2, ?_, h1, he⟩⟩
        have : (x.add (j * 2)).add 0 = x.add (j * 2) := rfl
        rw [← this]; exact h0
      · exact ⟨⟨[], []⟩, fun h => absurd h hj⟩
    have f := fun j => Classical.choose_spec (each j)
    generalize hF : (fun j => Classical.choose (each j)) = F at f
    have hF' : ∀ j, Classical.choose (each j) = F j := fun j => by rw [← hF]
    have hge : ∀ j, j < len → ge ((List.range len).map F) j = F j := fun j hj => by simp [ge, hj]
    have hreach : reachBytes = 140737488351232 := rfl
    refine ⟨(List.range len).map F, some x, cap, by simp, by simpa using hl, (fun e => by cases e), ⟨by simp; omega, fun h0 => ?_⟩, fun e he => ?_, fun e he => ?_⟩
    · simp only [List.length_map, List.length_range] at h0
      obtain ⟨xb, xo, xs⟩ := x
      have hs : xs = none := by
        obtain ⟨v1, v2, h1, _⟩ := f 0 h0
        simpa [Addr.add] using World.cell?_spot h1
      subst hs
      refine ⟨xb, xo, rfl, trivial, fun j hj => ?_⟩
      simp only [List.length_map, List.length_range] at hj
      obtain ⟨v1, v2, h1, h2, ⟨a1, c1, e1, p1, q1, r1⟩, _, _, ⟨a2, c2, e2, p2, q2, r2⟩, _⟩ := f j hj
      rw [hF'] at e1 e2 p1 p2 r1 r2
      refine ⟨v1, v2, ?_, ?_, ⟨a1, c1, ?_, ?_, q1, ?_⟩, ⟨a2, c2, ?_, ?_, q2, ?_⟩⟩
      · rw [← h1, add_none rfl]
      · rw [← h2, add_none (by rw [add_none rfl]), add_none rfl]
      · rw [hge j hj]; exact e1
      · rw [hge j hj]; exact p1
      · rw [hge j hj]; exact ⟨r1, fun _ _ _ _ => trivial⟩
      · rw [hge j hj]; exact e2
      · rw [hge j hj]; exact p2
      · rw [hge j hj]; exact r2
    · obtain ⟨j, hj, rfl⟩ := List.mem_map.1 he
      obtain ⟨v1, v2, _, _, _, _, h1, _, h2⟩ := f j (List.mem_range.1 hj)
      rw [hF'] at h1 h2
      exact ⟨h1, h2⟩
    · obtain ⟨j, hj, rfl⟩ := List.mem_map.1 he
      obtain ⟨v1, v2, _, _, _, h1, _⟩ := f j (List.mem_range.1 hj)
      rw [hF'] at h1
      exact h1
end Go.Proofs.Ytkjaacpcnjakcaa
/- An argument that is lists of numbers, with what memory bears of it. Conditions: the row's. -/
set_option linter.unusedVariables false
namespace Go.Proofs.Ytkjaacpcnjakcaa
open Go.ChangeShapes Go.WideShapes Go.ChangeAt Go.RowKit

def NumCell (W : World) (v : Value) (l : List Int) : Prop := (∃ a cap, v = .slice a l.length cap ∧ l.length ≤ cap ∧ (a = none → cap = 0) ∧ IntsAt W .i64 a l) ∧ (∀ n ∈ l, (Lit.int .i64 n).wf = true) ∧ l.length ≤ 17592186044416
set_option maxRecDepth 100000 in
theorem open_nrows {H : Type} {enc : TypeId × Value → H} {W : World} {base : Nat} {sp : Nat → Bool} {held : Bool} {v : Value} {d : DataW H} {p : List MemPlace} (hsp0 : ∀ b, sp b = true)
    (hv : ∃ a n c, v = .slice a n c) (h : DataW.Trod enc Try.prog W base sp held 22 v d p) (hw : Weighs 22 d) :
    ∃ ls A c, v = .slice A (List.length ls) c ∧ ls.length ≤ c ∧ (A = none → c = 0) ∧ RowsAt W A ls ∧ ls.length ≤ 5864062014805 ∧ (∀ l ∈ ls, l.length ≤ 17592186044416) ∧ (∀ l ∈ ls, ∀ n ∈ l, (Lit.int .i64 n).wf = true) := by
  obtain ⟨a, len, cap, rfl⟩ := hv
  have hC : Try.prog.cellsOf 27 = 1 := by kernel_rfl
  obtain ⟨fuel, hf⟩ := h
  rcases DataW.trod_slice Try.underlying22 hf with ⟨hcs, _⟩ | ⟨x, l, c, elems, rest, n, _, hcs, hx, hb, hl, hm, hlen, hel, hsp, _⟩
  · simp [Value.cells] at hcs
    obtain ⟨rfl, rfl, rfl⟩ := hcs
    exact ⟨[], none, 0, rfl, Nat.le_refl _, fun _ => rfl, ⟨by simp, fun h => by simp at h⟩, by simp, fun e he => by simp at he, fun e he => by simp at he⟩
  · simp [Value.cells] at hcs
    obtain ⟨rfl, rfl, rfl⟩ := hcs
    have hd : d = .slice (elems.map (·.1)) (rest.map (·.1)) := by injection hx
    rw [hd] at hw
    have hwt := weighs_slice Try.underlying22 hw
    rw [show Try.prog.bytesOf 27 = 24 by kernel_rfl] at hwt
    simp only [List.length_map, hlen] at hwt
    rw [hC] at hel
    have each : ∀ j, ∃ e : List Int, j < len → ∃ v1, W.cell? (x.add j) = some v1 ∧ NumCell W v1 e := by
      intro j
      by_cases hj : j < len
      · have h1 := hel j hj
        rw [List.getElem?_eq_getElem (by omega), Option.bind_eq_some_iff] at h1
        obtain ⟨cs, hc1, hc2⟩ := h1
        obtain ⟨_, hs1, hc3⟩ := World.cells?_some hc1
        obtain ⟨v1, rfl⟩ : ∃ v1, cs = [v1] := List.length_eq_one_iff.1 hs1
        have h0 : W.cell? ((x.add (j * 1)).add 0) = some v1 := hc3 0 (by simp)
        obtain ⟨e, a1, c1, he, g1, g2, g3, g4, g5⟩ := cell_nums hsp0 hc2 (weighs_elem Try.underlying22 hw (List.mem_map.2 ⟨_, List.getElem_mem (by omega), rfl⟩))
        refine ⟨e, fun _ => ⟨v1, ?_, ⟨a1, c1, he, g1, g2, g3⟩, g4, g5⟩⟩
        have : (x.add (j * 1)).add 0 = x.add j := by rw [Nat.mul_one]; rfl
        rw [← this]; exact h0
      · exact ⟨[], fun h => absurd h hj⟩
    have f := fun j => Classical.choose_spec (each j)
    generalize hF : (fun j => Classical.choose (each j)) = F at f
    have hF' : ∀ j, Classical.choose (each j) = F j := fun j => by rw [← hF]
    have hge : ∀ j, j < len → gl ((List.range len).map F) j = F j := fun j hj => by simp [gl, hj]
    have hreach : reachBytes = 140737488351232 := rfl
    refine ⟨(List.range len).map F, some x, cap, by simp, by simpa using hl, (fun e => by cases e), ⟨by simp; omega, fun h0 => ?_⟩, by simp; omega, fun e he => ?_, fun e he => ?_⟩
    · simp only [List.length_map, List.length_range] at h0
      obtain ⟨xb, xo, xs⟩ := x
      have hs : xs = none := by
        obtain ⟨v1, h1, _⟩ := f 0 h0
        simpa [Addr.add] using World.cell?_spot h1
      subst hs
      refine ⟨xb, xo, rfl, fun j hj => ?_⟩
      simp only [List.length_map, List.length_range] at hj
      obtain ⟨v1, h1, ⟨a1, c1, h2, h3, h4, h5⟩, _⟩ := f j hj
      rw [hF'] at h2 h3 h5
      rw [hge j hj]
      refine ⟨v1, ?_, a1, c1, h2, h3, h4, h5⟩
      rw [show (⟨xb, xo + j, none⟩ : Addr) = (⟨xb, xo, none⟩ : Addr).add j from (add_none (a := ⟨xb, xo, none⟩) (i := j) rfl).symm]
      exact h1
    · obtain ⟨j, hj, rfl⟩ := List.mem_map.1 he
      have := f j (List.mem_range.1 hj)
      obtain ⟨v1, h1, _, _, h2⟩ := this
      rw [hF'] at h2
      exact h2
    · obtain ⟨j, hj, rfl⟩ := List.mem_map.1 he
      have := f j (List.mem_range.1 hj)
      obtain ⟨v1, h1, _, h2, _⟩ := this
      rw [hF'] at h2
      exact h2
end Go.Proofs.Ytkjaacpcnjakcaa
/- An argument that is almonrylaw16's Eqs, by value. Conditions: the row's. -/
set_option linter.unusedVariables false
namespace Go.Proofs.Ytkjaacpcnjakcaa
open Go.ChangeShapes Go.WideShapes Go.ChangeAt Go.RowKit Go.Deep

set_option maxRecDepth 100000 in
theorem open_brows {H : Type} {enc : TypeId × Value → H} {W : World} {base : Nat} {held : Bool} {v : Value} {d : DataW H} {p : List MemPlace}
    (hv : ∃ a n c, v = .slice a n c) (h : DataW.Trod enc Try.prog W base (fun _ => true) held 57 v d p) : ∃ ls A c, v = .slice A (List.length ls) c ∧ ls.length ≤ c ∧ (A = none → c = 0) ∧ RowsIn (fun _ => True) W A ls := by
  obtain ⟨a, len, cap, rfl⟩ := hv
  obtain ⟨fuel, hf⟩ := h
  rcases open_int_rows Try.underlying57 Try.underlying67 Try.underlying5 (by kernel_rfl) (by kernel_rfl) hf with ⟨hcs, _⟩ | ⟨x, l, c, AA, L, C, Z, hcs, _, hl, hm, _, hr⟩
  · simp [Value.cells] at hcs
    obtain ⟨rfl, rfl, rfl⟩ := hcs
    exact ⟨[], none, 0, rfl, Nat.le_refl _, fun _ => rfl, RowsIn.nil _ _ _⟩
  · simp [Value.cells] at hcs
    obtain ⟨rfl, rfl, rfl⟩ := hcs
    have each : ∀ j, ∃ b : List UInt8, j < cap → L j = b.length ∧ BytesIn (fun _ => True) W (AA j) b := by
      intro j
      by_cases hj : j < cap
      · obtain ⟨_, h1, h2, h3, h4, h5, h6⟩ := hr j hj
        obtain ⟨b, hb⟩ := row_bytes (w := W) h1 h2 h3 h4 h5 (fun a' e => (h6 a' e).2)
        exact ⟨b, fun _ => hb⟩
      · exact ⟨[], fun h => absurd h hj⟩
    have f := fun j => Classical.choose_spec (each j)
    generalize hF : (fun j => Classical.choose (each j)) = F at f
    have hF' : ∀ j, Classical.choose (each j) = F j := fun j => by rw [← hF]
    refine ⟨(List.range len).map F, some x, cap, by simp, by simpa using hl, (fun e => by cases e), (by simp; unfold maxLen at hm; omega), fun h0 => ?_⟩
    simp only [List.length_map, List.length_range] at h0
    obtain ⟨xb, xo, xs⟩ := x
    have hs : xs = none := by
      have := (hr 0 (by omega)).1
      simpa [Addr.add] using World.cell?_spot this
    subst hs
    refine ⟨xb, xo, rfl, trivial, fun j hj => ?_⟩
    simp only [List.length_map, List.length_range] at hj
    obtain ⟨h0', h1, h2, h3, h4, h5, h6⟩ := hr j (by omega)
    have hfj := f j (by omega)
    rw [hF'] at hfj
    refine ⟨_, by rw [show (⟨xb, xo + j, none⟩ : Addr) = (⟨xb, xo, none⟩ : Addr).add j from (add_none (a := ⟨xb, xo, none⟩) (i := j) rfl).symm]; exact h0', AA j, C j, ?_, ?_, h5, ?_⟩
    · have : gr ((List.range len).map F) j = F j := by simp [gr, hj]
      rw [this, ← hfj.1]
    · have : gr ((List.range len).map F) j = F j := by simp [gr, hj]
      rw [this, ← hfj.1]; exact h1
    · have : gr ((List.range len).map F) j = F j := by simp [gr, hj]
      rw [this]; exact hfj.2
theorem slice_cell {H : Type} {enc : TypeId × Value → H} {W : World} {base : Nat} {sp : Nat → Bool} {held : Bool} {n : Nat} {T e : TypeId} {v : Value} {y : DataW H × List MemPlace} (hu : Try.prog.underlying T = some (.slice e)) (h : DataW.trod enc Try.prog W base sp held n T [v] = some y) :
    (∃ a n c, v = .slice a n c) ∧ DataW.Trod enc Try.prog W base sp held T v y.1 y.2 := by
  have hs : ∃ a n c, v = .slice a n c := by
    rcases DataW.trod_slice hu h with ⟨hcs, _⟩ | ⟨x, l, c, elems, rest, n, _, hcs, _⟩
    · exact ⟨none, 0, 0, by simpa using hcs⟩
    · exact ⟨some x, l, c, by simpa using hcs⟩
  refine ⟨hs, ?_⟩
  obtain ⟨a, m, c, rfl⟩ := hs
  exact ⟨n, h⟩
set_option maxRecDepth 100000 in
theorem open_eqs16 {H : Type} {enc : TypeId × Value → H} {W : World} {r : Reach} {b0 base : Nat} {held : Bool} {v : Value} {d : DataW H} {p : List MemPlace}
    (hv : Value.okWide Try.prog W r b0 59 v) (h : DataW.Trod enc Try.prog W base (fun _ => true) held 59 v d p) (hw : Weighs 59 d) :
    ∃ (al sz : Nat) (ls : List (List Int)) (A : Option Addr) (c : Nat) (bs : List (List UInt8)) (B : Option Addr) (e : Nat), v = .agg #[.int .u8 (al : Int), .int .u8 (sz : Int), .slice A (List.length ls) c, .slice B (List.length bs) e] ∧ al < 256 ∧ sz < 256 ∧
      (ls.length ≤ c ∧ (A = none → c = 0) ∧ RowsAt W A ls ∧ (∀ l ∈ ls, l.length ≤ 17592186044416)) ∧ (bs.length ≤ e ∧ (B = none → e = 0) ∧ RowsIn (fun _ => True) W B bs) := by
  obtain ⟨cs, rfl, hsz⟩ := okWide_struct Try.underlying59 hv
  have hC : Try.prog.cellsOf 59 = 4 := by kernel_rfl
  have hB : Try.prog.cellsOf 5 = 1 := by kernel_rfl
  have hS : Try.prog.cellsOf 22 = 1 := by kernel_rfl
  have hR : Try.prog.cellsOf 57 = 1 := by kernel_rfl
  rw [hC] at hsz
  obtain ⟨fuel, hf⟩ := h
  obtain ⟨ys, n, _, hy, hcl, hyl, hi⟩ := DataW.trod_struct Try.underlying59 hf
  rw [hC] at hcl
  simp only [Value.cells] at hf hcl hi
  obtain ⟨l⟩ := cs
  simp only [] at hsz hcl hi
  have hyl4 : ys.length = 4 := hyl
  match l, hsz with
  | [v0, v1, v2, v3], _ =>
    have g := fun (i : Nat) (h : i < 4) => List.getElem?_eq_getElem (l := ys) (show i < ys.length by omega)
    have f0 := (hi 0 _ rfl).trans (g 0 (by omega))
    have f1 := (hi 1 _ rfl).trans (g 1 (by omega))
    have f2 := (hi 2 _ rfl).trans (g 2 (by omega))
    have f3 := (hi 3 _ rfl).trans (g 3 (by omega))
    have f0' : DataW.trod enc Try.prog W base (fun _ => true) held n 5 [v0] = some ys[0] := f0
    have f1' : DataW.trod enc Try.prog W base (fun _ => true) held n 5 [v1] = some ys[1] := f1
    have f2' : DataW.trod enc Try.prog W base (fun _ => true) held n 22 [v2] = some ys[2] := f2
    have f3' : DataW.trod enc Try.prog W base (fun _ => true) held n 57 [v3] = some ys[3] := f3
    injection hy with hy1 hy2
    rw [hy1] at hw
    obtain ⟨x0, rfl, w0⟩ := cell_int Try.underlying5 f0'
    obtain ⟨x1, rfl, w1⟩ := cell_int Try.underlying5 f1'
    obtain ⟨s2, t2⟩ := slice_cell Try.underlying22 f2'
    obtain ⟨s3, t3⟩ := slice_cell Try.underlying57 f3'
    obtain ⟨ls, A, c, rfl, h1, h2, h3, _, h4, _⟩ := open_nrows (fun _ => rfl) s2 t2 (weighs_part (i := 2) Try.underlying59 hw rfl (by rw [List.getElem?_map, g 2 (by omega)]; rfl))
    obtain ⟨bs, B, e, rfl, h5, h6, h7⟩ := open_brows s3 t3
    have b0 := bounds_u8 w0
    have b1 := bounds_u8 w1
    refine ⟨x0.toNat, x1.toNat, ls, A, c, bs, B, e, ?_, by omega, by omega, ⟨h1, h2, h3, h4⟩, ⟨h5, h6, h7⟩⟩
    rw [show ((x0.toNat : Nat) : Int) = x0 by omega, show ((x1.toNat : Nat) : Int) = x1 by omega]
end Go.Proofs.Ytkjaacpcnjakcaa
