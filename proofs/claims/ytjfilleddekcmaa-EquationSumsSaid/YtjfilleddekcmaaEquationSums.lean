/- Equations that hold of blocks, put upon each other, hold of them, too: the law's walk. Conditions: lengths that memory bears. -/
import Derived.Test.YtjfilleddekcmaaEquationHolds
import Derived.Test.YtjfilleddekcmaaEqsOwn
import Derived.Test.YtjfilleddekcmaaSumsMath
set_option linter.unusedVariables false
namespace Go.Proofs.Ytjfilleddekcmaa
open Go.RowKit
attribute [local go_sem ↓] Go.wp_at_zero Go.wp_at_succ

theorem wpList_copyB {ops : Array Oper} {rest : List Oper} {o : Oper} {a : Act} {w : World} {Q : Exit → Act → World → Prop} (hgd : o.guard = none) (d s : Operand) (dT sT : TypeId)
    (ho : o.op = .call { callee := .builtin .copy, args := #[d, s], argTypes := #[dT, sT] }) (hu : Try.prog.underlying dT = some (.slice 5)) (base : Nat) (v : Value) (to b : List UInt8) (hd : a.eval d = v) (hown : OwnB w base v to) (R : Nat → Prop) (A : Option Addr) (m c : Nat)
    (hs : a.eval s = .slice A m c) (hm : b.length = m) (hb : BytesIn R w A b)
    (h : ∀ (n : Nat) (w' : World), n = min b.length to.length → OwnB w' base v (b.take n ++ to.drop n) → Keeps (fun k => v.ownBlock = some k) w w' → wpList Try.prog ops Q rest (a.put o.dst (goInt n)) w') : wpList Try.prog ops Q (o :: rest) a w := by
  refine wpList_plain hgd fun K hK => ?_
  obtain ⟨n, w', hrun, h1, h2, h3⟩ := run_copy_bytes dT sT o.type hu hown c hb
  rw [hm] at hrun
  unfold Oper.wp
  simp [execOp, ho, resolve, invoke, builtin, hd, hs, hrun, Result.andThen]
  exact hK _ _ (h n w' h1 h2 h3)
theorem cells4 {w : World} {b : Nat} {x0 x1 x2 x3 : Value} {T : TypeId} {fr : Nat × Nat} (h : w.heap[b]? = some (.cells #[x0, x1, x2, x3] T fr)) :
    w.cell? ⟨b, 0, none⟩ = some x0 ∧ w.cell? ⟨b, 1, none⟩ = some x1 ∧ w.cell? ⟨b, 2, none⟩ = some x2 ∧ w.cell? ⟨b, 3, none⟩ = some x3 := by simp [World.cell?, h]
theorem eqs_dup {w : World} {u1 u2 : Value} {x : EqV} {R : Nat → Prop} (h : PairIn R w u1 u2 x) : EqsIn (fun _ => True) (w.alloc (.cells #[u1, u2, u1, u2] 29)) (some ⟨w.heap.size, 0, none⟩) [x, x] := by
  have hk := (Keeps.refl NoB w).alloc (.cells #[u1, u2, u1, u2] 29)
  have hb := heap_alloc_new w (.cells #[u1, u2, u1, u2] 29)
  have h2 := (h.keeps hk (fun _ _ h => h)).mono (R' := fun _ => True) (fun _ _ _ => trivial)
  refine ⟨by simp, fun _ => ⟨w.heap.size, 0, rfl, trivial, fun j hj => ?_⟩⟩
  match j, hj with
  | 0, _ => exact ⟨u1, u2, (cells4 hb).1, (cells4 hb).2.1, h2.1, h2.2⟩
  | 1, _ => exact ⟨u1, u2, (cells4 hb).2.2.1, (cells4 hb).2.2.2, h2.1, h2.2⟩
set_option maxHeartbeats 4000000 in
set_option maxRecDepth 20000 in
theorem equationSums_calls (sz : Nat) (bs : List (List UInt8)) (ofs : List (List Int)) (A3 A4 : Option Addr) (c3 c4 : Nat) (w : World) (hsz : sz < 256) (hb : RowsIn (fun _ => True) w A3 bs) (ho : RowsAt w A4 ofs) :
    Calls Try.prog 4 #[.int .u8 (sz : Int), .slice A3 bs.length c3, .slice A4 ofs.length c4] w fun e w' => e = .returned (.bool true) ∧ Keeps NoB w w' := by
  have hbl := hb.len
  have hol := ho.1
  have HB := hid hb.lt
  have HOF := hid ho
  clear hb ho
  obtain ⟨q, hq⟩ : ∃ q, bs.length = q := ⟨_, rfl⟩
  obtain ⟨m, hm⟩ : ∃ m, ofs.length = m := ⟨_, rfl⟩
  rw [hq] at hbl ⊢
  rw [hm] at hol ⊢
  have hqq := hid hq
  have hmm := hid hm
  clear hq hm
  obtain ⟨N, hN⟩ : ∃ N, sz % 20 = N := ⟨_, rfl⟩
  have hN20 : N < 20 := by omega
  have hmod : (sz : Int) % 20 = (N : Int) := by omega
  have hmodt : (sz : Int).tmod 20 = (N : Int) := by rw [Int.tmod_eq_emod_of_nonneg (by omega)]; exact hmod
  have hui := Try.underlying25
  have hub := Try.underlying27
  have hus := Try.underlying26
  have hue := Try.underlying22
  obtain ⟨i1, hi', hz0', hz1', hz2'⟩ := info_parts info_u8
  go_enter Try.func4, Try.ntmps4
  go_wp2_with fail
  refine (speaks15_calls w).mono ?_
  rintro e w1 ⟨rfl, hk1⟩
  have HK1 := hid hk1
  clear hk1
  by_cases hq30 : 30 < q
  · have d1 : decide ((30 : Int) < (q : Int)) = true := decide_eq_true (by omega)
    go_wp2_with fail
    go_ret
    exact ⟨rfl, HK1.out⟩
  · have d1 : decide ((30 : Int) < (q : Int)) = false := decide_eq_false (by omega)
    by_cases hm20 : 20 < m
    · have d2 : decide ((20 : Int) < (m : Int)) = true := decide_eq_true (by omega)
      go_wp2_with fail
      go_ret
      exact ⟨rfl, HK1.out⟩
    · have d2 : decide ((20 : Int) < (m : Int)) = false := decide_eq_false (by omega)
      go_wp2_with fail
      have htk := hid (show ∀ k, k < q → padsB N (bs.take (k + 1)) = padsB N (bs.take k) ++ [padB N (gr bs k)] from fun k hk => by
        rw [List.take_succ_eq_append_getElem (by rw [hqq.out]; exact hk), padsB_snoc, gr_eq bs k (by rw [hqq.out]; exact hk)])
      go_loopw [8, 40] (fun v8 v40 wr => ∃ k : Nat, k ≤ q ∧ v40 = .int .i64 (k : Int) ∧ Hid (OwnRows (fun _ => True) wr w1.heap.size v8 (padsB N (bs.take k))) ∧ Hid (Keeps NoB w1 wr)) (fun _ v40 _ => q - (intOf v40).toNat)
      case atStart => exact ⟨0, Nat.zero_le _, rfl, OwnRows.nil _ _ _, Keeps.refl _ _⟩
      case round =>
        obtain ⟨k, hk, rfl, HR, HK⟩ := hrel
        by_cases hlt : k < q
        · obtain ⟨bb, ob, rfl, hbR, hc⟩ := HB.out.2 (by rw [hqq.out]; omega)
          obtain ⟨u, cu, A5, c5, rfl, hc5, hA5, hrow⟩ := hc k (by rw [hqq.out]; exact hlt)
          have cu := (HK1.out.fresh HK.out).cell cu (fun h => h)
          have HROW := hid (hrow.kept (HK1.out.fresh HK.out))
          have p0 : (0 : Int) ≤ (k : Int) := by omega
          have p1 : (k : Int) < (q : Int) := by omega
          have ht := hid (htk.out k hlt)
          have hvl := hid (show (padsB N (bs.take k)).length = k by rw [padsB_length, List.length_take, hqq.out]; omega)
          obtain ⟨us0, Av, cv, rfl, _⟩ := HR.out.parts hvl.out
          have HRm := hid (HR.out.mono (R' := fun b => b < wr.heap.size) (fun b h1 _ => h1))
          clear hc hbR hc5 hA5 hrow
          generalize gr bs k = l at *
          obtain ⟨ln, hln⟩ : ∃ n, l.length = n := ⟨_, rfl⟩
          rw [hln] at cu
          have hln2 := hid hln
          clear hln
          have tka : True := trivial
          go_wp2_with (first
            | (at_make; go_must (refine wpList_make_full _ rfl _ _ _ rfl wr.heap.size 5 i1 (.int .u8 0) 1 hub hi' hz0' hz1' .i64 .i64 _ _ N rfl rfl rfl rfl (by rw [hz2']; omega) (by unfold maxLen; omega) (Nat.le_refl _) ?_); intro w4 hown4 hgr4; have HX4 := hid (OwnB.ofMake hown4); have HK4 := hid ((Keeps.refl NoB wr).grown hgr4 (fun i e => by cases e)); clear hown4 hgr4)
            | (at_builtin; go_must (refine wpList_app1V _ rfl _ _ 26 rfl w1.heap.size 27 (.slice none 0 0) 24 hus info_bytes rfl (.slice Av k cv) k us rfl (World.ownsRow.alloc HUS2.out _) _ _ (.slice (some ⟨wr.heap.size, 0, none⟩) N N) rfl rfl (cell_one _ _ _) (by omega) (by omega) (by have h1 := HK5.out.size; have h2 := HK.out.size; simp; omega) ?_); intro g6 cap6 w6 hown6 hgr6 hat6)
            | (have hx4 := HX4.out; clear hx4; clear tka; refine (wpList_copyB rfl _ _ 27 27 rfl hub wr.heap.size _ (List.replicate N 0) l rfl HX4.out _ A5 ln c5 rfl hln2.out (HROW.out.kept HK4.out) ?_); intro n5 w5 hn5 hown5 hk5; have HX5 := hid (show OwnB w5 wr.heap.size _ (padB N l) by (have e5 : n5 = min l.length N := by (rw [hn5, List.length_replicate])); subst e5; exact hown5); have HK5 := hid (HK4.out.then hk5 (fun b hb hlt => by have := (OwnInts.base_le HX4.out b hb).1; omega)); have HR5 := hid ((HRm.out.kept HK4.out).keeps hk5 (fun b hb e => by have := (OwnInts.base_le HX4.out b e).1; omega) (fun b hb e => by have h1 := (OwnInts.base_le HX4.out b e).1; have h2 := (HR.out.base_le b hb).2; omega)); obtain ⟨us, Av', cv', hv', hus1, hus2, hus3⟩ := HR5.out.parts hvl.out; injection hv' with hv1 _ hv2; subst hv1 hv2; have HUS2 := hid hus2; have HUS3 := hid hus3; clear hown5 hk5 hn5 hus2 hus3))
          have HROW6 := hid ((OwnB.row HX5.out).mono (R' := fun b => True ∧ (Value.slice Av k cv).ownBlock ≠ some b) (fun b hlt hb => ⟨trivial, fun e => by have h1 := (OwnInts.base_le HX5.out b hb).1; have h2 := (HR.out.base_le b e).2; omega⟩))
          have HR6 := hid ((HR5.out.mono (R' := fun _ => True) (fun _ _ _ => trivial)))
          go_roundw
          case rel => exact ⟨k + 1, by omega, by go_num, hid (by rw [ht.out]; exact HR6.out.snocN hvl.out HROW6.out hus1 HUS2.out (fun j u hj => (HUS3.out j u hj).mono (fun b _ hb => ⟨trivial, hb.2⟩)) hown6 hgr6 hat6), hid (((HK.out.fresh HK5.out).alloc _).grown hgr6 (fun i e hlt => by have := (HR.out.base_le i e.symm).1; omega))⟩
          case measure => simp [intOf]; omega
        · obtain rfl : q = k := by omega
          have hall : bs.take q = bs := by rw [← hqq.out, List.take_length]
          rw [hall] at HR
          have hvl := hid (show (padsB N bs).length = q by rw [padsB_length, hqq.out])
          obtain ⟨A8, c8, hv8, _, _, hrows⟩ := HR.out.reads
          rw [hvl.out] at hv8
          subst hv8
          have HROWS := hid (hrows.mono (R' := fun _ => True) (fun _ _ _ => trivial))
          have HK2 := hid (HK1.out.fresh HK.out)
          clear hall hrows HK HR htk
          generalize hw2 : wr = w2 at *
          clear hw2
          have hot := hid (show ∀ k, k < m → eqsS N bs (ofs.take (k + 1)) = eqsS N bs (ofs.take k) ++ [eqS N bs (gl ofs k)] from fun k hk => by
            rw [List.take_succ_eq_append_getElem (by rw [hmm.out]; exact hk), eqsS, List.map_append, gl_eq ofs k (by rw [hmm.out]; exact hk)]; rfl)
          go_wp2_with fail
          go_loopw [12, 56] (fun v12 v56 wr => ∃ k : Nat, k ≤ m ∧ v56 = .int .i64 (k : Int) ∧ Hid (OwnEqs (fun _ => True) wr w2.heap.size v12 (eqsS N bs (ofs.take k))) ∧ Hid (∀ l ∈ ofs.take k, l.length ≤ 20) ∧ Hid (Keeps NoB w2 wr)) (fun _ v56 _ => m - (intOf v56).toNat)
          case atStart => exact ⟨0, Nat.zero_le _, rfl, OwnEqs.nil _ _ _, hid (fun l hl => by simp at hl), Keeps.refl _ _⟩
          case round =>
            obtain ⟨k, hk, rfl, HO, H20, HK⟩ := hrel
            generalize hw3 : wr = w3 at *
            clear hw3
            by_cases hlt : k < m
            · have hrk := (HOF.out.kept HK2.out).kept HK.out
              obtain ⟨b6, o6, rfl, hc6⟩ := hrk.2 (by rw [hmm.out]; omega)
              obtain ⟨u, cu, A6, c6, rfl, hc6', hA6, hat6⟩ := hc6 k (by rw [hmm.out]; exact hlt)
              have HI := hid hat6
              have p0 : (0 : Int) ≤ (k : Int) := by omega
              have p1 : (k : Int) < (m : Int) := by omega
              have ht := hid (hot.out k hlt)
              have hmem := hid (show ∀ l, l = gl ofs k → (∀ l' ∈ ofs.take (k + 1), l'.length ≤ 20) ∨ 20 < l.length from fun l e => by
                by_cases h : 20 < l.length
                · exact .inr h
                · refine .inl (fun l' hl' => ?_)
                  rw [List.take_succ_eq_append_getElem (by rw [hmm.out]; exact hlt)] at hl'
                  rcases List.mem_append.1 hl' with h1 | h1
                  · exact H20.out l' h1
                  · rw [List.mem_singleton.1 h1, ← gl_eq ofs k (by rw [hmm.out]; exact hlt), ← e]; omega)
              have hel := hid (show (eqsS N bs (ofs.take k)).length = k by rw [eqsS, List.length_map, List.length_take, hmm.out]; omega)
              clear hrk hc6 hc6' hA6 hat6
              generalize hgl : gl ofs k = l at *
              have hmem := hmem.out l rfl
              obtain ⟨n, hn⟩ : ∃ n, l.length = n := ⟨_, rfl⟩
              rw [hn] at cu hmem
              have hnn := hid hn
              have hnl : n ≤ 9223372036854775807 := by have := HI.out.len; omega
              clear hn
              by_cases h20 : 20 < n
              · have d3 : decide ((20 : Int) < (n : Int)) = true := decide_eq_true (by omega)
                go_wp2_with fail
                go_ret
                exact ⟨rfl, HK2.out.fresh HK.out⟩
              · have d3 : decide ((20 : Int) < (n : Int)) = false := decide_eq_false (by omega)
                have hm20' := hid (hmem.resolve_right h20)
                clear hmem
                have hst3 := hid (show ∀ j, j < n → ownF q (l.take (j + 1)) = ownF q (l.take j) ++ (if 0 ≤ gi l j ∧ gi l j < (q : Int) then [gi l j] else []) from fun j hj => ownF_take q l j (by rw [hnn.out]; exact hj))
                have hle3 := hid (show ∀ j, (ownF q (l.take j)).length ≤ n from fun j => Nat.le_trans (ownF_le q _) (by rw [List.length_take, hnn.out]; omega))
                go_wp2_with fail
                go_loopw [15, 65] (fun v15 v65 wr => ∃ j : Nat, j ≤ n ∧ v65 = .int .i64 (j : Int) ∧ Hid (OwnInts wr w3.heap.size .i64 3 v15 (ownF q (l.take j))) ∧ Hid (Keeps NoB w3 wr)) (fun _ v65 _ => n - (intOf v65).toNat)
                case atStart => exact ⟨0, Nat.zero_le _, rfl, OwnInts.nil _ _ _ _, Keeps.refl _ _⟩
                case round =>
                  obtain ⟨j, hj, rfl, HOI, HKI⟩ := hrel
                  by_cases hltj : j < n
                  · obtain ⟨b1, o1, rfl, hc1⟩ := HI.out.get (by rw [hnn.out]; omega)
                    have c1 := HKI.out.cell (hc1 j (by rw [hnn.out]; exact hltj)) (fun h => h)
                    have p2 : (0 : Int) ≤ (j : Int) := by omega
                    have p3 : (j : Int) < (n : Int) := by omega
                    have hs := hst3.out j hltj
                    have hle := hle3.out j
                    clear hc1
                    generalize gi l j = i at *
                    by_cases h0 : 0 ≤ i
                    · have d4 : decide ((0 : Int) ≤ i) = true := decide_eq_true h0
                      by_cases h1 : i < (q : Int)
                      · have d5 : decide (i < (q : Int)) = true := decide_eq_true h1
                        rw [if_pos ⟨h0, h1⟩] at hs
                        have HS := hid hs
                        clear hs
                        go_wp2_with (at_builtin; go_must (refine wpList_app1 _ rfl _ _ 25 rfl w3.heap.size 3 .i64 8 hui info_int _ _ rfl (OwnInts.alloc HOI.out _) _ _ _ rfl (cell_one _ _ _) (by omega) (by omega) (by have := HKI.out.size; simp at this ⊢; omega) ?_); intro v4 w4 hown4 hgr4 _)
                        go_roundw
                        case rel => exact ⟨j + 1, by omega, by go_num, by rw [HS.out]; exact hid hown4, hid ((HKI.out.alloc _).own (OwnInts.alloc HOI.out _) hgr4 (Nat.le_refl _))⟩
                        case measure => simp [intOf]; omega
                      · have d5 : decide (i < (q : Int)) = false := decide_eq_false h1
                        rw [if_neg (fun h => h1 h.2), List.append_nil] at hs
                        have HS := hid hs
                        clear hs
                        go_wp2_with fail
                        go_roundw
                        case rel => exact ⟨j + 1, by omega, by go_num, by rw [HS.out]; exact HOI, HKI⟩
                        case measure => simp [intOf]; omega
                    · have d4 : decide ((0 : Int) ≤ i) = false := decide_eq_false h0
                      rw [if_neg (fun h => h0 h.1), List.append_nil] at hs
                      have HS := hid hs
                      clear hs
                      go_wp2_with fail
                      go_roundw
                      case rel => exact ⟨j + 1, by omega, by go_num, by rw [HS.out]; exact HOI, HKI⟩
                      case measure => simp [intOf]; omega
                  · obtain rfl : n = j := by omega
                    have hall3 : l.take n = l := by rw [← hnn.out, List.take_length]
                    rw [hall3] at HOI
                    have hin := hid (ownF_in q l)
                    have hEQ := hid (show eqS N bs l = ⟨ownF q l, sumB N (selB (padsB N bs) (ownF q l))⟩ by unfold eqS; rw [hqq.out])
                    have hfitS := hid (show fitB N (selB (padsB N bs) (ownF q l)) = true by have := eqS_fit N bs l; rw [hqq.out] at this; exact this)
                    have hle := hle3.out n
                    rw [hall3] at hle
                    clear hall3
                    generalize ownF q l = ow at *
                    generalize hw4 : wr = w4 at *
                    clear hw4
                    obtain ⟨Ai, ci, rfl, hci, hati⟩ := HOI.out.reads
                    have HATI := hid hati
                    obtain ⟨p, hp⟩ : ∃ p, ow.length = p := ⟨_, rfl⟩
                    rw [hp] at HOI hle hci ⊢
                    have hpp := hid hp
                    clear hati hp
                    have hsl := hid (show ∀ j, j < p → selB (padsB N bs) (ow.take (j + 1)) = selB (padsB N bs) (ow.take j) ++ [gr (padsB N bs) (gi ow j).toNat] from fun j hj => by rw [take_gi2 ow j (by rw [hpp.out]; exact hj), selB_snoc])
                    go_wp2_with fail
                    go_loopw [18, 84] (fun v18 v84 wr => ∃ j : Nat, j ≤ p ∧ v84 = .int .i64 (j : Int) ∧ Hid (OwnRows (fun b => b < w4.heap.size) wr w4.heap.size v18 (selB (padsB N bs) (ow.take j))) ∧ Hid (Keeps NoB w4 wr)) (fun _ v84 _ => p - (intOf v84).toNat)
                    case atStart => exact ⟨0, Nat.zero_le _, rfl, OwnRows.nil _ _ _, Keeps.refl _ _⟩
                    case round =>
                      obtain ⟨j, hj, rfl, HRS, HKS⟩ := hrel
                      have HALLR := hid ((HROWS.out.kept HK.out).kept HKI.out).lt
                      by_cases hltj : j < p
                      · obtain ⟨b1, o1, rfl, hc1⟩ := HATI.out.get (by rw [hpp.out]; omega)
                        have c1 := HKS.out.cell (hc1 j (by rw [hpp.out]; exact hltj)) (fun h => h)
                        obtain ⟨g0, g1⟩ := hin.out (gi ow j) (gi_mem ow j (by rw [hpp.out]; exact hltj))
                        obtain ⟨b2, o2, rfl, _, hc2⟩ := HALLR.out.2 (by rw [hvl.out]; omega)
                        obtain ⟨u, cu2, A5, c5, rfl, hc5, hA5, hrow⟩ := hc2 (gi ow j).toNat (by rw [hvl.out]; omega)
                        have cu2 := HKS.out.cell cu2 (fun h => h)
                        have hs := hid (hsl.out j hltj)
                        have hlen := hid (show (selB (padsB N bs) (ow.take j)).length = j by rw [selB, List.length_map, List.length_take, hpp.out]; omega)
                        obtain ⟨us, Av, cv, rfl, hus1, hus2, hus3⟩ := HRS.out.parts hlen.out
                        have HUS2 := hid hus2
                        have HUS3 := hid hus3
                        have p2 : (0 : Int) ≤ (j : Int) := by omega
                        have p3 : (j : Int) < (p : Int) := by omega
                        have HROW := hid (show RowIn _ wr _ _ from RowIn.keeps ⟨A5, c5, rfl, hc5, hA5, hrow⟩ HKS.out (fun _ _ h => h))
                        have HROW2 := hid (HROW.out.mono (R' := fun b => b < w4.heap.size ∧ (Value.slice Av j cv).ownBlock ≠ some b) (fun b hlt hb => ⟨hb.2, fun e => by have h1 := (HRS.out.base_le b e).1; have h2 := hb.2; omega⟩))
                        clear hc1 hc2 hc5 hA5 hrow hus2 hus3
                        generalize gr (padsB N bs) (gi ow j).toNat = rl at *
                        generalize gi ow j = i at *
                        go_wp2_with (at_builtin; go_must (refine wpList_app1V _ rfl _ _ 26 rfl w4.heap.size 27 (.slice none 0 0) 24 hus info_bytes rfl (.slice Av j cv) j us rfl (World.ownsRow.alloc HUS2.out _) _ _ (.slice A5 rl.length c5) rfl rfl (cell_one _ _ _) (by omega) (by omega) (by have := HKS.out.size; simp; omega) ?_); intro g6 cap6 w6 hown6 hgr6 hat6)
                        go_roundw
                        case rel => exact ⟨j + 1, by omega, by go_num, hid (by rw [hs.out]; exact HRS.out.snocN hlen.out HROW2.out hus1 HUS2.out HUS3.out hown6 hgr6 hat6), hid ((HKS.out.alloc _).grown hgr6 (fun i e hlt => by have := (HRS.out.base_le i e.symm).1; omega))⟩
                        case measure => simp [intOf]; omega
                      · obtain rfl : p = j := by omega
                        have hall4 : ow.take p = ow := by rw [← hpp.out, List.take_length]
                        rw [hall4] at HRS
                        have hlen := hid (show (selB (padsB N bs) ow).length = p by rw [selB, List.length_map, hpp.out])
                        obtain ⟨A18, c18, hv18, _, _, hrs⟩ := HRS.out.reads
                        rw [hlen.out] at hv18
                        subst hv18
                        have HSUM := hid (rsum_calls N (selB (padsB N bs) ow) A18 c18 _ wr (by omega) hrs hfitS.out)
                        rw [hlen.out] at HSUM
                        clear hall4 hrs
                        go_wp2_with fail
                        refine HSUM.out.mono ?_
                        rintro e w5 ⟨v5, rfl, hO5, hk5⟩
                        have HK5 := hid ((HKI.out.fresh HKS.out).fresh hk5)
                        have HO5 := hid hO5
                        obtain ⟨A9, c9, hv9, _⟩ := OwnB.reads hO5
                        rw [sumB_length hfitS.out] at hv9
                        subst hv9
                        have HNUM := hid (NumsIn.keeps (OwnInts.nums HOI.out) (HKS.out.fresh hk5) (fun _ _ h => h))
                        have HROW := hid (OwnB.row hO5)
                        have HOE := hid (HO.out.kept HK5.out)
                        have HPAIR := hid (show PairIn (fun b => u12.ownBlock ≠ some b) w5 (.slice Ai p ci) (.slice A9 N c9) (eqS N bs l) from by
                          rw [hEQ.out]
                          refine ⟨HNUM.out.mono (fun b _ hb e => ?_), HROW.out.mono (fun b _ hb e => ?_)⟩
                          · have h1 := (HOI.out.base_le b hb).1
                            have h2 := (HO.out.base_le b e).2
                            omega
                          · have h1 := (OwnInts.base_le HO5.out b hb).1
                            have h2 := (HO.out.base_le b e).2
                            have h3 := (HKI.out.fresh HKS.out).size
                            omega)
                        clear hO5 hk5
                        have hbx := box_two w5 (.slice Ai p ci) (.slice A9 N c9) 29
                        go_wp2_with (at_builtin; go_must (refine wpList_app1Eq rfl _ _ 22 rfl w2.heap.size hue u12 (eqsS N bs (ofs.take k)) rfl (HOE.out.kept ((Keeps.refl NoB w5).alloc _)) w5.heap.size 1 (.slice Ai p ci) (.slice A9 N c9) (eqS N bs l) rfl hbx.1 hbx.2 (HPAIR.out.keeps ((Keeps.refl NoB w5).alloc _) (fun _ _ h => h)) k hel.out (by omega) (by have h1 := HK5.out.size; have h2 := HK.out.size; simp; omega) ?_); intro A6' c6' w6 hown6 hgr6 hlo6; have HO6 := hid hown6; have HK6 := hid (((HK.out.fresh HK5.out).alloc (.cells #[.slice Ai p ci, .slice A9 N c9] 29)).grown hgr6 (fun i e hlt => by have := hlo6 i e; omega)); clear hgr6 hlo6; have hl6 := hid (show (eqsS N bs (ofs.take k) ++ [eqS N bs l]).length = k + 1 by rw [List.length_append, hel.out]; rfl); obtain ⟨A7', c7', e7, _, _, hq6⟩ := hown6.reads (by rw [hl6.out]; omega); rw [hl6.out] at e7; injection e7 with e8 _ e9; subst e8 e9; obtain ⟨b7, o7, e10, _, hc7⟩ := hq6.2 (by rw [hl6.out]; omega); subst e10; obtain ⟨x1, x2, h1, h2, h3, h4⟩ := hc7 k (by rw [hl6.out]; omega); rw [ge_last _ _ k hel.out, hEQ.out] at h3 h4; obtain ⟨Aj, cj, e11, _, _, hi7⟩ := h3; obtain ⟨Al, cl, e12, _, hAl, hb7⟩ := h4; rw [show (⟨ow, sumB N (selB (padsB N bs) ow)⟩ : EqV).of.length = p from hpp.out] at e11; rw [show (⟨ow, sumB N (selB (padsB N bs) ow)⟩ : EqV).val.length = N from sumB_length hfitS.out] at e12; subst e11 e12; have HI7 := hid hi7.1; have HB7 := hid hb7; have hAl := hid hAl; have q0 : (0 : Int) ≤ (k : Int) := (by omega); have q1 : (k : Int) < (k : Int) + 1 := (by omega); clear hown6 hq6 hc7 hi7 hb7)
                        have hk0 := hid (show Keeps NoB w w6 from HK2.out.fresh HK6.out)
                        have HH := hid (eholds_calls ow (sumB N (selB (padsB N bs) ow)) (padsB N bs) Aj Al A8 cj cl c8 (fun _ => True) w6 HI7.out hAl.out (HB7.out.mono (fun _ _ _ => trivial)) (HROWS.out.kept HK6.out) (by rw [hpp.out]; omega) (by rw [sumB_length hfitS.out]; omega))
                        have hho := eqS_holds N bs l
                        rw [hEQ.out] at hho
                        rw [hpp.out, sumB_length hfitS.out, hvl.out, show holdsE ow (sumB N (selB (padsB N bs) ow)) (padsB N bs) = true from hho] at HH
                        refine HH.out.mono ?_
                        rintro e w7 ⟨rfl, hk7⟩
                        have HK7 := hid (HK6.out.fresh hk7)
                        have HO7 := hid (HO6.out.kept hk7)
                        clear hk7 hho HH
                        go_wp2_with fail
                        go_roundw
                        case rel => exact ⟨k + 1, by omega, by go_num, hid (by rw [ht.out]; exact HO7.out), hm20', HK7⟩
                        case measure => simp [intOf]; omega
            · obtain rfl : m = k := by omega
              have hall : ofs.take m = ofs := by rw [← hmm.out, List.take_length]
              rw [hall] at HO H20
              have hel := hid (show (eqsS N bs ofs).length = m by rw [eqsS, List.length_map, hmm.out])
              have hfl := hid (show (ofsE (eqsS N bs ofs)).length ≤ 400 by have := eqsS_len N bs ofs H20.out; rw [hmm.out] at this; omega)
              have hfit := hid (eqsS_fit N bs ofs)
              have hhold := hid (sums_hold N bs ofs)
              obtain ⟨A12, c12, hv12, _, _, hq12⟩ := HO.out.reads (by rw [hel.out]; omega)
              rw [hel.out] at hv12
              subst hv12
              have HA := hid (eadd_yes N (eqsS N bs ofs) A12 c12 _ w3 (by omega) hq12 (by rw [hel.out]; omega) (by have := hfl.out; omega) hfit.out)
              rw [hel.out] at HA
              clear hall hq12
              have hvl9 := hid (sumB_length hfit.out)
              have hod := hid (oddN_length (ofsE (eqsS N bs ofs)))
              generalize valsE (eqsS N bs ofs) = vs at *
              generalize ofsE (eqsS N bs ofs) = os at *
              go_wp2_with fail
              refine HA.out.mono ?_
              rintro e w5 ⟨v1, v2, rfl, ho1, ho2, hk5⟩
              have HN := hid (OwnInts.nums ho1)
              have HV := hid (OwnB.row ho2)
              obtain ⟨B1, d1, rfl, _, hi1⟩ := ho1.reads
              obtain ⟨B2, d2, rfl, _, hA2, hb2⟩ := OwnB.reads ho2
              rw [hvl9.out] at HV hb2 ⊢
              have HI1 := hid hi1
              have HB2 := hid (hb2.mono (R' := fun _ => True) (fun _ _ _ => trivial))
              have hA2 := hid hA2
              have HK5 := hid hk5
              clear ho1 ho2 hi1 hb2 hk5 HA
              go_wp2_with fail
              have HB21 := hid (heap_alloc_new w5 (.cells #[.slice B1 (oddN os).length d1, .slice B2 N d2] 29))
              have hk56 := (Keeps.refl NoB w5).alloc (.cells #[.slice B1 (oddN os).length d1, .slice B2 N d2] 29)
              have HPA := hid (show PairIn (fun _ => True) (w5.alloc (.cells #[.slice B1 (oddN os).length d1, .slice B2 N d2] 29)) (.slice B1 (oddN os).length d1) (.slice B2 N d2) ⟨oddN os, sumB N vs⟩ from
                ⟨(HN.out.keeps hk56 (fun _ _ h => h)).mono (fun _ _ _ => trivial), (HV.out.keeps hk56 (fun _ _ h => h)).mono (fun _ _ _ => trivial)⟩)
              have HI1 := hid (HI1.out.kept hk56)
              have HB2 := hid (HB2.out.kept hk56)
              have HK6 := hid (HK5.out.fresh hk56)
              have hs6 := World.size_alloc w5 (.cells #[.slice B1 (oddN os).length d1, .slice B2 N d2] 29)
              clear hk56 HN HV HK5
              generalize w5.alloc (.cells #[.slice B1 (oddN os).length d1, .slice B2 N d2] 29) = w6 at *
              have HD := hid (eqs_dup HPA.out)
              rw [hs6] at HD
              have hofd := hid (show oddN (ofsE [⟨oddN os, sumB N vs⟩, ⟨oddN os, sumB N vs⟩]) = [] from by
                show oddN (oddN os ++ (oddN os ++ [])) = []
                rw [List.append_nil]; exact twice_of _)
              have hvd := hid (twice_val hvl9.out)
              have HA2 := hid (eadd_yes N [⟨oddN os, sumB N vs⟩, ⟨oddN os, sumB N vs⟩] _ 2 _ _ (by omega) HD.out (by simp) (by
                show (oddN os ++ (oddN os ++ [])).length ≤ _
                rw [List.append_nil, List.length_append]
                have h1 := hod.out; have h2 := hfl.out; omega) (by unfold fitB valsE; simp [hvl9.out]))
              clear hs6
              refine HA2.out.mono ?_
              rintro e w7 ⟨v3, v4, rfl, ho3, ho4, hk7⟩
              rw [hofd.out] at ho3
              obtain ⟨B3, d3, rfl, _, _⟩ := ho3.reads
              obtain ⟨B4, d4, hv4, _, _, hb4⟩ := OwnB.reads ho4
              have hl4 : (sumB N (valsE [⟨oddN os, sumB N vs⟩, ⟨oddN os, sumB N vs⟩])).length = N := sumB_length (by unfold fitB valsE; simp [hvl9.out])
              rw [hl4] at hv4
              subst hv4
              have HZ := hid (fun (w' : World) (h : Keeps NoB w7 w') => rzero_calls _ B4 d4 _ w' (hb4.kept h))
              rw [hl4, show zeroB (sumB N (valsE [⟨oddN os, sumB N vs⟩, ⟨oddN os, sumB N vs⟩])) = true from hvd.out] at HZ
              have HK67 := hid (((Keeps.refl NoB w6).alloc (.cells #[.slice B1 (oddN os).length d1, .slice B2 N d2, .slice B1 (oddN os).length d1, .slice B2 N d2] 29)).fresh hk7)
              have HB23 := hid (heap_alloc_new w7 (.cells #[.slice B3 0 d3, .slice B4 N d4] 29))
              have HK78 := hid ((Keeps.refl NoB w7).alloc (.cells #[.slice B3 0 d3, .slice B4 N d4] 29))
              have e0 := (cells2 (HK78.out.heap (HK67.out.heap HB21.out (fun h => h)) (fun h => h))).1
              have e1 := (cells2 (HK78.out.heap (HK67.out.heap HB21.out (fun h => h)) (fun h => h))).2
              clear ho3 ho4 hb4 hk7 HA2
              go_wp2_with fail
              have HH := hid (eholds_calls (oddN os) (sumB N vs) (padsB N bs) B1 B2 A8 d1 d2 c8 (fun _ => True) _ ((HI1.out.kept HK67.out).kept HK78.out) hA2.out ((HB2.out.kept HK67.out).kept HK78.out) ((((HROWS.out.kept HK.out).kept HK6.out).kept HK67.out).kept HK78.out) (by have h1 := hod.out; have h2 := hfl.out; omega) (by rw [hvl9.out]; omega))
              rw [hvl9.out, hvl.out, hhold.out] at HH
              refine HH.out.mono ?_
              rintro e w9 ⟨rfl, hk9⟩
              have z0 := (cells2 (hk9.heap HB23.out (fun h => h))).1
              have z1 := (cells2 (hk9.heap HB23.out (fun h => h))).2
              have HK79 := hid (HK78.out.fresh hk9)
              clear e0 e1 HH hk9
              go_wp2_with fail
              refine (HZ.out w9 HK79.out).mono ?_
              rintro e w10 ⟨rfl, rfl⟩
              go_wp2_with fail
              go_ret
              exact ⟨rfl, (((HK2.out.fresh HK.out).fresh HK6.out).fresh HK67.out).fresh HK79.out⟩
end Go.Proofs.Ytjfilleddekcmaa
