/- In which order equations are put upon each other is of no matter: the law's walk. Conditions: lengths that memory bears. -/
import Derived.Test.YtjfilleddekcmaaEquationHolds
import Derived.Test.YtjfilleddekcmaaEqsOwn
import Derived.Test.YtjfilleddekcmaaXorMath
import Derived.Deep.CutRange
set_option linter.unusedVariables false
namespace Go.Proofs.Ytjfilleddekcmaa
open Go.RowKit
attribute [local go_sem ↓] Go.wp_at_zero Go.wp_at_succ

theorem eadd_any (n : Int) (es : List EqV) (A : Option Addr) (c : Nat) (R : Nat → Prop) (w : World) (hn0 : -9223372036854775808 ≤ n) (hn : n ≤ 1073741824) (he : EqsIn R w A es) (hl1 : es.length ≤ 1073741824) (hl2 : (ofsE es).length ≤ 1073741824) :
    Calls Try.prog 17 #[.int .i64 n, .slice A es.length c] w fun e w' => ∃ B1 k1 d1 B2 k2 d2, e = .returned (.tuple #[.agg #[.slice B1 k1 d1, .slice B2 k2 d2], .bool (fitN n (valsE es))]) ∧ Hid (fitN n (valsE es) = true → (k1 = (oddN (ofsE es)).length ∧ IntsAt w' .i64 B1 (oddN (ofsE es))) ∧ k2 = (sumB n.toNat (valsE es)).length ∧ k2 ≤ d2 ∧ (B2 = none → d2 = 0) ∧ BytesIn (fun _ => True) w' B2 (sumB n.toNat (valsE es))) ∧ Keeps NoB w w' := by
  by_cases hf : fitN n (valsE es) = true
  · obtain ⟨N, rfl⟩ : ∃ N : Nat, n = (N : Int) := ⟨n.toNat, by unfold fitN at hf; simp at hf; omega⟩
    refine (eadd_yes N es A c R w (by omega) he hl1 hl2 (by unfold fitN at hf; simp at hf; exact hf)).mono ?_
    rintro e w' ⟨v1, v2, rfl, ho1, ho2, hk⟩
    obtain ⟨B1, d1, rfl, _, h1⟩ := ho1.reads
    obtain ⟨B2, d2, rfl, h2, h3, h4⟩ := OwnB.reads ho2
    exact ⟨B1, _, d1, B2, _, d2, by rw [hf]; exact rfl, hid (fun _ => ⟨⟨rfl, h1⟩, rfl, h2, h3, h4.mono (fun _ _ _ => trivial)⟩), hk⟩
  · refine (eadd_no n es A c R w hn0 hn he hl1 hl2 (by simpa using hf)).mono ?_
    rintro e w' ⟨rfl, hk⟩
    exact ⟨none, 0, 0, none, 0, 0, by rw [show fitN n (valsE es) = false by simpa using hf], hid (fun h => absurd h hf), hk⟩
theorem eadd_anyN (n : Int) (es : List EqV) (m : Nat) (hm : es.length = m) (A : Option Addr) (c : Nat) (R : Nat → Prop) (w : World) (hn0 : -9223372036854775808 ≤ n) (hn : n ≤ 1073741824) (he : EqsIn R w A es) (hl1 : m ≤ 1073741824) (hl2 : (ofsE es).length ≤ 1073741824) :
    Calls Try.prog 17 #[.int .i64 n, .slice A m c] w fun e w' => ∃ B1 k1 d1 B2 k2 d2, e = .returned (.tuple #[.agg #[.slice B1 k1 d1, .slice B2 k2 d2], .bool (fitN n (valsE es))]) ∧ Hid (fitN n (valsE es) = true → (k1 = (oddN (ofsE es)).length ∧ IntsAt w' .i64 B1 (oddN (ofsE es))) ∧ k2 = (sumB n.toNat (valsE es)).length ∧ k2 ≤ d2 ∧ (B2 = none → d2 = 0) ∧ BytesIn (fun _ => True) w' B2 (sumB n.toNat (valsE es))) ∧ Keeps NoB w w' := by
  subst hm
  exact eadd_any n es A c R w hn0 hn he hl1 hl2
set_option maxHeartbeats 4000000 in
set_option maxRecDepth 20000 in
theorem equationOrder_calls (sz : Nat) (es : List EqV) (x : EqV) (A A1 A2 : Option Addr) (c c1 c2 : Nat) (w : World) (hsz : sz < 256) (hA : A = none → c = 0) (he : EqsIn (fun _ => True) w A es) (hmx : ∀ e ∈ es, e.of.length ≤ 140737488355328 ∧ e.val.length ≤ 140737488355328)
    (hi : IntsAt w .i64 A1 x.of) (l1 : x.of.length ≤ c1) (n1 : A1 = none → c1 = 0) (hv : BytesIn (fun _ => True) w A2 x.val) (l2 : x.val.length ≤ c2) (n2 : A2 = none → c2 = 0) (m1 : x.of.length ≤ 140737488355328) (m2 : x.val.length ≤ 140737488355328) :
    Calls Try.prog 5 #[.int .u8 (sz : Int), .slice A es.length c, .agg #[.slice A1 x.of.length c1, .slice A2 x.val.length c2]] w fun e w' => e = .returned (.bool true) ∧ Keeps NoB w w' := by
  obtain ⟨xo, xv⟩ := x
  dsimp only at *
  obtain ⟨w0, hw0⟩ : ∃ w0, w.alloc (.cells #[.slice A1 xo.length c1, .slice A2 xv.length c2] 29) = w0 := ⟨_, rfl⟩
  have HK0 := hid (show Keeps NoB w w0 by rw [← hw0]; exact (Keeps.refl NoB w).alloc _)
  have hs0 : w0.heap.size = w.heap.size + 1 := by rw [← hw0]; simp
  have HX0 := hid (show w0.heap[w.heap.size]? = some (.cells #[.slice A1 xo.length c1, .slice A2 xv.length c2] 29 (0, 0)) by rw [← hw0]; exact heap_alloc_new w _)
  have HP := hid (show PairIn (fun b => b < w0.heap.size) w0 (.slice A1 xo.length c1) (.slice A2 xv.length c2) ⟨xo, xv⟩ from
    PairIn.mono ⟨⟨A1, c1, rfl, l1, n1, hi.kept HK0.out, fun _ _ _ _ => trivial⟩, ⟨A2, c2, rfl, l2, n2, hv.kept HK0.out⟩⟩ (fun b h1 _ => h1))
  have HE0 := hid (show EqsIn (fun b => b < w0.heap.size) w0 A es from (he.keeps HK0.out (fun _ _ h => h)).mono (fun b h1 _ => h1))
  have HBIG := hid (fun (w' : World) (h : Keeps NoB w0 w') => big_calls es A c _ w' (HE0.out.keeps h (fun _ _ h => h)) hmx)
  have HBIGX := hid (fun (w' : World) (h : Keeps NoB w0 w') => big_calls [⟨xo, xv⟩] _ 1 _ _ (eqs_one (w := w') (A1 := A1) (A2 := A2) (c1 := c1) (c2 := c2) (x := ⟨xo, xv⟩) ⟨(hi.kept HK0.out).kept h, fun _ _ _ _ => trivial⟩ ((hv.kept HK0.out).kept h) l1 l2 n1 n2) (by
    intro e he
    obtain rfl := List.mem_singleton.1 he
    exact ⟨m1, m2⟩))
  have HA := hid hA
  clear hi hv he hmx l1 l2 n1 n2 m1 m2 hA
  obtain ⟨m, hm⟩ : ∃ m, es.length = m := ⟨_, rfl⟩
  obtain ⟨p, hp⟩ : ∃ p, xo.length = p := ⟨_, rfl⟩
  obtain ⟨q, hq⟩ : ∃ q, xv.length = q := ⟨_, rfl⟩
  rw [hm] at HBIG ⊢
  rw [show (⟨xo, xv⟩ : EqV).of.length = p from hp, show (⟨xo, xv⟩ : EqV).val.length = q from hq] at HBIGX
  rw [hp, hq] at HX0 HP hw0 ⊢
  have hmm := hid hm
  have hpp := hid hp
  have hqq := hid hq
  clear hm hp hq
  obtain ⟨N, hN⟩ : ∃ N, sz % 20 = N := ⟨_, rfl⟩
  have hN20 : N < 20 := by omega
  have hmod : (sz : Int) % 20 = (N : Int) := by omega
  have hmodt : (sz : Int).tmod 20 = (N : Int) := by rw [Int.tmod_eq_emod_of_nonneg (by omega)]; exact hmod
  go_enter Try.func5, Try.ntmps5
  go_wp2_with fail
  refine (speaks15_calls w0).mono ?_
  rintro e w1 ⟨rfl, hk1⟩
  have HK1 := hid hk1
  clear hk1 hw0
  go_wp2_with fail
  refine (HBIG.out w1 HK1.out).mono ?_
  rintro e w2 ⟨b, rfl, hsm, hk2⟩
  have HK2 := hid (HK1.out.fresh hk2)
  clear hk2 HBIG
  cases b with
  | true =>
    go_wp2_with fail
    go_ret
    exact ⟨rfl, HK0.out.fresh HK2.out⟩
  | false =>
    have HSM := hid (hsm rfl)
    have hm9 : m ≤ 300 := by have := HSM.out.len; rw [hmm.out] at this; exact this
    clear hsm
    have e0 := (cells2 (HK2.out.heap HX0.out (fun h => h))).1
    have e1 := (cells2 (HK2.out.heap HX0.out (fun h => h))).2
    go_wp2_with fail
    refine (HBIGX.out w2 HK2.out).mono ?_
    rintro e w3 ⟨b, rfl, hsm, hk3⟩
    have HK3 := hid ((HK2.out.alloc _).fresh hk3)
    clear hk3 HBIGX e0 e1
    cases b with
    | true =>
      go_wp2_with fail
      go_ret
      exact ⟨rfl, HK0.out.fresh HK3.out⟩
    | false =>
      have HSX := hid (hsm rfl)
      clear hsm
      have HE := hid (HE0.out.keeps HK3.out (fun _ _ h => h))
      have hu := Try.underlying22
      have hs3 := hid HK3.out.size
      have hback := hid (show ∀ k, k < m → es.reverse.take (k + 1) = es.reverse.take k ++ [ge es (m - 1 - k)] from fun k hk => by
        rw [List.take_succ_eq_append_getElem (by rw [List.length_reverse, hmm.out]; exact hk), List.getElem_reverse, ge_eq es (m - 1 - k) (by rw [hmm.out]; omega)]
        simp [hmm.out])
      go_wp2_with fail
      go_loopw [8, 30] (fun v8 v30 wr => ∃ k : Nat, k ≤ m ∧ v30 = .int .i64 (k : Int) ∧ Hid (OwnEqs (fun b => b < w0.heap.size) wr w0.heap.size v8 (es.reverse.take k)) ∧ Hid (Keeps NoB w0 wr)) (fun _ v30 _ => m - (intOf v30).toNat)
      case atStart => exact ⟨0, Nat.zero_le _, rfl, OwnEqs.nil _ _ _, HK3⟩
      case round =>
        obtain ⟨k, hk, rfl, HO, HK⟩ := hrel
        by_cases hlt : k < m
        · obtain ⟨b, off, rfl, hbR, hc⟩ := HE0.out.2 (by rw [hmm.out]; omega)
          obtain ⟨j, hj⟩ : ∃ j, m = k + 1 + j := ⟨m - 1 - k, by omega⟩
          have hbk := hid (hback.out k hlt)
          rw [show m - 1 - k = j by omega] at hbk
          obtain ⟨u1, u2, h1, h2, h3, h4⟩ := hc j (by rw [hmm.out]; omega)
          have e1 := HK.out.cell h1 (fun h => h)
          have e2 := HK.out.cell h2 (fun h => h)
          have HPJ := hid (PairIn.keeps (⟨h3, h4⟩ : PairIn _ _ _ _ _) HK.out (fun _ _ h => h))
          obtain ⟨A3, c3, rfl, _⟩ := h3
          obtain ⟨A4, c4, rfl, _⟩ := h4
          have hji : (m : Int) - 1 - (k : Int) = (j : Int) := by omega
          have p0 : (0 : Int) ≤ (j : Int) := by omega
          have HJ := hid hj
          have p1 : (j : Int) < (m : Int) := by omega
          have p2 : (0 : Int) ≤ (k : Int) := by omega
          have p3 : (k : Int) < (m : Int) := by omega
          have hln := hid (show (es.reverse.take k).length = k by rw [List.length_take, List.length_reverse, hmm.out]; omega)
          clear hc h1 h2 hbR hj
          generalize hge : ge es j = ek at *
          obtain ⟨eof, evl⟩ := ek
          dsimp only at *
          go_wp2_with (at_builtin; go_must (refine wpList_appEqs rfl _ _ 22 (fun b => b < w0.heap.size) rfl w0.heap.size hu u8 (es.reverse.take k) rfl (HO.out.kept ((Keeps.refl NoB wr).alloc _)) (fun _ h => h) (some ⟨wr.heap.size, 0, none⟩) 1 1 [⟨eof, evl⟩] rfl rfl (fun e => by cases e) (CellsE.one HPJ.out) k hln.out (by omega) (by have := HK.out.size; simp; omega) ?_); intro A5 c5 w5 hown5 hgr5 _)
          go_roundw
          case rel => exact ⟨k + 1, by omega, by go_num, hid (by rw [hbk.out]; exact hown5), hid ((HK.out.alloc _).grown hgr5 (fun i e hlt => by have := (HO.out.base_le i e.symm).1; omega))⟩
          case measure => simp [intOf]; omega
        · obtain rfl : k = m := by omega
          have hall : es.reverse.take k = es.reverse := by rw [← hmm.out, ← List.length_reverse, List.take_length]
          rw [hall] at HO
          have hrl := hid (show es.reverse.length = k by rw [List.length_reverse, hmm.out])
          have hof3 := hid HSM.out.of
          obtain ⟨A8, c8, rfl, _, _, hq8⟩ := HO.out.reads (by rw [hrl.out]; omega)
          have HQ8 := hid hq8
          rw [hrl.out]
          have HEr := hid (HE0.out.keeps HK.out (fun _ _ h => h))
          have hofl := hid (show (ofsE es.reverse).length ≤ 300 by
            have h9 : (ofsE es.reverse).Perm (ofsE es) := (List.reverse_perm es).flatMap_right _
            rw [h9.length_eq]; exact hof3.out)
          have HA1 := hid (eadd_any (N : Int) es A c _ wr (by omega) (by omega) HEr.out (by rw [hmm.out]; omega) (by have := hof3.out; omega))
          rw [hmm.out] at HA1
          clear hall hq8
          go_wp2_with fail
          refine HA1.out.mono ?_
          rintro e w5 ⟨B1, k1, d1, B2, k2, d2, rfl, HR1, hk5⟩
          have HK5 := hid hk5
          clear hk5 HA1
          go_wp2_with fail
          have HB10 := hid (heap_alloc_new w5 (.cells #[.slice B1 k1 d1, .slice B2 k2 d2] 29))
          have HK56 := hid ((Keeps.refl NoB w5).alloc (.cells #[.slice B1 k1 d1, .slice B2 k2 d2] 29))
          generalize w5.alloc (.cells #[.slice B1 k1 d1, .slice B2 k2 d2] 29) = w6 at *
          have HK6 := hid (HK5.out.fresh HK56.out)
          have HA2 := hid (eadd_any (N : Int) es.reverse A8 c8 _ w6 (by omega) (by omega) (HQ8.out.keeps HK6.out (fun _ _ h => h)) (by rw [hrl.out]; omega) (by have := hofl.out; omega))
          rw [hrl.out, fit_back] at HA2
          refine HA2.out.mono ?_
          rintro e w7 ⟨E1, m1, f1, E2, m2, f2, rfl, HR2, hk7⟩
          have HK7 := hid (HK6.out.fresh hk7)
          have HB10 := hid (hk7.heap HB10.out (fun h => h))
          have HK57 := hid (HK56.out.fresh hk7)
          clear hk7 HA2
          go_wp2_with fail
          have HB12 := hid (heap_alloc_new w7 (.cells #[.slice E1 m1 f1, .slice E2 m2 f2] 29))
          have HK78 := hid ((Keeps.refl NoB w7).alloc (.cells #[.slice E1 m1 f1, .slice E2 m2 f2] 29))
          generalize w7.alloc (.cells #[.slice E1 m1 f1, .slice E2 m2 f2] 29) = w8 at *
          have HK8 := hid (HK7.out.fresh HK78.out)
          have HB10 := hid (HK78.out.heap HB10.out (fun h => h))
          have HK58 := hid (HK57.out.fresh HK78.out)
          have HK08 := hid (HK.out.fresh HK8.out)
          have hlow := hid (show ∀ b, b < w0.heap.size → b < w8.heap.size from fun b hb => Nat.lt_of_lt_of_le hb HK08.out.size)
          go_wp2_with fail
          go_cut [14, 15] from 57 to 68 (fun s14 s15 wx => ∃ (b14 : Nat) (G1 : Option Addr) (g1 h1 : Nat) (G2 : Option Addr) (g2 h2 : Nat), s14 = .pointer (some ⟨b14, 0, none⟩) ∧ s15 = .bool (fitN (N : Int) (valsE (([(⟨xo, xv⟩ : EqV)] ++ es) ++ [⟨xo, xv⟩]))) ∧ Hid (wx.heap[b14]? = some (.cells #[.slice G1 g1 h1, .slice G2 g2 h2] 29 (0, 0))) ∧ Hid (Keeps NoB w8 wx) ∧ Hid (fitN (N : Int) (valsE (([(⟨xo, xv⟩ : EqV)] ++ es) ++ [⟨xo, xv⟩])) = true → (g1 = (oddN (ofsE (([(⟨xo, xv⟩ : EqV)] ++ es) ++ [⟨xo, xv⟩]))).length ∧ IntsAt wx .i64 G1 (oddN (ofsE (([(⟨xo, xv⟩ : EqV)] ++ es) ++ [⟨xo, xv⟩])))) ∧ g2 = (sumB N (valsE (([(⟨xo, xv⟩ : EqV)] ++ es) ++ [⟨xo, xv⟩]))).length ∧ BytesIn (fun _ => True) wx G2 (sumB N (valsE (([(⟨xo, xv⟩ : EqV)] ++ es) ++ [⟨xo, xv⟩])))))
          case first =>
            have tka : True := trivial
            have tkb : True := trivial
            have HKr := HK08
            have hz8 : w0.heap.size ≤ w8.heap.size := HK08.out.size
            have hl2 := hid (show (([(⟨xo, xv⟩ : EqV)] ++ es) ++ [(⟨xo, xv⟩ : EqV)]).length = 1 + k + 1 by rw [List.length_append, List.length_append, hmm.out]; rfl)
            have hofm := hid (show (ofsE (([(⟨xo, xv⟩ : EqV)] ++ es) ++ [(⟨xo, xv⟩ : EqV)])).length ≤ 900 by
              have h1 := hof3.out
              have h2 := HSX.out.of
              simp only [ofsE, List.flatMap_append, List.length_append] at h1 h2 ⊢
              omega)
            go_region_held3 (fun w' => w'.cell? ⟨w.heap.size, 0, none⟩ = some (.slice A1 p c1) ∧ w'.cell? ⟨w.heap.size, 1, none⟩ = some (.slice A2 q c2)) (exact cells2 (Keeps.heap (show Keeps NoB w0 _ from (by (repeat (first | with_reducible exact HKr.out | with_reducible refine Keeps.alloc ?_ _ | with_reducible refine Keeps.drew ?_ | with_reducible refine Keeps.setCell ?_ (fun h => absurd h (by first | omega | (simp; omega))) _)); done)) HX0.out (fun h => h))) (first
              | (clear tka; refine step_appEqs rfl _ _ 22 (fun b => b < w0.heap.size) rfl w8.heap.size hu _ [⟨xo, xv⟩] rfl (by show OwnEqs _ _ _ (Value.slice _ 1 1) _; repeat (first | with_reducible exact OwnEqs.oneAt (by first | (simp; done) | rfl) (Keeps.sizeN (by (repeat (first | with_reducible exact (Keeps.refl NoB w8) | with_reducible refine Keeps.alloc ?_ _ | with_reducible refine Keeps.drew ?_)); done)) (PairIn.kept HP.out (by (repeat (first | with_reducible exact HK08.out | with_reducible refine Keeps.alloc ?_ _ | with_reducible refine Keeps.drew ?_)); done)) | with_reducible refine OwnEqs.kept ?_ ((Keeps.refl NoB _).alloc _) | with_reducible refine OwnEqs.kept ?_ (Keeps.refl NoB _).drew)) hlow.out A k c es rfl hmm.out HA.out (EqsIn.cellsE (EqsIn.kept HE0.out (by (repeat (first | with_reducible exact HK08.out | with_reducible refine Keeps.alloc ?_ _ | with_reducible refine Keeps.drew ?_)); done))) 1 rfl (by omega) (Keeps.sizeN (by (repeat (first | with_reducible exact (Keeps.refl NoB w8) | with_reducible refine Keeps.alloc ?_ _ | with_reducible refine Keeps.drew ?_)); done)) ?_; intro A9 c9 w9 hown9 hgr9 hlo9; have KW := hid (show Keeps NoB w8 w9 from Keeps.grown (by (repeat (first | with_reducible exact (Keeps.refl NoB w8) | with_reducible refine Keeps.alloc ?_ _ | with_reducible refine Keeps.drew ?_)); done) hgr9 (fun i e hlt => by have := hlo9.1 i e; omega)); have HKr := hid (HK08.out.fresh KW.out); have hz9 : w8.heap.size ≤ w9.heap.size := KW.out.size; have HO9 := hid hown9; have C9 := hid (fun (n : Nat) (h : CellsE (fun b => b < w0.heap.size) _ (some ⟨n, 0, none⟩) [⟨xo, xv⟩]) (hne : ¬ some n = _) => CellsE.keeps h (Keeps.ofGrown hgr9) (fun b hb e => by have := hlow.out b hb; have := hlo9.1 b e; omega) hne); (first | (have Z := hid (zstep (n := w8.heap.size) (o := .cells #[.slice none 0 0, .slice none 0 0] 29) (heap_kept (heap_alloc_new w8 _) (Keeps.refl NoB _).drew) hgr9 (fun e => by have e2 : (some _ : Option Nat) = some _ := e; first | (simp at e2; done) | (simp at e2; omega)) hlo9.2)) | (have Z := hid (zstep (n := w8.heap.size) (o := .cells #[.slice none 0 0, .slice none 0 0] 29) (heap_alloc_new w8 _) hgr9 (fun e => by have e2 : (some _ : Option Nat) = some _ := e; first | (simp at e2; done) | (simp at e2; omega)) hlo9.2)) | (have Z := hid (zstep (n := w8.heap.size) (o := .cells #[.slice none 0 0, .slice none 0 0] 29) (heap_kept (heap_kept (heap_alloc_new w8 _) ((Keeps.refl NoB _).alloc _)) (Keeps.refl NoB _).drew) hgr9 (fun e => by have e2 : (some _ : Option Nat) = some _ := e; first | (simp at e2; done) | (simp at e2; omega)) hlo9.2)) | (have Z := hid (zstep (n := w8.heap.size) (o := .cells #[.slice none 0 0, .slice none 0 0] 29) (heap_kept (heap_alloc_new w8 _) ((Keeps.refl NoB _).alloc _)) hgr9 (fun e => by have e2 : (some _ : Option Nat) = some _ := e; first | (simp at e2; done) | (simp at e2; omega)) hlo9.2)) | (have Z := hid (zstep (n := w8.heap.size) (o := .cells #[.slice none 0 0, .slice none 0 0] 29) (heap_kept (heap_kept (heap_kept (heap_alloc_new w8 _) ((Keeps.refl NoB _).alloc _)) ((Keeps.refl NoB _).alloc _)) (Keeps.refl NoB _).drew) hgr9 (fun e => by have e2 : (some _ : Option Nat) = some _ := e; first | (simp at e2; done) | (simp at e2; omega)) hlo9.2)) | (have Z := hid (zstep (n := w8.heap.size) (o := .cells #[.slice none 0 0, .slice none 0 0] 29) (heap_kept (heap_kept (heap_alloc_new w8 _) ((Keeps.refl NoB _).alloc _)) ((Keeps.refl NoB _).alloc _)) hgr9 (fun e => by have e2 : (some _ : Option Nat) = some _ := e; first | (simp at e2; done) | (simp at e2; omega)) hlo9.2)) | (have Z := hid (zstep (n := w8.heap.size + 1) (o := .cells #[.slice none 0 0, .slice none 0 0] 29) (heap_kept (heapAt (World.size_alloc w8 _) _) (Keeps.refl NoB _).drew) hgr9 (fun e => by have e2 : (some _ : Option Nat) = some _ := e; first | (simp at e2; done) | (simp at e2; omega)) hlo9.2)) | (have Z := hid (zstep (n := w8.heap.size + 1) (o := .cells #[.slice none 0 0, .slice none 0 0] 29) (heapAt (World.size_alloc w8 _) _) hgr9 (fun e => by have e2 : (some _ : Option Nat) = some _ := e; first | (simp at e2; done) | (simp at e2; omega)) hlo9.2)) | (have Z := hid (zstep (n := w8.heap.size + 1) (o := .cells #[.slice none 0 0, .slice none 0 0] 29) (heap_kept (heap_kept (heapAt (World.size_alloc w8 _) _) ((Keeps.refl NoB _).alloc _)) (Keeps.refl NoB _).drew) hgr9 (fun e => by have e2 : (some _ : Option Nat) = some _ := e; first | (simp at e2; done) | (simp at e2; omega)) hlo9.2)) | (have Z := hid (zstep (n := w8.heap.size + 1) (o := .cells #[.slice none 0 0, .slice none 0 0] 29) (heap_kept (heapAt (World.size_alloc w8 _) _) ((Keeps.refl NoB _).alloc _)) hgr9 (fun e => by have e2 : (some _ : Option Nat) = some _ := e; first | (simp at e2; done) | (simp at e2; omega)) hlo9.2)) | (have Z := hid (zstep (n := w8.heap.size + 2) (o := .cells #[.slice none 0 0, .slice none 0 0] 29) (heap_kept (heapAt (size_two w8 _ _) _) (Keeps.refl NoB _).drew) hgr9 (fun e => by have e2 : (some _ : Option Nat) = some _ := e; first | (simp at e2; done) | (simp at e2; omega)) hlo9.2)) | (have Z := hid (zstep (n := w8.heap.size + 2) (o := .cells #[.slice none 0 0, .slice none 0 0] 29) (heapAt (size_two w8 _ _) _) hgr9 (fun e => by have e2 : (some _ : Option Nat) = some _ := e; first | (simp at e2; done) | (simp at e2; omega)) hlo9.2)) | skip); clear hown9 hgr9 hlo9)
              | (clear tkb; refine step_appEqs rfl _ _ 22 (fun b => b < w0.heap.size) rfl w8.heap.size hu _ ([(⟨xo, xv⟩ : EqV)] ++ es) rfl (by show OwnEqs _ _ _ (Value.slice A9 (1 + k) c9) _; repeat (first | with_reducible exact HO9.out | with_reducible refine OwnEqs.kept ?_ ((Keeps.refl NoB _).alloc _) | with_reducible refine OwnEqs.kept ?_ (Keeps.refl NoB _).drew)) hlow.out _ 1 1 [⟨xo, xv⟩] rfl rfl (fun e => by cases e) (by (repeat (first | with_reducible exact CellsE.oneAt (by first | (simp; done) | rfl) (PairIn.kept HP.out (by (repeat (first | with_reducible exact HKr.out | with_reducible refine Keeps.alloc ?_ _ | with_reducible refine Keeps.drew ?_)); done)) | exact C9.out _ (by (repeat (first | with_reducible exact CellsE.oneAt (by first | (simp; done) | rfl) (PairIn.kept HP.out (by (repeat (first | with_reducible exact HK08.out | with_reducible refine Keeps.alloc ?_ _ | with_reducible refine Keeps.drew ?_)); done)) | with_reducible refine CellsE.kept ?_ ((Keeps.refl NoB _).alloc _) | with_reducible refine CellsE.kept ?_ (Keeps.refl NoB _).drew)); done) (by intro e; have e2 : (some _ : Option Nat) = some _ := e; first | (simp at e2; done) | (simp at e2; omega)) | with_reducible refine CellsE.kept ?_ ((Keeps.refl NoB _).alloc _) | with_reducible refine CellsE.kept ?_ (Keeps.refl NoB _).drew)); done) (1 + k) (by rw [List.length_append, hmm.out]; rfl) (by omega) (Nat.le_trans KW.out.size (Keeps.sizeN (by (repeat (first | with_reducible exact (Keeps.refl NoB w9) | with_reducible refine Keeps.alloc ?_ _ | with_reducible refine Keeps.drew ?_)); done))) ?_; intro A10 c10 w10 hown10 hgr10 hlo10; have KX := hid (show Keeps NoB w8 w10 from Keeps.grown (KW.out.fresh (by (repeat (first | with_reducible exact (Keeps.refl NoB w9) | with_reducible refine Keeps.alloc ?_ _ | with_reducible refine Keeps.drew ?_)); done)) hgr10 (fun i e hlt => by have := hlo10.1 i e; omega)); have HKr := hid (HK08.out.fresh KX.out); have hz10 : w8.heap.size ≤ w10.heap.size := KX.out.size; have HO10 := hid (OwnEqs.eqs hown10 (by rw [hl2.out]; omega)); (first | (have Z := hid (zstep (heap_kept Z.out.1 (Keeps.refl NoB _).drew) hgr10 Z.out.2 hlo10.2)) | (have Z := hid (zstep Z.out.1 hgr10 Z.out.2 hlo10.2)) | (have Z := hid (zstep (heap_kept (heap_kept Z.out.1 ((Keeps.refl NoB _).alloc _)) (Keeps.refl NoB _).drew) hgr10 Z.out.2 hlo10.2)) | (have Z := hid (zstep (heap_kept Z.out.1 ((Keeps.refl NoB _).alloc _)) hgr10 Z.out.2 hlo10.2)) | (have Z := hid (zstep (heap_kept (heap_kept (heap_kept Z.out.1 ((Keeps.refl NoB _).alloc _)) ((Keeps.refl NoB _).alloc _)) (Keeps.refl NoB _).drew) hgr10 Z.out.2 hlo10.2)) | (have Z := hid (zstep (heap_kept (heap_kept Z.out.1 ((Keeps.refl NoB _).alloc _)) ((Keeps.refl NoB _).alloc _)) hgr10 Z.out.2 hlo10.2)) | (have Z := hid (zstep (n := w9.heap.size) (o := .cells #[.slice none 0 0, .slice none 0 0] 29) (heap_kept (heap_alloc_new w9 _) (Keeps.refl NoB _).drew) hgr10 (fun e => absurd ((HO9.out.base_le _ e.symm).2) (by omega)) hlo10.2)) | (have Z := hid (zstep (n := w9.heap.size) (o := .cells #[.slice none 0 0, .slice none 0 0] 29) (heap_alloc_new w9 _) hgr10 (fun e => absurd ((HO9.out.base_le _ e.symm).2) (by omega)) hlo10.2)) | (have Z := hid (zstep (n := w9.heap.size) (o := .cells #[.slice none 0 0, .slice none 0 0] 29) (heap_kept (heap_kept (heap_alloc_new w9 _) ((Keeps.refl NoB _).alloc _)) (Keeps.refl NoB _).drew) hgr10 (fun e => absurd ((HO9.out.base_le _ e.symm).2) (by omega)) hlo10.2)) | (have Z := hid (zstep (n := w9.heap.size) (o := .cells #[.slice none 0 0, .slice none 0 0] 29) (heap_kept (heap_alloc_new w9 _) ((Keeps.refl NoB _).alloc _)) hgr10 (fun e => absurd ((HO9.out.base_le _ e.symm).2) (by omega)) hlo10.2)) | (have Z := hid (zstep (n := w9.heap.size + 1) (o := .cells #[.slice none 0 0, .slice none 0 0] 29) (heap_kept (heapAt (World.size_alloc w9 _) _) (Keeps.refl NoB _).drew) hgr10 (fun e => absurd ((HO9.out.base_le _ e.symm).2) (by omega)) hlo10.2)) | (have Z := hid (zstep (n := w9.heap.size + 1) (o := .cells #[.slice none 0 0, .slice none 0 0] 29) (heapAt (World.size_alloc w9 _) _) hgr10 (fun e => absurd ((HO9.out.base_le _ e.symm).2) (by omega)) hlo10.2)) | skip); clear hown10 hgr10 hlo10)
              | (go_at_call 17; refine (eadd_anyN (N : Int) (([(⟨xo, xv⟩ : EqV)] ++ es) ++ [⟨xo, xv⟩]) (1 + k + 1) hl2.out A10 c10 (fun _ => True) _ (by omega) (by omega) (EqsIn.kept HO10.out (by (repeat (first | with_reducible exact (Keeps.refl NoB w10) | with_reducible refine Keeps.alloc ?_ _ | with_reducible refine Keeps.drew ?_)); done)) (by omega) (by have := hofm.out; omega)).mono ?_; rintro e w11 ⟨G1, g1, h1, G2, g2, h2, rfl, HR3, HK11'⟩; have HK11 : Keeps NoB w10 w11 := Keeps.fresh (by (repeat (first | with_reducible exact (Keeps.refl NoB w10) | with_reducible refine Keeps.alloc ?_ _ | with_reducible refine Keeps.drew ?_)); done) HK11'; have HKr := hid (HKr.out.fresh HK11); have KY := hid (KX.out.fresh HK11); have hz11 : w8.heap.size ≤ w11.heap.size := KY.out.size; (first | (have Z2 := hid (heap_kept (o := .cells #[.slice none 0 0, .slice none 0 0] 29) (heap_kept Z.out.1 (Keeps.refl NoB _).drew) HK11')) | (have Z2 := hid (heap_kept (o := .cells #[.slice none 0 0, .slice none 0 0] 29) Z.out.1 HK11')) | (have Z2 := hid (heap_kept (o := .cells #[.slice none 0 0, .slice none 0 0] 29) (heap_kept (heap_kept Z.out.1 ((Keeps.refl NoB _).alloc _)) (Keeps.refl NoB _).drew) HK11')) | (have Z2 := hid (heap_kept (o := .cells #[.slice none 0 0, .slice none 0 0] 29) (heap_kept Z.out.1 ((Keeps.refl NoB _).alloc _)) HK11')) | (have Z2 := hid (heap_kept (o := .cells #[.slice none 0 0, .slice none 0 0] 29) (heap_kept (heap_alloc_new w10 _) (Keeps.refl NoB _).drew) HK11')) | (have Z2 := hid (heap_kept (o := .cells #[.slice none 0 0, .slice none 0 0] 29) (heap_alloc_new w10 _) HK11')) | skip); (first | (have z0 := (cells2 Z2.out).1; have z1 := (cells2 Z2.out).2; have z2 := free2 Z2.out 0; have z3 := free2 Z2.out 1) | skip)))
            all_goals go_wp2_with fail
            all_goals go_meet
            all_goals first
              | exact ⟨_, G1, g1, h1, G2, g2, h2, rfl, rfl, hid (heap_alloc_new _ _), hid (KY.out.alloc _), hid (fun h => ⟨⟨(HR3.out h).1.1, (HR3.out h).1.2.kept ((Keeps.refl NoB _).alloc _)⟩, (HR3.out h).2.1, ((HR3.out h).2.2.2.2).kept ((Keeps.refl NoB _).alloc _)⟩)⟩
              | exact ⟨_, G1, g1, h1, G2, g2, h2, rfl, rfl, hid (put_two Z2.out _ _), hid ((KY.out.setCell (fun h => absurd h (by first | omega | (simp; done) | (simp; omega))) _).setCell (fun h => absurd h (by first | omega | (simp; done) | (simp; omega))) _), hid (fun h => ⟨⟨(HR3.out h).1.1, (HR3.out h).1.2.setBox Z2.out _ _⟩, (HR3.out h).2.1, ⟨((HR3.out h).2.2.2.2).1.setBox Z2.out _ _, fun _ _ _ _ => trivial⟩⟩)⟩
          case rest =>
            obtain ⟨b14, G1, g1, h1, G2, g2, h2, rfl, rfl, HB14, HKc, HR3⟩ := hcut
            have HKw := hid ((HK0.out.fresh HK08.out).fresh HKc.out)
            have HB10 := hid (HKc.out.heap HB10.out (fun h => h))
            have HB12 := hid (HKc.out.heap HB12.out (fun h => h))
            have HX := hid (HKc.out.heap (HK08.out.heap HX0.out (fun h => h)) (fun h => h))
            have x1 := (cells2 HX.out).2
            by_cases hF : fitN (N : Int) (valsE es) = true
            · obtain ⟨⟨rfl, r1⟩, rfl, _, _, r2⟩ := HR1.out hF
              obtain ⟨⟨rfl, r3⟩, rfl, _, _, r4⟩ := HR2.out hF
              rw [order_back] at r3 HB12
              rw [vals_back] at r4 HB12
              have R1 := hid (r1.kept (HK58.out.fresh HKc.out))
              have R2 := hid (r2.kept (HK58.out.fresh HKc.out))
              have R3 := hid (r3.kept (HK78.out.fresh HKc.out))
              have R4 := hid (r4.kept (HK78.out.fresh HKc.out))
              have hsm := hid (show sameE ⟨oddN (ofsE es), sumB N (valsE es)⟩ ⟨oddN (ofsE es), sumB N (valsE es)⟩ = true by simp [sameE])
              have HFB := hid (show fitB N (valsE es) = true by unfold fitN at hF; simp at hF; exact hF)
              have HSA := hid (esame_calls ⟨oddN (ofsE es), sumB N (valsE es)⟩ ⟨oddN (ofsE es), sumB N (valsE es)⟩ B1 B2 E1 E2 d1 d2 f1 f2 (fun _ => True) wc R1.out R2.out R3.out R4.out)
              rw [hsm.out] at HSA
              have a0 := (cells2 HB10.out).1
              have a1 := (cells2 HB10.out).2
              have b0 := (cells2 HB12.out).1
              have b1 := (cells2 HB12.out).2
              clear r1 r2 r3 r4
              by_cases hq : q = N
              · have hG : fitN (N : Int) (valsE (([(⟨xo, xv⟩ : EqV)] ++ es) ++ [⟨xo, xv⟩])) = true := by
                  have h9 := fit_more N ⟨xo, xv⟩ es
                  rw [hF, show decide ((⟨xo, xv⟩ : EqV).val.length = N) = true from decide_eq_true (hqq.out.trans hq)] at h9
                  exact h9
                obtain ⟨⟨rfl, r5⟩, rfl, r6⟩ := HR3.out hG
                have e1 : oddN (ofsE (([(⟨xo, xv⟩ : EqV)] ++ es) ++ [⟨xo, xv⟩])) = oddN (ofsE es) := order_of ⟨xo, xv⟩ es
                have e2 : sumB N (valsE (([(⟨xo, xv⟩ : EqV)] ++ es) ++ [⟨xo, xv⟩])) = sumB N (valsE es) := vals_more N ⟨xo, xv⟩ es (hqq.out.trans hq) HFB.out
                rw [e1] at r5 HB14
                rw [e2] at r6 HB14
                have R5 := hid r5
                have R6 := hid r6
                have HSC := hid (fun (w' : World) (h : Keeps NoB wc w') => esame_calls ⟨oddN (ofsE es), sumB N (valsE es)⟩ ⟨oddN (ofsE es), sumB N (valsE es)⟩ B1 B2 G1 G2 d1 d2 h1 h2 (fun _ => True) w' (R1.out.kept h) (R2.out.kept h) (R5.out.kept h) (R6.out.kept h))
                rw [hsm.out] at HSC
                have dq : (((q : Nat) : Int) == ((N : Nat) : Int)) = true := by simp [hq]
                clear e1 e2 r5 r6 hq
                rw [hG, hF] at *
                go_wp2_with fail
                refine HSA.out.mono ?_
                rintro e w20 ⟨rfl, hk20⟩
                have HK20 := hid hk20
                have c0 := (cells2 (hk20.heap HB14.out (fun h => h))).1
                have c1' := (cells2 (hk20.heap HB14.out (fun h => h))).2
                have a0 := hk20.cell a0 (fun h => h)
                have a1 := hk20.cell a1 (fun h => h)
                clear hk20
                go_wp2_with fail
                refine (HSC.out w20 HK20.out).mono ?_
                rintro e w21 ⟨rfl, hk21⟩
                go_wp2_with fail
                go_ret
                exact ⟨rfl, (HKw.out.fresh HK20.out).fresh hk21⟩
              · have hG : fitN (N : Int) (valsE (([(⟨xo, xv⟩ : EqV)] ++ es) ++ [⟨xo, xv⟩])) = false := by
                  have h9 := fit_more N ⟨xo, xv⟩ es
                  rw [hF, show decide ((⟨xo, xv⟩ : EqV).val.length = N) = false from decide_eq_false (fun h => hq (hqq.out.symm.trans h))] at h9
                  exact h9
                have dq : (((q : Nat) : Int) == ((N : Nat) : Int)) = false := by simp; omega
                clear hq
                rw [hG, hF] at *
                go_wp2_with fail
                refine HSA.out.mono ?_
                rintro e w20 ⟨rfl, hk20⟩
                go_wp2_with fail
                go_ret
                exact ⟨rfl, HKw.out.fresh hk20⟩
            · have hF : fitN (N : Int) (valsE es) = false := by simpa using hF
              have hG : fitN (N : Int) (valsE (([(⟨xo, xv⟩ : EqV)] ++ es) ++ [⟨xo, xv⟩])) = false := by
                have h9 := fit_more N ⟨xo, xv⟩ es
                rw [hF, Bool.false_and] at h9
                exact h9
              rw [hG, hF] at *
              go_wp2_with fail
              go_ret
              exact ⟨rfl, HKw.out⟩
end Go.Proofs.Ytjfilleddekcmaa
