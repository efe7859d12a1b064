/- Composite blocks of which one is turned, or one is missing, or there is one more: the walk of the law ComposeRight. Conditions: numbers are of their kinds. -/
import Derived.Test.YtnnkfopopanfjaaG8
import Derived.Test.YtnnkfopopanfjaaG5
import Derived.Test.YtnnkfopopanfjaaBRows
import Derived.Test.YtnnkfopopanfjaaG3
import Derived.BigQuiet
set_option linter.unusedVariables false
set_option linter.unusedSimpArgs false
namespace Go.Proofs.Ytnnkfopopanfjaa
open Go.RowKit
attribute [local go_sem ↓] Go.wp_at_zero Go.wp_at_succ

theorem bigN_no' {p : Par} (h : bigN p = false) : p.n ≤ 60 ∧ p.b ≤ 60 ∧ -60 ≤ p.n := by
  have := of_decide_eq_false h; omega
theorem flat_take (T : List (List UInt8)) (k : Nat) (hk : k < T.length) : (T.take (k + 1)).flatten = (T.take k).flatten ++ gr T k := by
  rw [List.take_succ_eq_append_getElem hk, List.flatten_append, gr_eq T k hk]
  simp
theorem flat_len {B : Nat} {T : List (List UInt8)} (hf : fitB B T = true) : ∀ k, k ≤ T.length → (T.take k).flatten.length = k * B
  | 0, _ => by simp
  | k + 1, hk => by
    rw [flat_take T k (by omega), List.length_append, flat_len hf k (by omega), fitB_at hf k (by omega), Nat.succ_mul]
set_option maxHeartbeats 4000000 in
set_option maxRecDepth 20000 in
theorem composeRight_walk (p : Par) (session : Nat) (obj : List UInt8) (A : Option Addr) (c : Nat) (tb ta ty tm tl : Int) (w : World) (hwf : p.wf) (hs : session < 18446744073709551616) (ho : BytesIn (fun _ => True) w A obj) (hcap : obj.length ≤ c) (hA : A = none → c = 0) (htb : 0 ≤ tb ∧ tb < 256) (hta : 0 ≤ ta ∧ ta < 256) (hty : 0 ≤ ty ∧ ty < 256) (htm : -9223372036854775808 ≤ tm ∧ tm ≤ 9223372036854775807) (htl : -9223372036854775808 ≤ tl ∧ tl ≤ 9223372036854775807) :
    Calls Try.prog 3 #[.agg #[.int .i64 p.n, .int .i64 p.b, .int .i64 p.q, .int .i64 p.eps, .int .i64 p.f, .int .u64 (session : Int), .slice A obj.length c, .int .u8 tb, .int .u8 ta, .int .u8 ty, .int .i64 tm, .int .i64 tl]] w fun e w' => e = .returned (.bool true) ∧ Keeps NoB w w' := by
  have hu := Try.underlying23
  have HO := hid ho
  have HTM := hid htm
  have HTL := hid htl
  have HTB := hid htb
  have HTA := hid hta
  have HTY := hid hty
  clear htm htl htb hta hty
  have HWF := hid hwf
  have hlen := ho.len
  obtain ⟨L, hL⟩ : ∃ L, obj.length = L := ⟨_, rfl⟩
  have HL := hid hL
  rw [hL] at hcap hlen ⊢
  clear ho hwf hL
  go_enter Try.func3, Try.ntmps3
  go_wp2_with fail
  refine (speaks13_calls _).mono ?_
  rintro e w1 ⟨rfl, HK1⟩
  have hbx := hid (HK1.heap (heap_alloc_new w (.cells #[.int .i64 p.n, .int .i64 p.b, .int .i64 p.q, .int .i64 p.eps, .int .i64 p.f, .int .u64 (session : Int), .slice A L c, .int .u8 tb, .int .u8 ta, .int .u8 ty, .int .i64 tm, .int .i64 tl] 29)) (fun h => h))
  have hc12 : w1.cell? ⟨w.heap.size, 0, none⟩ = some (.int .i64 p.n) ∧ w1.cell? ⟨w.heap.size, 1, none⟩ = some (.int .i64 p.b) ∧ w1.cell? ⟨w.heap.size, 2, none⟩ = some (.int .i64 p.q) ∧ w1.cell? ⟨w.heap.size, 3, none⟩ = some (.int .i64 p.eps) ∧ w1.cell? ⟨w.heap.size, 4, none⟩ = some (.int .i64 p.f) ∧ w1.cell? ⟨w.heap.size, 5, none⟩ = some (.int .u64 (session : Int)) ∧ w1.cell? ⟨w.heap.size, 6, none⟩ = some (.slice A L c) ∧ w1.cell? ⟨w.heap.size, 7, none⟩ = some (.int .u8 tb) ∧ w1.cell? ⟨w.heap.size, 8, none⟩ = some (.int .u8 ta) ∧ w1.cell? ⟨w.heap.size, 9, none⟩ = some (.int .u8 ty) ∧ w1.cell? ⟨w.heap.size, 10, none⟩ = some (.int .i64 tm) ∧ w1.cell? ⟨w.heap.size, 11, none⟩ = some (.int .i64 tl) := by
    simp [World.cell?, hbx.out]
  have HC12 := hid hc12
  have HK1 := hid HK1
  obtain ⟨b0, b1, b2, b3, b4, b5, b6, b7, b8, b9, b10, b11⟩ := hc12
  go_wp2_with fail
  have hlt := World.block_lt_of_cell? w1 _ b0
  go_region_held3 (fun w' => w'.cell? ⟨w.heap.size, 0, none⟩ = some (.int .i64 p.n) ∧ w'.cell? ⟨w.heap.size, 1, none⟩ = some (.int .i64 p.b) ∧ w'.cell? ⟨w.heap.size, 2, none⟩ = some (.int .i64 p.q) ∧ w'.cell? ⟨w.heap.size, 3, none⟩ = some (.int .i64 p.eps) ∧ w'.cell? ⟨w.heap.size, 4, none⟩ = some (.int .i64 p.f) ∧ w'.cell? ⟨w.heap.size, 5, none⟩ = some (.int .u64 (session : Int)) ∧ w'.cell? ⟨w.heap.size, 6, none⟩ = some (.slice A L c) ∧ w'.cell? ⟨w.heap.size, 7, none⟩ = some (.int .u8 tb) ∧ w'.cell? ⟨w.heap.size, 8, none⟩ = some (.int .u8 ta) ∧ w'.cell? ⟨w.heap.size, 9, none⟩ = some (.int .u8 ty) ∧ w'.cell? ⟨w.heap.size, 10, none⟩ = some (.int .i64 tm) ∧ w'.cell? ⟨w.heap.size, 11, none⟩ = some (.int .i64 tl)) (go_keep) (fail)

  · obtain ⟨w3, hw3⟩ : ∃ x, ((w1.alloc (.cells #[.int .i64 p.n, .int .i64 p.b, .int .i64 p.q, .int .i64 p.eps, .int .i64 p.f] 23)).alloc (.cells #[.int .u8 tb, .int .u8 ta, .int .u8 ty, .int .i64 tm, .int .i64 tl] 27)).drew = x := ⟨_, rfl⟩
    have HK13 := hid (show Keeps NoB w1 w3 by rw [← hw3]; exact (((Keeps.refl NoB w1).alloc (.cells #[.int .i64 p.n, .int .i64 p.b, .int .i64 p.q, .int .i64 p.eps, .int .i64 p.f] 23)).alloc (.cells #[.int .u8 tb, .int .u8 ta, .int .u8 ty, .int .i64 tm, .int .i64 tl] 27)).drew)
    have HP3 := hid (show w3.heap[w1.heap.size]? = some (.cells #[.int .i64 p.n, .int .i64 p.b, .int .i64 p.q, .int .i64 p.eps, .int .i64 p.f] 23 (0, 0)) by rw [← hw3]; exact (((Keeps.refl NoB (w1.alloc (.cells #[.int .i64 p.n, .int .i64 p.b, .int .i64 p.q, .int .i64 p.eps, .int .i64 p.f] 23))).alloc (.cells #[.int .u8 tb, .int .u8 ta, .int .u8 ty, .int .i64 tm, .int .i64 tl] 27)).drew).heap (heap_alloc_new w1 (.cells #[.int .i64 p.n, .int .i64 p.b, .int .i64 p.q, .int .i64 p.eps, .int .i64 p.f] 23)) (fun h => h))
    have HT3 := hid (show w3.heap[w1.heap.size + 1]? = some (.cells #[.int .u8 tb, .int .u8 ta, .int .u8 ty, .int .i64 tm, .int .i64 tl] 27 (0, 0)) by rw [← hw3]; have h := heap_alloc_new (w1.alloc (.cells #[.int .i64 p.n, .int .i64 p.b, .int .i64 p.q, .int .i64 p.eps, .int .i64 p.f] 23)) (.cells #[.int .u8 tb, .int .u8 ta, .int .u8 ty, .int .i64 tm, .int .i64 tl] 27); rw [World.size_alloc] at h; exact h)
    rw [hw3]
    obtain ⟨rb, h0⟩ : ∃ x, w1.heap.size = x := ⟨_, rfl⟩
    rw [h0] at HP3 HT3 ⊢
    obtain ⟨qb, h1⟩ : ∃ x, rb + 1 = x := ⟨_, rfl⟩
    rw [h1] at HT3 ⊢
    clear hw3 h0 h1
    have HK3 := hid ((((Keeps.refl NoB w).alloc _).fresh HK1.out).fresh HK13.out)
    clear b0 b1 b2 b3 b4 b5 b6 b7 b8 b9 b10 b11 hlt hbx HC12 HK13
    have HC5 := hid (fun (W : World) (hW : Keeps NoB w3 W) => cells5 (hW.heap HP3.out (fun h => h)))
    have HT5 := hid (fun (W : World) (hW : Keeps NoB w3 W) => cells5 (hW.heap HT3.out (fun h => h)))
    have HS3 := hid (show rb < w3.heap.size ∧ qb < w3.heap.size from ⟨lt_of_heap HP3.out, lt_of_heap HT3.out⟩)
    have hbig := hid (fun (W : World) => big13_calls p W)
    have hmay := hid (fun (W : World) => may_calls p W)
    unfold Par.val at hbig hmay
    obtain ⟨r0, r1, r2, r3, r4⟩ := HC5.out w3 (Keeps.refl _ _)
    by_cases hbg : bigN p = true
    · rw [hbg] at hbig
      clear hbg
      go_wp2_with fail
      refine (hbig.out _).mono ?_
      rintro e w4 ⟨rfl, HK4⟩
      have HK4 := hid HK4
      go_wp2_with fail
      go_ret
      exact ⟨rfl, HK3.out.fresh HK4.out⟩
    · have hbg : bigN p = false := by simpa using hbg
      rw [hbg] at hbig
      have HB60 := hid (bigN_no' hbg)
      clear hbg
      by_cases hm : p.may
      · rw [mayB_true hm] at hmay
        obtain ⟨N, B0, e1, e2, e3, e4, e5, e6, e7, e8, hNB, hNB2⟩ := par_sizes hm
        have hNBi : p.n * p.b = ((N * B0 : Nat) : Int) := hNB
        generalize N * B0 = Q at *
        clear e1 e2 e3 e4 e5 e6 e7 e8 hNB
        have m0 : (0 : Int) ≤ (Q : Int) := by omega
        have m1 : (Q : Int) ≤ 68718428160 := by omega
        have HW1 := hid (show wrap64 (Q : Int) = (Q : Int) from IntWalk.wrap64_in _ ⟨by omega, by omega⟩)
        by_cases hlg : Q < L
        · have d5 : decide ((Q : Int) < (L : Int)) = true := decide_eq_true (by omega)
          have d5n : decide (Q < L) = true := decide_eq_true hlg
          have hw1 := HW1.out
          clear hm hlg
          go_wp2_with fail
          refine (hbig.out _).mono ?_
          rintro e w4 ⟨rfl, HK4⟩
          have HK4 := hid HK4
          clear r0 r1 r2 r3 r4
          obtain ⟨r0, r1, r2, r3, r4⟩ := HC5.out w4 HK4.out
          go_wp2_with fail
          refine (hmay.out _).mono ?_
          rintro e w5 ⟨rfl, hk5⟩
          have HK5 := hid (HK4.out.fresh hk5)
          clear r0 r1 r2 r3 r4 hk5
          obtain ⟨r0, r1, r2, r3, r4⟩ := HC5.out w5 HK5.out
          go_wp2_with fail
          go_ret
          exact ⟨rfl, HK3.out.fresh HK5.out⟩
        · have d5 : decide ((Q : Int) < (L : Int)) = false := decide_eq_false (by omega)
          have d5n : decide (Q < L) = false := decide_eq_false hlg
          have HRC := hid (fun (W : World) (hW : Keeps NoB w3 W) => rcomp_calls p session obj A c (fun _ => True) W hm hs (HO.out.kept (HK3.out.fresh hW)) HB60.out.1)
          rw [HL.out] at HRC
          unfold Par.val at HRC
          have HCF := hid (comp_fitB hm session obj)
          have HCL := hid (compN_length p session obj)
          have HMY := hid hm
          obtain ⟨B, hB⟩ : ∃ B, p.b.toNat = B := ⟨_, rfl⟩
          have HBB := hid (show p.b = (B : Int) by have := hm.2.2.1; omega)
          have hB1 : 1 ≤ B := by have := hm.2.2.1; omega
          have hB2 : B ≤ 60 := by have := HB60.out; omega
          rw [hB] at HCF
          have HN1 := hid (show 1 ≤ p.n ∧ p.n ≤ 60 from ⟨hm.1, HB60.out.1⟩)
          have hax := auxN_bounds hm
          obtain ⟨m, hmm⟩ : ∃ m, (compN p session obj).length = m := ⟨_, rfl⟩
          have HMM := hid hmm
          have hm1 : 1 ≤ m := by have := HCL.out; have := HN1.out; omega
          have hm2 : m ≤ 6000000 := by have := HCL.out; have := HN1.out; omega
          obtain ⟨comp, hcomp⟩ : ∃ x, compN p session obj = x := ⟨_, rfl⟩
          have HCOMP := hid hcomp
          rw [hcomp] at HRC HCF HMM HCL
          obtain ⟨kk, hkk⟩ : ∃ k : Nat, tb.toNat % m = k := ⟨_, rfl⟩
          have hkm : kk < m := by rw [← hkk]; exact Nat.mod_lt _ (by omega)
          have hk1 : tb.tmod (m : Int) = (kk : Int) := by rw [← hkk, Int.natCast_emod, Int.tmod_eq_emod_of_nonneg HTB.out.1]; congr 1; have := HTB.out; omega
          obtain ⟨ja, hja⟩ : ∃ k : Nat, ta.toNat % B = k := ⟨_, rfl⟩
          have hjb : ja < B := by rw [← hja]; exact Nat.mod_lt _ (by omega)
          have hj1 : ta.tmod p.b = (ja : Int) := by rw [← hja, Int.natCast_emod, HBB.out, Int.tmod_eq_emod_of_nonneg HTA.out.1]; congr 1; have := HTA.out; omega
          obtain ⟨yb, hyb⟩ : ∃ y : UInt8, ty = (y.toNat : Int) := ⟨UInt8.ofNat ty.toNat, by have := HTY.out; rw [UInt8.toNat_ofNat', Nat.mod_eq_of_lt (by omega)]; omega⟩
          subst hyb
          have hw1 := HW1.out
          clear hm hlg hB hmm hcomp hax hkk hja hNB2 hlen hcap
          go_wp2_with fail
          refine (hbig.out _).mono ?_
          rintro e w4 ⟨rfl, HK4⟩
          have HK4 := hid HK4
          clear r0 r1 r2 r3 r4
          obtain ⟨r0, r1, r2, r3, r4⟩ := HC5.out w4 HK4.out
          go_wp2_with fail
          refine (hmay.out _).mono ?_
          rintro e w5 ⟨rfl, hk5⟩
          have HK5 := hid (HK4.out.fresh hk5)
          clear r0 r1 r2 r3 r4 hk5
          obtain ⟨r0, r1, r2, r3, r4⟩ := HC5.out w5 HK5.out
          go_wp2_with fail
          have HNBI := hid (show p.n * p.b = (Q : Int) ∧ (0 : Int) ≤ (Q : Int) ∧ (Q : Int) ≤ 68718428160 from ⟨hNBi, m0, m1⟩)
          clear hw1 m0 m1 d5 d5n hNBi
          refine (HRC.out w5 HK5.out).mono ?_
          rintro e w6 ⟨v6, rfl, ho6, hk6⟩
          obtain ⟨g7, c7, hv6⟩ := ho6.formB (by rw [HMM.out]; omega)
          rw [HMM.out] at hv6
          subst hv6
          have HK6 := hid (HK5.out.fresh hk6)
          have HK56 := hid hk6
          have HG7 := hid (ho6.base_le g7 rfl)
          have HC7 := hid (show m ≤ c7 by obtain ⟨Ax, cx, e, h, _⟩ := ho6.reads; injection e with e1 e2 e3; rw [HMM.out] at h; omega)
          obtain ⟨m', hm'⟩ : ∃ m', m = m' + 1 := ⟨m - 1, by omega⟩
          have HM' := hid hm'
          clear hm'
          have HO6 := hid ho6
          obtain ⟨us, A', c', hv', hus, hown, hrow⟩ := ho6.parts (n := m) HMM.out
          obtain ⟨u, hu'⟩ : ∃ u, us[kk]? = some u := ⟨_, List.getElem?_eq_getElem (by omega)⟩
          have hck := own_cell hown hu'
          obtain ⟨Bk, ck, rfl, hckl, hBk, hbk⟩ := hrow kk u hu'
          have hlk := fitB_at HCF.out kk (by rw [HMM.out]; exact hkm)
          have HLK := hid hlk
          rw [hlk] at hck hckl
          have HKA := hid ((Keeps.refl NoB w6).alloc (.cells #[] 5))
          have hOE := hid (OwnInts.empty w6 w6.heap.size .u8 5 (Nat.le_refl _))
          have HBK := hid (hbk.kept HKA.out)
          have HBK2 := hid hBk
          have hck' := HKA.out.cell hck (fun h => h)
          have hui := Try.underlying25
          obtain ⟨t0, t1, t2, t3, t4⟩ := HT5.out _ (HK6.out.fresh HKA.out)
          have htb0 : 0 ≤ tb := HTB.out.1
          have htb1 : tb ≤ 255 := by have := HTB.out.2; omega
          have hkm2 : (kk : Int) < (m : Int) := by omega
          have hkm0 : (0 : Int) ≤ (kk : Int) := by omega
          have hmz : ¬ ((m : Int) = 0) := by omega
          clear r0 r1 r2 r3 r4 hk6 ho6 hv' hown hrow hbk hBk hlk hu' hus hck
          go_wp2_with (at_builtin; go_must (refine wpList_appB _ rfl _ _ 25 rfl w6.heap.size hui _ [] rfl hOE.out Bk B ck (gr comp kk) rfl HLK.out HBK2.out HBK.out 0 rfl (by omega) (by simp) ?_); intro v8 w8 hown8 hgr8)
          have HK8 := hid (HKA.out.grown hgr8 (fun i e hlt => by have e : some i = some w6.heap.size := e; have e := Option.some.inj e; omega))
          have HOW := hid (show OwnB w8 w6.heap.size v8 (gr comp kk) from hown8)
          obtain ⟨g8, c8, hf8⟩ := OwnInts.form HOW.out (by rw [enc8_length, HLK.out]; omega)
          rw [enc8_length, HLK.out] at hf8
          subst hf8
          have HK68 := hid (HK6.out.fresh HK8.out)
          have hcg := OwnInts.cell HOW.out (j := ja) (by rw [enc8_length, HLK.out]; omega)
          rw [gi_enc8 _ ja (by rw [HLK.out]; omega)] at hcg
          obtain ⟨x0, hx0⟩ : ∃ x, gb (gr comp kk) ja = x := ⟨_, rfl⟩
          have HX0 := hid hx0
          rw [hx0] at hcg
          have HCX := hid (fun (W : World) (hW : Keeps NoB w8 W) => hW.cell hcg (fun h => h))
          have HG8 := hid (OwnInts.base_le HOW.out g8 rfl)
          have hxb := xor_byte x0 yb
          obtain ⟨zx, hzx⟩ : ∃ z, x0 ^^^ yb = z := ⟨_, rfl⟩
          have HZX := hid hzx
          rw [hzx] at hxb
          have hwt : IntKind.i64.wrap ta = ta := IntWalk.i64_in _ (by have := HTA.out; omega)
          have hta0 : 0 ≤ ta := HTA.out.1
          have hta1 : ta ≤ 255 := by have := HTA.out.2; omega
          have hpb0 : ¬ (p.b = 0) := by have := HBB.out; omega
          have hja0 : (0 : Int) ≤ (ja : Int) := by omega
          have hja1 : (ja : Int) < (B : Int) := by omega
          have HKd := hid ((Keeps.refl NoB w8).drew)
          clear t0 t1 t2 t3 t4 hown8 hgr8 hcg hx0 hck' hOE hzx
          refine wp_region_tail 13 [([], [55], []), ([], [56], []), ([1], [57], [56]), ([1, 2], [58], [56, 57]), ([], [59], []), ([4], [60], [59]), ([1, 2, 3, 4, 5], [61], [56, 57, 58, 59, 60]), ([0, 1, 2, 3, 4, 5, 6], [62], [55, 56, 57, 58, 59, 60, 61]), ([0, 1, 2, 3, 4, 5, 6, 7], [63], [55, 56, 57, 58, 59, 60, 61, 62]), ([], [64], []), ([9], [65], [64]), ([0, 1, 2, 3, 4, 5, 6, 7, 8, 9, 10], [66], [55, 56, 57, 58, 59, 60, 61, 62, 63, 64, 65]), ([0, 1, 2, 3, 4, 5, 6, 7, 8, 9, 10, 11], [67], [55, 56, 57, 58, 59, 60, 61, 62, 63, 64, 65, 66]), ([0, 1, 2, 3, 4, 5, 6, 7, 8, 9, 10, 11, 12], [], [55, 56, 57, 58, 59, 60, 61, 62, 63, 64, 65, 66, 67])] [55, 56, 57, 58, 59, 60, 61, 62, 63, 64, 65, 66, 67] (Keeps NoB) (fun (i : Nat) => ([(fun rs__ U => (rs__.getD 0 undef) = Value.slice (some ⟨g8, 0, none⟩) B c8), (fun rs__ U => (rs__.getD 0 undef) = Value.pointer (some ⟨qb, 1, none⟩)), (fun rs__ U => (rs__.getD 0 undef) = Value.int .u8 ta), (fun rs__ U => (rs__.getD 0 undef) = Value.int .i64 ta), (fun rs__ U => (rs__.getD 0 undef) = Value.pointer (some ⟨rb, 1, none⟩)), (fun rs__ U => (rs__.getD 0 undef) = Value.int .i64 p.b), (fun rs__ U => (rs__.getD 0 undef) = Value.int .i64 (ja : Int)), (fun rs__ U => (rs__.getD 0 undef) = Value.pointer (some ⟨g8, ja, none⟩)), (fun rs__ U => (rs__.getD 0 undef) = Value.int .u8 (x0.toNat : Int)), (fun rs__ U => (rs__.getD 0 undef) = Value.pointer (some ⟨qb, 2, none⟩)), (fun rs__ U => (rs__.getD 0 undef) = Value.int .u8 (yb.toNat : Int)), (fun rs__ U => (rs__.getD 0 undef) = Value.int .u8 (zx.toNat : Int)), (fun rs__ U => (rs__.getD 0 undef) = Value.pointer (some ⟨g8, ja, none⟩)), (fun _ _ => True)] : List (List Value → World → Prop)).getD i (fun _ _ => True)) (by kernel_rfl) (by kernel_rfl) (by kernel_rfl) (by kernel_rfl) (fun _ _ _ h1 h2 => h1.fresh h2) (fun _ => Keeps.refl _ _) (RL.cons ?s0 (RL.cons ?s1 (RL.cons ?s2 (RL.cons ?s3 (RL.cons ?s4 (RL.cons ?s5 (RL.cons ?s6 (RL.cons ?s7 (RL.cons ?s8 (RL.cons ?s9 (RL.cons ?s10 (RL.cons ?s11 (RL.cons ?s12 (RL.nil _ _)))))))))))))) ?fin
          case s0 =>
            intro V wx hE hd
            clear hd
            intro K hK
            simp only [rput, List.foldl_cons, List.foldl_nil, Act.put, List.setIfInBounds_toArray, List.set_cons_zero, List.set_cons_succ]
            go_simp; (with_reducible refine hK.out _ _ ?_ ?_); exact rfl; exact ⟨Keeps.refl _ _, rfl⟩
          case s1 =>
            intro V wx hE hd
            clear hd
            intro K hK
            simp only [rput, List.foldl_cons, List.foldl_nil, Act.put, List.setIfInBounds_toArray, List.set_cons_zero, List.set_cons_succ]
            go_simp; (with_reducible refine hK.out _ _ ?_ ?_); exact rfl; exact ⟨Keeps.refl _ _, rfl⟩
          case s2 =>
            intro V wx hE hd
            obtain ⟨u1, hb1, hu1, p1⟩ : ∃ U, Keeps NoB w8.drew U ∧ Keeps NoB U wx ∧ ((V 56) = Value.pointer (some ⟨qb, 1, none⟩)) := hd 1 (by decide)
            clear hd
            clear hb1 hu1
            intro K hK
            simp only [rput, List.foldl_cons, List.foldl_nil, Act.put, List.setIfInBounds_toArray, List.set_cons_zero, List.set_cons_succ, p1]
            obtain ⟨t0, t1, t2, t3, t4⟩ := HT5.out wx (HK68.out.fresh (HKd.out.fresh hE)); go_simp; (with_reducible refine hK.out _ _ ?_ ?_); exact rfl; exact ⟨Keeps.refl _ _, rfl⟩
          case s3 =>
            intro V wx hE hd
            obtain ⟨u2, hb2, hu2, p2⟩ : ∃ U, Keeps NoB w8.drew U ∧ Keeps NoB U wx ∧ ((V 57) = Value.int .u8 ta) := hd 2 (by decide)
            clear hd
            clear hb2 hu2
            intro K hK
            simp only [rput, List.foldl_cons, List.foldl_nil, Act.put, List.setIfInBounds_toArray, List.set_cons_zero, List.set_cons_succ, p2]
            go_simp; (with_reducible refine hK.out _ _ ?_ ?_); exact rfl; exact ⟨Keeps.refl _ _, rfl⟩
          case s4 =>
            intro V wx hE hd
            clear hd
            intro K hK
            simp only [rput, List.foldl_cons, List.foldl_nil, Act.put, List.setIfInBounds_toArray, List.set_cons_zero, List.set_cons_succ]
            go_simp; (with_reducible refine hK.out _ _ ?_ ?_); exact rfl; exact ⟨Keeps.refl _ _, rfl⟩
          case s5 =>
            intro V wx hE hd
            obtain ⟨u4, hb4, hu4, p4⟩ : ∃ U, Keeps NoB w8.drew U ∧ Keeps NoB U wx ∧ ((V 59) = Value.pointer (some ⟨rb, 1, none⟩)) := hd 4 (by decide)
            clear hd
            clear hb4 hu4
            intro K hK
            simp only [rput, List.foldl_cons, List.foldl_nil, Act.put, List.setIfInBounds_toArray, List.set_cons_zero, List.set_cons_succ, p4]
            obtain ⟨r0, r1, r2, r3, r4⟩ := HC5.out wx (HK68.out.fresh (HKd.out.fresh hE)); go_simp; (with_reducible refine hK.out _ _ ?_ ?_); exact rfl; exact ⟨Keeps.refl _ _, rfl⟩
          case s6 =>
            intro V wx hE hd
            obtain ⟨u3, hb3, hu3, p3⟩ : ∃ U, Keeps NoB w8.drew U ∧ Keeps NoB U wx ∧ ((V 58) = Value.int .i64 ta) := hd 3 (by decide)
            obtain ⟨u5, hb5, hu5, p5⟩ : ∃ U, Keeps NoB w8.drew U ∧ Keeps NoB U wx ∧ ((V 60) = Value.int .i64 p.b) := hd 5 (by decide)
            clear hd
            clear hb3 hu3
            clear hb5 hu5
            intro K hK
            simp only [rput, List.foldl_cons, List.foldl_nil, Act.put, List.setIfInBounds_toArray, List.set_cons_zero, List.set_cons_succ, p3, p5]
            go_simp; (with_reducible refine hK.out _ _ ?_ ?_); exact rfl; exact ⟨Keeps.refl _ _, rfl⟩
          case s7 =>
            intro V wx hE hd
            obtain ⟨u0, hb0, hu0, p0⟩ : ∃ U, Keeps NoB w8.drew U ∧ Keeps NoB U wx ∧ ((V 55) = Value.slice (some ⟨g8, 0, none⟩) B c8) := hd 0 (by decide)
            obtain ⟨u6, hb6, hu6, p6⟩ : ∃ U, Keeps NoB w8.drew U ∧ Keeps NoB U wx ∧ ((V 61) = Value.int .i64 (ja : Int)) := hd 6 (by decide)
            clear hd
            clear hb0 hu0
            clear hb6 hu6
            intro K hK
            simp only [rput, List.foldl_cons, List.foldl_nil, Act.put, List.setIfInBounds_toArray, List.set_cons_zero, List.set_cons_succ, p0, p6]
            go_simp; (with_reducible refine hK.out _ _ ?_ ?_); exact rfl; exact ⟨Keeps.refl _ _, rfl⟩
          case s8 =>
            intro V wx hE hd
            obtain ⟨u7, hb7, hu7, p7⟩ : ∃ U, Keeps NoB w8.drew U ∧ Keeps NoB U wx ∧ ((V 62) = Value.pointer (some ⟨g8, ja, none⟩)) := hd 7 (by decide)
            clear hd
            clear hb7 hu7
            intro K hK
            simp only [rput, List.foldl_cons, List.foldl_nil, Act.put, List.setIfInBounds_toArray, List.set_cons_zero, List.set_cons_succ, p7]
            have hcx := HCX.out wx (HKd.out.fresh hE); go_simp; (with_reducible refine hK.out _ _ ?_ ?_); exact rfl; exact ⟨Keeps.refl _ _, rfl⟩
          case s9 =>
            intro V wx hE hd
            clear hd
            intro K hK
            simp only [rput, List.foldl_cons, List.foldl_nil, Act.put, List.setIfInBounds_toArray, List.set_cons_zero, List.set_cons_succ]
            go_simp; (with_reducible refine hK.out _ _ ?_ ?_); exact rfl; exact ⟨Keeps.refl _ _, rfl⟩
          case s10 =>
            intro V wx hE hd
            obtain ⟨u9, hb9, hu9, p9⟩ : ∃ U, Keeps NoB w8.drew U ∧ Keeps NoB U wx ∧ ((V 64) = Value.pointer (some ⟨qb, 2, none⟩)) := hd 9 (by decide)
            clear hd
            clear hb9 hu9
            intro K hK
            simp only [rput, List.foldl_cons, List.foldl_nil, Act.put, List.setIfInBounds_toArray, List.set_cons_zero, List.set_cons_succ, p9]
            obtain ⟨t0, t1, t2, t3, t4⟩ := HT5.out wx (HK68.out.fresh (HKd.out.fresh hE)); go_simp; (with_reducible refine hK.out _ _ ?_ ?_); exact rfl; exact ⟨Keeps.refl _ _, rfl⟩
          case s11 =>
            intro V wx hE hd
            obtain ⟨u8, hb8, hu8, p8⟩ : ∃ U, Keeps NoB w8.drew U ∧ Keeps NoB U wx ∧ ((V 63) = Value.int .u8 (x0.toNat : Int)) := hd 8 (by decide)
            obtain ⟨u10, hb10, hu10, p10⟩ : ∃ U, Keeps NoB w8.drew U ∧ Keeps NoB U wx ∧ ((V 65) = Value.int .u8 (yb.toNat : Int)) := hd 10 (by decide)
            clear hd
            clear hb8 hu8
            clear hb10 hu10
            intro K hK
            simp only [rput, List.foldl_cons, List.foldl_nil, Act.put, List.setIfInBounds_toArray, List.set_cons_zero, List.set_cons_succ, p8, p10]
            go_simp; (with_reducible refine hK.out _ _ ?_ ?_); exact rfl; exact ⟨Keeps.refl _ _, rfl⟩
          case s12 =>
            intro V wx hE hd
            obtain ⟨u0, hb0, hu0, p0⟩ : ∃ U, Keeps NoB w8.drew U ∧ Keeps NoB U wx ∧ ((V 55) = Value.slice (some ⟨g8, 0, none⟩) B c8) := hd 0 (by decide)
            obtain ⟨u6, hb6, hu6, p6⟩ : ∃ U, Keeps NoB w8.drew U ∧ Keeps NoB U wx ∧ ((V 61) = Value.int .i64 (ja : Int)) := hd 6 (by decide)
            clear hd
            clear hb0 hu0
            clear hb6 hu6
            intro K hK
            simp only [rput, List.foldl_cons, List.foldl_nil, Act.put, List.setIfInBounds_toArray, List.set_cons_zero, List.set_cons_succ, p0, p6]
            go_simp; (with_reducible refine hK.out _ _ ?_ ?_); exact rfl; exact ⟨Keeps.refl _ _, rfl⟩
          case fin =>
            intro V wz hE hd
            obtain ⟨u11, hb11, hu11, p11⟩ : ∃ U, Keeps NoB w8.drew U ∧ Keeps NoB U wz ∧ ((V 66) = Value.int .u8 (zx.toNat : Int)) := hd 11 (by decide)
            obtain ⟨u12, hb12, hu12, p12⟩ : ∃ U, Keeps NoB w8.drew U ∧ Keeps NoB U wz ∧ ((V 67) = Value.pointer (some ⟨g8, ja, none⟩)) := hd 12 (by decide)
            clear hd
            clear hb11 hu11
            clear hb12 hu12
            simp only [rput, List.foldl_cons, List.foldl_nil, Act.put, List.setIfInBounds_toArray, List.set_cons_zero, List.set_cons_succ, List.drop_succ_cons, List.drop_zero, p11, p12]
            clear p11
            clear p12
            have HKz := hid (HKd.out.fresh hE)
            have HOZ := hid (OwnInts.kept HOW.out HKz.out)
            have hcx := HCX.out wz HKz.out
            have hfz := OwnInts.free HOZ.out ja
            have HNX := hid (show OwnB (wz.setCell ⟨g8, ja, none⟩ (.int .u8 (zx.toNat : Int))) w6.heap.size (.slice (some ⟨g8, 0, none⟩) B c8) (turnB (gr comp kk) ja yb) by
              have h := OwnInts.set HOZ.out (j := ja) (by rw [enc8_length, HLK.out]; omega) (zx.toNat : Int)
              rw [enc8_set] at h
              unfold turnB
              rw [HX0.out, HZX.out]
              exact h)
            have HK6s := hid ((HK8.out.fresh HKz.out).setCell (p := ⟨g8, ja, none⟩) (fun h => absurd h (by show ¬ g8 < _; have := HG8.out.1; omega)) (.int .u8 (zx.toNat : Int)))
            have HT9 := hid (HT5.out _ (HK6.out.fresh HK6s.out))
            have HO9 := hid (HO6.out.kept HK6s.out)
            obtain ⟨t0, t1, t2, t3, t4⟩ := HT9.out
            obtain ⟨us9, A9, c9, hv9, hus9, hown9, hrow9⟩ := HO9.out.parts (n := m) HMM.out
            obtain ⟨u9, hu9'⟩ : ∃ u, us9[kk]? = some u := ⟨_, List.getElem?_eq_getElem (by omega)⟩
            have hc9 := own_cell hown9 hu9'
            have hf9 := own_free hown9 kk
            clear hv9 hus9 hown9 hrow9 hu9'
            have HK5t := hid ((HK56.out.fresh HK6s.out).setCell (p := ⟨g7, kk, none⟩) (fun h => absurd h (by show ¬ g7 < _; have := HG7.out.1; omega)) (.slice (some ⟨g8, 0, none⟩) B c8))
            have HOT := hid (OwnRows.set HO9.out (j := kk) (u := .slice (some ⟨g8, 0, none⟩) B c8) (l := turnB (gr comp kk) ja yb) (by rw [HMM.out]; exact hkm) ((OwnB.row HNX.out).mono (fun b _ hb => by
              have e : g8 = b := by simpa [Value.ownBlock] using hb
              have h1 := HG8.out.1
              have h2 := HG7.out
              have h3 := HK56.out.size
              refine ⟨?_, ?_⟩
              · show w5.heap.size ≤ b; omega
              · show b ≠ g7; omega)))
            obtain ⟨q0, q1, q2, q3, q4⟩ := HT5.out _ (HK5.out.fresh HK5t.out)
            obtain ⟨r0, r1, r2, r3, r4⟩ := HC5.out _ (HK5.out.fresh HK5t.out)
            by_cases hneg : tm < 0
            · have dn : decide (tm < 0) = true := decide_eq_true hneg
              have hne : (tm == 0) = false := by simp; omega
              have hne2 : decide (tm = 0) = false := decide_eq_false (by omega)
              have HRB := hid (show rightB p session tl ((turnR comp kk (turnB (gr comp kk) ja yb)).take m') = false by
                have h := right_more HMY.out session obj kk (turnB (gr comp kk) ja yb) tm tl (by omega)
                rw [HCOMP.out] at h
                unfold moreR at h
                rw [if_pos hneg, turnR_length, HMM.out] at h
                rwa [show m - 1 = m' by have := HM'.out; omega] at h)
              obtain ⟨Ar, cr, er, _, _, hrr⟩ := HOT.out.reads
              injection er with er1 er2 er3
              subst er1
              have hlm : ((turnR comp kk (turnB (gr comp kk) ja yb)).take m').length = m' := by rw [List.length_take, turnR_length, HMM.out]; have := HM'.out; omega
              have HRT := hid (right_calls p session tl ((turnR comp kk (turnB (gr comp kk) ja yb)).take m') (some ⟨g7, 0, none⟩) c7 _ _ HWF.out hs HTL.out.1 HTL.out.2 (hrr.take m') (by rw [hlm]; have := HM'.out; have := HC7.out; omega) (fun e => by cases e))
              rw [hlm, HRB.out] at HRT
              unfold Par.val at HRT
              have e0 : (m : Int) - 1 = (m' : Int) := by have := HM'.out; omega
              have e1 : (0 : Int) ≤ (m' : Int) := by omega
              have e2 : (m' : Int) ≤ (c7 : Int) := by have := HM'.out; have := HC7.out; omega
              clear hneg hlm hrr er2 er3
              go_wp2_with fail
              refine HRT.out.mono ?_
              rintro e w9 ⟨rfl, hk9⟩
              have HK9 := hid ((HK3.out.fresh (HK5.out.fresh HK5t.out)).fresh hk9)
              clear hk9
              go_wp2_with fail
              go_ret
              exact ⟨rfl, HK9.out⟩
            · have dn : decide (tm < 0) = false := decide_eq_false hneg
              by_cases hpos : 0 < tm
              · have dp : decide (0 < tm) = true := decide_eq_true hpos
                have hne : (tm == 0) = false := by simp; omega
                have hne2 : decide (tm = 0) = false := decide_eq_false (by omega)
                have hus := Try.underlying32
                have HRB := hid (show rightB p session tl (turnR comp kk (turnB (gr comp kk) ja yb) ++ [(turnB (gr comp kk) ja yb)]) = false by
                  have h := right_more HMY.out session obj kk (turnB (gr comp kk) ja yb) tm tl (by omega)
                  rw [HCOMP.out] at h
                  unfold moreR at h
                  rw [if_neg hneg, if_pos hpos] at h
                  exact h)
                have HKA2 := hid ((Keeps.refl NoB ((wz.setCell ⟨g8, ja, none⟩ (.int .u8 (zx.toNat : Int))).setCell ⟨g7, kk, none⟩ (.slice (some ⟨g8, 0, none⟩) B c8))).alloc (.cells #[.slice (some ⟨g8, 0, none⟩) B c8] 25))
                have HC1 := hid (show (World.alloc ((wz.setCell ⟨g8, ja, none⟩ (.int .u8 (zx.toNat : Int))).setCell ⟨g7, kk, none⟩ (.slice (some ⟨g8, 0, none⟩) B c8)) (.cells #[.slice (some ⟨g8, 0, none⟩) B c8] 25)).cell? ⟨wz.heap.size, 0, none⟩ = some (.slice (some ⟨g8, 0, none⟩) B c8) by
                  have h := cell_one ((wz.setCell ⟨g8, ja, none⟩ (.int .u8 (zx.toNat : Int))).setCell ⟨g7, kk, none⟩ (.slice (some ⟨g8, 0, none⟩) B c8)) (.slice (some ⟨g8, 0, none⟩) B c8) 25
                  simpa using h)
                have HRX := hid (show RowIn (fun b => w5.heap.size ≤ b ∧ (Value.slice (some ⟨g7, 0, none⟩) m c7).ownBlock ≠ some b) (World.alloc ((wz.setCell ⟨g8, ja, none⟩ (.int .u8 (zx.toNat : Int))).setCell ⟨g7, kk, none⟩ (.slice (some ⟨g8, 0, none⟩) B c8)) (.cells #[.slice (some ⟨g8, 0, none⟩) B c8] 25)) (.slice (some ⟨g8, 0, none⟩) B c8) (turnB (gr comp kk) ja yb) by
                  have h1 := HG8.out.1
                  have h2 := HG7.out
                  have h3 := HK56.out.size
                  have hr := OwnB.row HNX.out
                  have hr2 := hr.keeps (Keeps.one (wz.setCell ⟨g8, ja, none⟩ (.int .u8 (zx.toNat : Int))) g7 kk (.slice (some ⟨g8, 0, none⟩) B c8)) (fun b hb e => by
                    have e1 : g8 = b := by simpa [Value.ownBlock] using hb
                    have e2 : b = g7 := e
                    omega)
                  refine (hr2.keeps HKA2.out (fun _ _ h => h)).mono (fun b _ hb => ?_)
                  have e1 : g8 = b := by simpa [Value.ownBlock] using hb
                  refine ⟨by omega, fun e => ?_⟩
                  have e2 : g7 = b := by simpa [Value.ownBlock] using e
                  omega)
                have hbs : w5.heap.size ≤ (World.alloc ((wz.setCell ⟨g8, ja, none⟩ (.int .u8 (zx.toNat : Int))).setCell ⟨g7, kk, none⟩ (.slice (some ⟨g8, 0, none⟩) B c8)) (.cells #[.slice (some ⟨g8, 0, none⟩) B c8] 25)).heap.size := (HK5t.out.fresh HKA2.out).size
                have hll : (turnR comp kk (turnB (gr comp kk) ja yb)).length = m := by rw [turnR_length, HMM.out]
                clear hneg hpos
                go_wp2_with (at_builtin; go_must (refine wpList_app1RowB rfl _ _ 32 (fun b => w5.heap.size ≤ b) rfl w5.heap.size hus _ (turnR comp kk (turnB (gr comp kk) ja yb)) rfl (HOT.out.kept HKA2.out) wz.heap.size _ (.slice (some ⟨g8, 0, none⟩) B c8) (turnB (gr comp kk) ja yb) rfl HC1.out HRX.out (by rw [hll]; omega) hbs ?_); intro v9 w9 hown9 hgr9 hat9; have HK9 := hid ((HK5t.out.fresh HKA2.out).grown hgr9 (fun i e hi => by have e1 : some i = some g7 := e; have e2 := Option.some.inj e1; have := HG7.out.1; omega)); obtain ⟨q0, q1, q2, q3, q4⟩ := HT5.out w9 (HK5.out.fresh HK9.out); obtain ⟨r0, r1, r2, r3, r4⟩ := HC5.out w9 (HK5.out.fresh HK9.out); obtain ⟨Ar, cr, er, hcr, hAr, hrr⟩ := hown9.reads; rw [List.length_append, hll] at er hcr; simp only [List.length_singleton] at er hcr; subst er; have HRR := hid hrr; clear hown9 hgr9 hat9 hrr)
                have HRT := hid (right_calls p session tl (turnR comp kk (turnB (gr comp kk) ja yb) ++ [(turnB (gr comp kk) ja yb)]) Ar cr _ w9 HWF.out hs HTL.out.1 HTL.out.2 HRR.out (by rw [List.length_append, hll]; simp only [List.length_singleton]; exact hcr) hAr)
                rw [List.length_append, hll, HRB.out] at HRT
                simp only [List.length_singleton] at HRT
                unfold Par.val at HRT
                refine HRT.out.mono ?_
                rintro e w10 ⟨rfl, hk10⟩
                have HK10 := hid ((HK3.out.fresh (HK5.out.fresh HK9.out)).fresh hk10)
                clear hk10
                go_wp2_with fail
                go_ret
                exact ⟨rfl, HK10.out⟩
              · have dp : decide (0 < tm) = false := decide_eq_false hpos
                obtain rfl : tm = 0 := by omega
                clear hneg hpos
                have hll : (turnR comp kk (turnB (gr comp kk) ja yb)).length = m := by rw [turnR_length, HMM.out]
                have HBT := hid (show p.b.toNat = B by have := HBB.out; omega)
                have HTF := hid (show fitB B (turnR comp kk (turnB (gr comp kk) ja yb)) = true by
                  have h := turn_fitB HMY.out session obj kk (turnB (gr comp kk) ja yb) (by rw [turnB_length, HLK.out, HBT.out])
                  rwa [HCOMP.out, HBT.out] at h)
                have HRS := hid (right_same HMY.out session tl (turnR comp kk (turnB (gr comp kk) ja yb)) (by rw [turnR_length]; exact HCL.out) (by rw [HBT.out]; exact HTF.out))
                rw [HNBI.out.1] at HRS
                obtain ⟨Ar, cr, er, _, _, hrr⟩ := HOT.out.reads
                injection er with er1 er2 er3
                subst er1
                have HRR := hid hrr
                have HRT := hid (right_calls p session tl (turnR comp kk (turnB (gr comp kk) ja yb)) (some ⟨g7, 0, none⟩) c7 _ _ HWF.out hs HTL.out.1 HTL.out.2 hrr (by rw [hll]; exact HC7.out) (fun e => by cases e))
                unfold Par.val at HRT
                have HSS := hid hs
                clear hs hrr er2 er3
                go_upto_region 14 with fail
                clear hkm hjb dn dp hxb hwt hta0 hta1 hpb0 hja0 hja1 hk1 hj1 htb0 htb1 hkm0 hkm2 hmz hc9 hf9 t0 t1 t2 t3 t4 hm1 hm2 hB1 hB2
                have hNBi := HNBI.out.1
                have m0 := HNBI.out.2.1
                have m1 := HNBI.out.2.2
                have hw1 := HW1.out
                generalize (wz.setCell ⟨g8, ja, none⟩ (.int .u8 (zx.toNat : Int))).setCell ⟨g7, kk, none⟩ (.slice (some ⟨g8, 0, none⟩) B c8) = wt at *
                by_cases h0 : 0 ≤ tl
                · have dt0 : decide (0 ≤ tl) = true := decide_eq_true h0
                  by_cases h1 : tl ≤ (Q : Int)
                  · have dt1 : decide (tl ≤ (Q : Int)) = true := decide_eq_true h1
                    rw [dt0, dt1] at HRS
                    clear HRT
                    have HM1B := hid (show 1 ≤ B by have := HBB.out; have := HMY.out.2.2.1; omega)
                    obtain ⟨tn, htn⟩ : ∃ tn : Nat, tl = (tn : Int) := ⟨tl.toNat, by omega⟩
                    have HTN := hid htn
                    have HTQ := hid (show tn ≤ Q by omega)
                    obtain ⟨T, hT⟩ : ∃ T, turnR comp kk (turnB (gr comp kk) ja yb) = T := ⟨_, rfl⟩
                    rw [hT] at HRS HTF hll
                    have HRR := hid (show RowsIn (fun b => w5.heap.size ≤ b ∨ (Value.slice (some ⟨g7, 0, none⟩) m c7).ownBlock = some b) wt (some ⟨g7, 0, none⟩) T by rw [← hT]; exact HRR.out)
                    have HTL2 := hid hll
                    obtain ⟨N, hN⟩ : ∃ N, p.n.toNat = N := ⟨_, rfl⟩
                    have HPN := hid (show p.n = (N : Int) by have := HN1.out; omega)
                    have HN60 := hid (show 1 ≤ N ∧ N ≤ 60 by have := HN1.out; omega)
                    have HBB60 := hid (show B ≤ 60 by have := HB60.out; have := HBB.out; omega)
                    have HNM := hid (show N ≤ m by have := HCL.out; have := HMM.out; omega)
                    have HB1Q := hid (show 1 ≤ N * B from Nat.mul_pos (by have := HN60.out; omega) (by have := HM1B.out; omega))
                    have HBQ := hid (show N * B = Q by
                      have h1 := HNBI.out.1
                      rw [HPN.out, HBB.out] at h1
                      exact_mod_cast h1)
                    rw [hN] at HRS
                    have HFLT := hid (fun (k : Nat) (hk : k < N) => show (T.take (k + 1)).flatten = (T.take k).flatten ++ gr T k from flat_take T k (by have := HNM.out; have := HTL2.out; omega))
                    have HFLN := hid (fun (k : Nat) (hk : k ≤ N) => show (T.take k).flatten.length = k * B from flat_len HTF.out k (by have := HNM.out; have := HTL2.out; omega))
                    have HGL := hid (fun (k : Nat) (hk : k < N) => fitB_at HTF.out k (by have := HNM.out; have := HTL2.out; omega))
                    have HRT2 := hid (fun (W : World) (hW : Keeps NoB wt W) => right_calls p session tl T (some ⟨g7, 0, none⟩) c7 _ W HWF.out HSS.out HTL.out.1 HTL.out.2 (HRR.out.kept hW) (by rw [HTL2.out]; exact HC7.out) (fun e => by cases e))
                    rw [HTL2.out] at HRT2
                    unfold Par.val at HRT2
                    have HR5 := hid (show wt.cell? ⟨rb, 0, none⟩ = some (.int .i64 p.n) ∧ wt.cell? ⟨rb, 1, none⟩ = some (.int .i64 p.b) ∧ wt.cell? ⟨rb, 2, none⟩ = some (.int .i64 p.q) ∧ wt.cell? ⟨rb, 3, none⟩ = some (.int .i64 p.eps) ∧ wt.cell? ⟨rb, 4, none⟩ = some (.int .i64 p.f) from ⟨r0, r1, r2, r3, r4⟩)
                    have HQ5 := hid q4
                    go_upto_region 16 with fail
                    have hpn := HPN.out
                    have s0 : (0 : Int) ≤ (N : Int) := by omega
                    have s1 : (N : Int) ≤ (c7 : Int) := by have := HNM.out; have := HC7.out; omega
                    have HKA9 := hid ((Keeps.refl NoB wt).alloc (.cells #[] 5))
                    have hui := Try.underlying25
                    have r0a := HKA9.out.cell r0 (fun h => h)
                    have HW := hid (OwnInts.empty wt wt.heap.size .u8 5 (Nat.le_refl _))
                    clear h0 h1 hN hT htn hll
                    go_wp2_with fail
                    clear hpn s0 s1 hNBi m0 m1 hw1 dt0 dt1 q0 q1 q2 q3 q4 r0 r0a r1 r2 r3 r4
                    go_loopw [10, 12, 119] (fun v10 v12 v119 wr => ∃ (k : Nat) (v : Value), k ≤ N ∧ v119 = .int .i64 (k : Int) ∧ v = v10 ∧ Hid (OwnB wr wt.heap.size v (T.take k).flatten) ∧ Hid (Keeps NoB wt wr)) (fun _ _ v119 _ => N - (intOf v119).toNat)
                    case atStart => exact ⟨0, _, Nat.zero_le _, rfl, rfl, hid HW.out, HKA9⟩
                    case round =>
                      obtain ⟨k, v, hk, rfl, rfl, HO9, HK9⟩ := hrel
                      by_cases hlt : k < N
                      · obtain ⟨b1, o1, e1, _, hc1⟩ := (HRR.out.kept HK9.out).2 (by have := HNM.out; rw [HTL2.out]; omega)
                        injection e1 with e1
                        injection e1 with e1 e2
                        subst e1 e2
                        obtain ⟨u1, k1, A1, d1, rfl, hcp1, hA1, hb1⟩ := hc1 k (by have := HNM.out; rw [HTL2.out]; omega)
                        have hgl := HGL.out k hlt
                        rw [hgl] at hcp1 k1
                        rw [Nat.zero_add] at k1
                        have hft := hid (HFLT.out k hlt)
                        have HHB := hid hb1
                        have HGLk := hid hgl
                        have hfn := HFLN.out k (by omega)
                        obtain ⟨kb, hkb⟩ : ∃ kb, k * B = kb := ⟨_, rfl⟩
                        have hkb2 : kb ≤ 3600 := by rw [← hkb]; exact Nat.mul_le_mul (show k ≤ 60 by have := HN60.out; omega) HBB60.out
                        rw [hkb] at hfn
                        have HFN := hid hfn
                        have hx0 : (0 : Int) ≤ (k : Int) := by omega
                        have hk60 : k ≤ 60 := by have := HN60.out; omega
                        have hx1 : (k : Int) < (N : Int) := by omega
                        have HKB := hid hkb2
                        have HA1 := hid hA1
                        have HSZ9 := hid (show wt.heap.size ≤ wr.heap.size from HK9.out.size)
                        have HBN := hid HBB60.out
                        clear hc1 hb1 hgl hfn hkb hkb2 hA1
                        go_wp2_with (at_builtin; go_must (refine wpList_appB _ rfl _ _ 25 rfl wt.heap.size hui v _ rfl HO9.out A1 B d1 (gr T k) rfl HGLk.out HA1.out HHB.out kb HFN.out (by have := HKB.out; have := HBN.out; omega) HSZ9.out ?_); intro v8 w8 hown8 hgr8; have HOW8 := hid hown8; have HK8 := hid (HK9.out.grown hgr8 (fun i e hlt => by have := OwnInts.base_le HO9.out i e.symm; omega)); clear hown8 hgr8)
                        go_roundw
                        case rel => exact ⟨v8, _, .int .i64 ((k + 1 : Nat) : Int), ⟨k + 1, by omega, rfl, hid (by rw [hft.out]; exact HOW8.out)⟩, rfl, rfl, by go_num⟩
                        case measure => simp [intOf]; omega
                      · obtain rfl : N = k := by omega
                        have hfn := HFLN.out N (Nat.le_refl _)
                        rw [HBQ.out] at hfn
                        have HFN := hid hfn
                        obtain ⟨g10, c10, hv10⟩ := OwnInts.form HO9.out (by rw [enc8_length, hfn]; have := HBQ.out; have := HN60.out; have := HBB.out; have := HB1Q.out; omega)
                        rw [enc8_length, hfn] at hv10
                        subst hv10
                        obtain ⟨A10, c10', e10, hcc10, _, hby10⟩ := OwnB.reads HO9.out
                        injection e10 with e10 e12 e11
                        subst e10 e11
                        clear e12
                        rw [hfn] at hcc10
                        have HBY := hid (hby10.take tn)
                        have HTL3 := hid (show ((T.take N).flatten.take tn).length = tn by rw [List.length_take, hfn]; have := HTQ.out; omega)
                        have HRCC := hid (fun (W : World) (hW : Keeps NoB wr W) => rcomp_calls p session ((T.take N).flatten.take tn) (some ⟨g10, 0, none⟩) c10 _ W HMY.out HSS.out (HBY.out.kept hW) HB60.out.1)
                        rw [HTL3.out] at HRCC
                        unfold Par.val at HRCC
                        have HCL3 := hid (compN_length p session ((T.take N).flatten.take tn))
                        have hml : (compN p session ((T.take N).flatten.take tn)).length = m := by rw [HCL3.out, ← HCL.out]; exact HMM.out
                        have HML := hid hml
                        have HRS2 := hid (show rightB p session tl T = sameB T (compN p session ((T.take N).flatten.take tn)) from by
                          rw [HRS.out, HTN.out, Int.toNat_natCast]; rfl)
                        have HSM := hid (fun (A2 : Option Addr) (c2 : Nat) (R2 : Nat → Prop) (W : World) (hW : Keeps NoB wr W) (h2 : RowsIn R2 W A2 (compN p session ((T.take N).flatten.take tn))) => same13_calls T (compN p session ((T.take N).flatten.take tn)) (some ⟨g7, 0, none⟩) A2 c7 c2 _ R2 W (HRR.out.kept (HK9.out.fresh hW)) h2)
                        rw [HTL2.out, hml] at HSM
                        have HR3 := hid (fun (W : World) (hW : Keeps NoB wr W) => HRT2.out W (HK9.out.fresh hW))
                        rw [HRS2.out] at HR3
                        generalize compN p session ((T.take N).flatten.take tn) = cmp2 at *
                        obtain ⟨bs, hbs⟩ : ∃ b, sameB T cmp2 = b := ⟨_, rfl⟩
                        rw [hbs] at HSM HR3
                        have HRP := hid (fun (W : World) (hW : Keeps NoB wr W) => show W.cell? ⟨rb, 0, none⟩ = some (.int .i64 p.n) ∧ W.cell? ⟨rb, 1, none⟩ = some (.int .i64 p.b) ∧ W.cell? ⟨rb, 2, none⟩ = some (.int .i64 p.q) ∧ W.cell? ⟨rb, 3, none⟩ = some (.int .i64 p.eps) ∧ W.cell? ⟨rb, 4, none⟩ = some (.int .i64 p.f) from
                          have hk := HK9.out.fresh hW
                          ⟨hk.cell HR5.out.1 (fun h => h), hk.cell HR5.out.2.1 (fun h => h), hk.cell HR5.out.2.2.1 (fun h => h), hk.cell HR5.out.2.2.2.1 (fun h => h), hk.cell HR5.out.2.2.2.2 (fun h => h)⟩)
                        have HQP := hid (fun (W : World) (hW : Keeps NoB wr W) => (HK9.out.fresh hW).cell HQ5.out (fun h => h))
                        have htl : tl = (tn : Int) := HTN.out
                        rw [htl] at HQP HR3
                        have t0 : (0 : Int) ≤ (tn : Int) := by omega
                        have t1 : (tn : Int) ≤ (c10 : Int) := by have := HTQ.out; omega
                        have t1n : tn ≤ c10 := by omega
                        have HKd := hid (Keeps.refl NoB wr).drew
                        clear hfn hby10 hcc10 hml hbs htl
                        go_wp2_with fail
                        refine wp_region_list [([], [127], []), ([], [128], []), ([], [129], []), ([], [130], []), ([], [131], []), ([4], [132], [131]), ([3, 4, 5], [133], [130, 131, 132]), ([1, 2, 3, 4, 5, 6], [134], [128, 129, 130, 131, 132, 133]), ([0, 1, 2, 3, 4, 5, 6, 7], [135], [127, 128, 129, 130, 131, 132, 133, 134]), ([0, 1, 2, 3, 4, 5, 6, 7, 8], [9], [127, 128, 129, 130, 131, 132, 133, 134, 135])] [127, 128, 129, 130, 131, 132, 133, 134, 135, 9] (Keeps NoB) (fun (i : Nat) => ([(fun rs__ U => (rs__.getD 0 undef) = Value.slice (some ⟨g7, 0, none⟩) m c7), (fun rs__ U => (rs__.getD 0 undef) = Value.agg #[.int .i64 p.n, .int .i64 p.b, .int .i64 p.q, .int .i64 p.eps, .int .i64 p.f]), (fun rs__ U => (rs__.getD 0 undef) = Value.int .u64 (session : Int)), (fun rs__ U => (rs__.getD 0 undef) = Value.slice (some ⟨g10, 0, none⟩) Q c10), (fun rs__ U => (rs__.getD 0 undef) = Value.pointer (some ⟨qb, 4, none⟩)), (fun rs__ U => (rs__.getD 0 undef) = Value.int .i64 (tn : Int)), (fun rs__ U => (rs__.getD 0 undef) = Value.slice (some ⟨g10, 0, none⟩) tn c10), (fun rs__ U => ∃ (A2 : Option Addr) (c2 : Nat), (rs__.getD 0 undef) = Value.slice A2 m c2 ∧ Hid (RowsIn (fun _ => True) U A2 cmp2)), (fun rs__ U => (rs__.getD 0 undef) = Value.bool bs), (fun rs__ U => (rs__.getD 0 undef) = Value.bool bs)] : List (List Value → World → Prop)).getD i (fun _ _ => True)) (by kernel_rfl) (by kernel_rfl) (by kernel_rfl) (fun _ _ _ h1 h2 => h1.fresh h2) (fun _ => Keeps.refl _ _) (RL.cons ?s0 (RL.cons ?s1 (RL.cons ?s2 (RL.cons ?s3 (RL.cons ?s4 (RL.cons ?s5 (RL.cons ?s6 (RL.cons ?s7 (RL.cons ?s8 (RL.cons ?s9 (RL.nil _ _))))))))))) ?fin
                        case s0 =>
                          intro V wx hE hd
                          clear hd
                          intro K hK
                          simp only [rput, List.foldl_cons, List.foldl_nil, Act.put, List.setIfInBounds_toArray, List.set_cons_zero, List.set_cons_succ]
                          go_simp; (with_reducible refine hK.out _ _ ?_ ?_); exact rfl; exact ⟨Keeps.refl _ _, rfl⟩
                        case s1 =>
                          intro V wx hE hd
                          clear hd
                          intro K hK
                          simp only [rput, List.foldl_cons, List.foldl_nil, Act.put, List.setIfInBounds_toArray, List.set_cons_zero, List.set_cons_succ]
                          obtain ⟨e0, e1, e2, e3, e4⟩ := HRP.out wx (HKd.out.fresh hE); go_simp; (with_reducible refine hK.out _ _ ?_ ?_); exact rfl; exact ⟨Keeps.refl _ _, rfl⟩
                        case s2 =>
                          intro V wx hE hd
                          clear hd
                          intro K hK
                          simp only [rput, List.foldl_cons, List.foldl_nil, Act.put, List.setIfInBounds_toArray, List.set_cons_zero, List.set_cons_succ]
                          go_simp; (with_reducible refine hK.out _ _ ?_ ?_); exact rfl; exact ⟨Keeps.refl _ _, rfl⟩
                        case s3 =>
                          intro V wx hE hd
                          clear hd
                          intro K hK
                          simp only [rput, List.foldl_cons, List.foldl_nil, Act.put, List.setIfInBounds_toArray, List.set_cons_zero, List.set_cons_succ]
                          go_simp; (with_reducible refine hK.out _ _ ?_ ?_); exact rfl; exact ⟨Keeps.refl _ _, rfl⟩
                        case s4 =>
                          intro V wx hE hd
                          clear hd
                          intro K hK
                          simp only [rput, List.foldl_cons, List.foldl_nil, Act.put, List.setIfInBounds_toArray, List.set_cons_zero, List.set_cons_succ]
                          go_simp; (with_reducible refine hK.out _ _ ?_ ?_); exact rfl; exact ⟨Keeps.refl _ _, rfl⟩
                        case s5 =>
                          intro V wx hE hd
                          obtain ⟨u4, hb4, hu4, p4⟩ : ∃ U, Keeps NoB wr.drew U ∧ Keeps NoB U wx ∧ ((V 131) = Value.pointer (some ⟨qb, 4, none⟩)) := hd 4 (by decide)
                          clear hd
                          clear hb4 hu4
                          intro K hK
                          simp only [rput, List.foldl_cons, List.foldl_nil, Act.put, List.setIfInBounds_toArray, List.set_cons_zero, List.set_cons_succ, p4]
                          have e5 := HQP.out wx (HKd.out.fresh hE); go_simp; (with_reducible refine hK.out _ _ ?_ ?_); exact rfl; exact ⟨Keeps.refl _ _, rfl⟩
                        case s6 =>
                          intro V wx hE hd
                          obtain ⟨u3, hb3, hu3, p3⟩ : ∃ U, Keeps NoB wr.drew U ∧ Keeps NoB U wx ∧ ((V 130) = Value.slice (some ⟨g10, 0, none⟩) Q c10) := hd 3 (by decide)
                          obtain ⟨u5, hb5, hu5, p5⟩ : ∃ U, Keeps NoB wr.drew U ∧ Keeps NoB U wx ∧ ((V 132) = Value.int .i64 (tn : Int)) := hd 5 (by decide)
                          clear hd
                          clear hb3 hu3
                          clear hb5 hu5
                          intro K hK
                          simp only [rput, List.foldl_cons, List.foldl_nil, Act.put, List.setIfInBounds_toArray, List.set_cons_zero, List.set_cons_succ, p3, p5]
                          go_simp; (with_reducible refine hK.out _ _ ?_ ?_); exact rfl; exact ⟨Keeps.refl _ _, rfl⟩
                        case s7 =>
                          intro V wx hE hd
                          obtain ⟨u1, hb1, hu1, p1⟩ : ∃ U, Keeps NoB wr.drew U ∧ Keeps NoB U wx ∧ ((V 128) = Value.agg #[.int .i64 p.n, .int .i64 p.b, .int .i64 p.q, .int .i64 p.eps, .int .i64 p.f]) := hd 1 (by decide)
                          obtain ⟨u2, hb2, hu2, p2⟩ : ∃ U, Keeps NoB wr.drew U ∧ Keeps NoB U wx ∧ ((V 129) = Value.int .u64 (session : Int)) := hd 2 (by decide)
                          obtain ⟨u6, hb6, hu6, p6⟩ : ∃ U, Keeps NoB wr.drew U ∧ Keeps NoB U wx ∧ ((V 133) = Value.slice (some ⟨g10, 0, none⟩) tn c10) := hd 6 (by decide)
                          clear hd
                          clear hb1 hu1
                          clear hb2 hu2
                          clear hb6 hu6
                          intro K hK
                          simp only [rput, List.foldl_cons, List.foldl_nil, Act.put, List.setIfInBounds_toArray, List.set_cons_zero, List.set_cons_succ, p1, p2, p6]
                          go_simp; refine (HRCC.out wx (HKd.out.fresh hE)).mono ?_; rintro e w9 ⟨v9, rfl, ho9, hk9⟩; obtain ⟨A2, c2, e9, _, _, hr9⟩ := ho9.reads; rw [HML.out] at e9; subst e9; (with_reducible refine hK.out _ _ ?_ ?_); exact rfl; exact ⟨hk9, A2, c2, rfl, hid (hr9.mono (fun _ _ _ => trivial))⟩
                        case s8 =>
                          intro V wx hE hd
                          obtain ⟨u0, hb0, hu0, p0⟩ : ∃ U, Keeps NoB wr.drew U ∧ Keeps NoB U wx ∧ ((V 127) = Value.slice (some ⟨g7, 0, none⟩) m c7) := hd 0 (by decide)
                          obtain ⟨u7, hb7, hu7, p7⟩ : ∃ U, Keeps NoB wr.drew U ∧ Keeps NoB U wx ∧ (∃ (A2 : Option Addr) (c2 : Nat), (V 134) = Value.slice A2 m c2 ∧ Hid (RowsIn (fun _ => True) U A2 cmp2)) := hd 7 (by decide)
                          clear hd
                          clear hb0 hu0
                          obtain ⟨A2, c2, q7, hrw⟩ := p7
                          intro K hK
                          simp only [rput, List.foldl_cons, List.foldl_nil, Act.put, List.setIfInBounds_toArray, List.set_cons_zero, List.set_cons_succ, p0, q7]
                          go_simp; refine (HSM.out A2 c2 _ wx (HKd.out.fresh hE) (hrw.out.kept hu7)).mono ?_; rintro e w9 ⟨rfl, hk9⟩; (with_reducible refine hK.out _ _ ?_ ?_); exact rfl; exact ⟨hk9, rfl⟩
                        case s9 =>
                          intro V wx hE hd
                          obtain ⟨u8, hb8, hu8, p8⟩ : ∃ U, Keeps NoB wr.drew U ∧ Keeps NoB U wx ∧ ((V 135) = Value.bool bs) := hd 8 (by decide)
                          clear hd
                          clear hb8 hu8
                          intro K hK
                          simp only [rput, List.foldl_cons, List.foldl_nil, Act.put, List.setIfInBounds_toArray, List.set_cons_zero, List.set_cons_succ, p8]
                          go_simp; (with_reducible refine hK.out _ _ ?_ ?_); exact rfl; exact ⟨Keeps.refl _ _, rfl⟩
                        case fin =>
                          intro V wz hE hd
                          obtain ⟨u9, hb9, hu9, p9⟩ : ∃ U, Keeps NoB wr.drew U ∧ Keeps NoB U wz ∧ ((V 9) = Value.bool bs) := hd 9 (by decide)
                          clear hd
                          clear hb9 hu9
                          simp only [rput, List.foldl_cons, List.foldl_nil, Act.put, List.setIfInBounds_toArray, List.set_cons_zero, List.set_cons_succ, p9]
                          clear p9
                          have HKz := hid (HKd.out.fresh hE)
                          obtain ⟨e0, e1, e2, e3, e4⟩ := HRP.out wz HKz.out
                          have e5 := HQP.out wz HKz.out
                          clear t0 t1 t1n
                          go_wp2_with fail
                          refine (HR3.out wz HKz.out).mono ?_
                          rintro e w9 ⟨rfl, hk9⟩
                          have HKw := hid (HK3.out.fresh (HK5.out.fresh (HK5t.out.fresh (HK9.out.fresh (HKz.out.fresh hk9)))))
                          clear hk9 e0 e1 e2 e3 e4 e5
                          go_wp2_with fail
                          go_ret
                          exact ⟨by simp, HKw.out⟩
                  · have dt1 : decide (tl ≤ (Q : Int)) = false := decide_eq_false h1
                    have HRB := hid (show rightB p session tl (turnR comp kk (turnB (gr comp kk) ja yb)) = false by rw [HRS.out, dt1]; simp)
                    rw [hll, HRB.out] at HRT
                    clear h0 h1 hll
                    go_wp2_with fail
                    refine HRT.out.mono ?_
                    rintro e w9 ⟨rfl, hk9⟩
                    have HK9 := hid ((HK3.out.fresh (HK5.out.fresh HK5t.out)).fresh hk9)
                    clear hk9
                    go_wp2_with fail
                    go_ret
                    exact ⟨rfl, HK9.out⟩
                · have dt0 : decide (0 ≤ tl) = false := decide_eq_false h0
                  have HRB := hid (show rightB p session tl (turnR comp kk (turnB (gr comp kk) ja yb)) = false by rw [HRS.out, dt0]; simp)
                  rw [hll, HRB.out] at HRT
                  clear h0 hll
                  go_wp2_with fail
                  refine HRT.out.mono ?_
                  rintro e w9 ⟨rfl, hk9⟩
                  have HK9 := hid ((HK3.out.fresh (HK5.out.fresh HK5t.out)).fresh hk9)
                  clear hk9
                  go_wp2_with fail
                  go_ret
                  exact ⟨rfl, HK9.out⟩
      · rw [mayB_false hm] at hmay
        clear hm
        go_wp2_with fail
        refine (hbig.out _).mono ?_
        rintro e w4 ⟨rfl, HK4⟩
        have HK4 := hid HK4
        clear r0 r1 r2 r3 r4
        obtain ⟨r0, r1, r2, r3, r4⟩ := HC5.out w4 HK4.out
        go_wp2_with fail
        refine (hmay.out _).mono ?_
        rintro e w5 ⟨rfl, hk5⟩
        have HK5 := hid (HK4.out.fresh hk5)
        go_wp2_with fail
        go_ret
        exact ⟨rfl, HK3.out.fresh HK5.out⟩
  · obtain ⟨w3, hw3⟩ : ∃ x, ((w1.alloc (.cells #[.int .u8 tb, .int .u8 ta, .int .u8 ty, .int .i64 tm, .int .i64 tl] 27)).alloc (.cells #[.int .i64 p.n, .int .i64 p.b, .int .i64 p.q, .int .i64 p.eps, .int .i64 p.f] 23)).drew = x := ⟨_, rfl⟩
    have HK13 := hid (show Keeps NoB w1 w3 by rw [← hw3]; exact (((Keeps.refl NoB w1).alloc (.cells #[.int .u8 tb, .int .u8 ta, .int .u8 ty, .int .i64 tm, .int .i64 tl] 27)).alloc (.cells #[.int .i64 p.n, .int .i64 p.b, .int .i64 p.q, .int .i64 p.eps, .int .i64 p.f] 23)).drew)
    have HP3 := hid (show w3.heap[w1.heap.size + 1]? = some (.cells #[.int .i64 p.n, .int .i64 p.b, .int .i64 p.q, .int .i64 p.eps, .int .i64 p.f] 23 (0, 0)) by rw [← hw3]; have h := heap_alloc_new (w1.alloc (.cells #[.int .u8 tb, .int .u8 ta, .int .u8 ty, .int .i64 tm, .int .i64 tl] 27)) (.cells #[.int .i64 p.n, .int .i64 p.b, .int .i64 p.q, .int .i64 p.eps, .int .i64 p.f] 23); rw [World.size_alloc] at h; exact h)
    have HT3 := hid (show w3.heap[w1.heap.size]? = some (.cells #[.int .u8 tb, .int .u8 ta, .int .u8 ty, .int .i64 tm, .int .i64 tl] 27 (0, 0)) by rw [← hw3]; exact (((Keeps.refl NoB (w1.alloc (.cells #[.int .u8 tb, .int .u8 ta, .int .u8 ty, .int .i64 tm, .int .i64 tl] 27))).alloc (.cells #[.int .i64 p.n, .int .i64 p.b, .int .i64 p.q, .int .i64 p.eps, .int .i64 p.f] 23)).drew).heap (heap_alloc_new w1 (.cells #[.int .u8 tb, .int .u8 ta, .int .u8 ty, .int .i64 tm, .int .i64 tl] 27)) (fun h => h))
    rw [hw3]
    obtain ⟨qb, h0⟩ : ∃ x, w1.heap.size = x := ⟨_, rfl⟩
    rw [h0] at HP3 HT3 ⊢
    obtain ⟨rb, h1⟩ : ∃ x, qb + 1 = x := ⟨_, rfl⟩
    rw [h1] at HP3 ⊢
    clear hw3 h0 h1
    have HK3 := hid ((((Keeps.refl NoB w).alloc _).fresh HK1.out).fresh HK13.out)
    clear b0 b1 b2 b3 b4 b5 b6 b7 b8 b9 b10 b11 hlt hbx HC12 HK13
    have HC5 := hid (fun (W : World) (hW : Keeps NoB w3 W) => cells5 (hW.heap HP3.out (fun h => h)))
    have HT5 := hid (fun (W : World) (hW : Keeps NoB w3 W) => cells5 (hW.heap HT3.out (fun h => h)))
    have HS3 := hid (show rb < w3.heap.size ∧ qb < w3.heap.size from ⟨lt_of_heap HP3.out, lt_of_heap HT3.out⟩)
    have hbig := hid (fun (W : World) => big13_calls p W)
    have hmay := hid (fun (W : World) => may_calls p W)
    unfold Par.val at hbig hmay
    obtain ⟨r0, r1, r2, r3, r4⟩ := HC5.out w3 (Keeps.refl _ _)
    by_cases hbg : bigN p = true
    · rw [hbg] at hbig
      clear hbg
      go_wp2_with fail
      refine (hbig.out _).mono ?_
      rintro e w4 ⟨rfl, HK4⟩
      have HK4 := hid HK4
      go_wp2_with fail
      go_ret
      exact ⟨rfl, HK3.out.fresh HK4.out⟩
    · have hbg : bigN p = false := by simpa using hbg
      rw [hbg] at hbig
      have HB60 := hid (bigN_no' hbg)
      clear hbg
      by_cases hm : p.may
      · rw [mayB_true hm] at hmay
        obtain ⟨N, B0, e1, e2, e3, e4, e5, e6, e7, e8, hNB, hNB2⟩ := par_sizes hm
        have hNBi : p.n * p.b = ((N * B0 : Nat) : Int) := hNB
        generalize N * B0 = Q at *
        clear e1 e2 e3 e4 e5 e6 e7 e8 hNB
        have m0 : (0 : Int) ≤ (Q : Int) := by omega
        have m1 : (Q : Int) ≤ 68718428160 := by omega
        have HW1 := hid (show wrap64 (Q : Int) = (Q : Int) from IntWalk.wrap64_in _ ⟨by omega, by omega⟩)
        by_cases hlg : Q < L
        · have d5 : decide ((Q : Int) < (L : Int)) = true := decide_eq_true (by omega)
          have d5n : decide (Q < L) = true := decide_eq_true hlg
          have hw1 := HW1.out
          clear hm hlg
          go_wp2_with fail
          refine (hbig.out _).mono ?_
          rintro e w4 ⟨rfl, HK4⟩
          have HK4 := hid HK4
          clear r0 r1 r2 r3 r4
          obtain ⟨r0, r1, r2, r3, r4⟩ := HC5.out w4 HK4.out
          go_wp2_with fail
          refine (hmay.out _).mono ?_
          rintro e w5 ⟨rfl, hk5⟩
          have HK5 := hid (HK4.out.fresh hk5)
          clear r0 r1 r2 r3 r4 hk5
          obtain ⟨r0, r1, r2, r3, r4⟩ := HC5.out w5 HK5.out
          go_wp2_with fail
          go_ret
          exact ⟨rfl, HK3.out.fresh HK5.out⟩
        · have d5 : decide ((Q : Int) < (L : Int)) = false := decide_eq_false (by omega)
          have d5n : decide (Q < L) = false := decide_eq_false hlg
          have HRC := hid (fun (W : World) (hW : Keeps NoB w3 W) => rcomp_calls p session obj A c (fun _ => True) W hm hs (HO.out.kept (HK3.out.fresh hW)) HB60.out.1)
          rw [HL.out] at HRC
          unfold Par.val at HRC
          have HCF := hid (comp_fitB hm session obj)
          have HCL := hid (compN_length p session obj)
          have HMY := hid hm
          obtain ⟨B, hB⟩ : ∃ B, p.b.toNat = B := ⟨_, rfl⟩
          have HBB := hid (show p.b = (B : Int) by have := hm.2.2.1; omega)
          have hB1 : 1 ≤ B := by have := hm.2.2.1; omega
          have hB2 : B ≤ 60 := by have := HB60.out; omega
          rw [hB] at HCF
          have HN1 := hid (show 1 ≤ p.n ∧ p.n ≤ 60 from ⟨hm.1, HB60.out.1⟩)
          have hax := auxN_bounds hm
          obtain ⟨m, hmm⟩ : ∃ m, (compN p session obj).length = m := ⟨_, rfl⟩
          have HMM := hid hmm
          have hm1 : 1 ≤ m := by have := HCL.out; have := HN1.out; omega
          have hm2 : m ≤ 6000000 := by have := HCL.out; have := HN1.out; omega
          obtain ⟨comp, hcomp⟩ : ∃ x, compN p session obj = x := ⟨_, rfl⟩
          have HCOMP := hid hcomp
          rw [hcomp] at HRC HCF HMM HCL
          obtain ⟨kk, hkk⟩ : ∃ k : Nat, tb.toNat % m = k := ⟨_, rfl⟩
          have hkm : kk < m := by rw [← hkk]; exact Nat.mod_lt _ (by omega)
          have hk1 : tb.tmod (m : Int) = (kk : Int) := by rw [← hkk, Int.natCast_emod, Int.tmod_eq_emod_of_nonneg HTB.out.1]; congr 1; have := HTB.out; omega
          obtain ⟨ja, hja⟩ : ∃ k : Nat, ta.toNat % B = k := ⟨_, rfl⟩
          have hjb : ja < B := by rw [← hja]; exact Nat.mod_lt _ (by omega)
          have hj1 : ta.tmod p.b = (ja : Int) := by rw [← hja, Int.natCast_emod, HBB.out, Int.tmod_eq_emod_of_nonneg HTA.out.1]; congr 1; have := HTA.out; omega
          obtain ⟨yb, hyb⟩ : ∃ y : UInt8, ty = (y.toNat : Int) := ⟨UInt8.ofNat ty.toNat, by have := HTY.out; rw [UInt8.toNat_ofNat', Nat.mod_eq_of_lt (by omega)]; omega⟩
          subst hyb
          have hw1 := HW1.out
          clear hm hlg hB hmm hcomp hax hkk hja hNB2 hlen hcap
          go_wp2_with fail
          refine (hbig.out _).mono ?_
          rintro e w4 ⟨rfl, HK4⟩
          have HK4 := hid HK4
          clear r0 r1 r2 r3 r4
          obtain ⟨r0, r1, r2, r3, r4⟩ := HC5.out w4 HK4.out
          go_wp2_with fail
          refine (hmay.out _).mono ?_
          rintro e w5 ⟨rfl, hk5⟩
          have HK5 := hid (HK4.out.fresh hk5)
          clear r0 r1 r2 r3 r4 hk5
          obtain ⟨r0, r1, r2, r3, r4⟩ := HC5.out w5 HK5.out
          go_wp2_with fail
          have HNBI := hid (show p.n * p.b = (Q : Int) ∧ (0 : Int) ≤ (Q : Int) ∧ (Q : Int) ≤ 68718428160 from ⟨hNBi, m0, m1⟩)
          clear hw1 m0 m1 d5 d5n hNBi
          refine (HRC.out w5 HK5.out).mono ?_
          rintro e w6 ⟨v6, rfl, ho6, hk6⟩
          obtain ⟨g7, c7, hv6⟩ := ho6.formB (by rw [HMM.out]; omega)
          rw [HMM.out] at hv6
          subst hv6
          have HK6 := hid (HK5.out.fresh hk6)
          have HK56 := hid hk6
          have HG7 := hid (ho6.base_le g7 rfl)
          have HC7 := hid (show m ≤ c7 by obtain ⟨Ax, cx, e, h, _⟩ := ho6.reads; injection e with e1 e2 e3; rw [HMM.out] at h; omega)
          obtain ⟨m', hm'⟩ : ∃ m', m = m' + 1 := ⟨m - 1, by omega⟩
          have HM' := hid hm'
          clear hm'
          have HO6 := hid ho6
          obtain ⟨us, A', c', hv', hus, hown, hrow⟩ := ho6.parts (n := m) HMM.out
          obtain ⟨u, hu'⟩ : ∃ u, us[kk]? = some u := ⟨_, List.getElem?_eq_getElem (by omega)⟩
          have hck := own_cell hown hu'
          obtain ⟨Bk, ck, rfl, hckl, hBk, hbk⟩ := hrow kk u hu'
          have hlk := fitB_at HCF.out kk (by rw [HMM.out]; exact hkm)
          have HLK := hid hlk
          rw [hlk] at hck hckl
          have HKA := hid ((Keeps.refl NoB w6).alloc (.cells #[] 5))
          have hOE := hid (OwnInts.empty w6 w6.heap.size .u8 5 (Nat.le_refl _))
          have HBK := hid (hbk.kept HKA.out)
          have HBK2 := hid hBk
          have hck' := HKA.out.cell hck (fun h => h)
          have hui := Try.underlying25
          obtain ⟨t0, t1, t2, t3, t4⟩ := HT5.out _ (HK6.out.fresh HKA.out)
          have htb0 : 0 ≤ tb := HTB.out.1
          have htb1 : tb ≤ 255 := by have := HTB.out.2; omega
          have hkm2 : (kk : Int) < (m : Int) := by omega
          have hkm0 : (0 : Int) ≤ (kk : Int) := by omega
          have hmz : ¬ ((m : Int) = 0) := by omega
          clear r0 r1 r2 r3 r4 hk6 ho6 hv' hown hrow hbk hBk hlk hu' hus hck
          go_wp2_with (at_builtin; go_must (refine wpList_appB _ rfl _ _ 25 rfl w6.heap.size hui _ [] rfl hOE.out Bk B ck (gr comp kk) rfl HLK.out HBK2.out HBK.out 0 rfl (by omega) (by simp) ?_); intro v8 w8 hown8 hgr8)
          have HK8 := hid (HKA.out.grown hgr8 (fun i e hlt => by have e : some i = some w6.heap.size := e; have e := Option.some.inj e; omega))
          have HOW := hid (show OwnB w8 w6.heap.size v8 (gr comp kk) from hown8)
          obtain ⟨g8, c8, hf8⟩ := OwnInts.form HOW.out (by rw [enc8_length, HLK.out]; omega)
          rw [enc8_length, HLK.out] at hf8
          subst hf8
          have HK68 := hid (HK6.out.fresh HK8.out)
          have hcg := OwnInts.cell HOW.out (j := ja) (by rw [enc8_length, HLK.out]; omega)
          rw [gi_enc8 _ ja (by rw [HLK.out]; omega)] at hcg
          obtain ⟨x0, hx0⟩ : ∃ x, gb (gr comp kk) ja = x := ⟨_, rfl⟩
          have HX0 := hid hx0
          rw [hx0] at hcg
          have HCX := hid (fun (W : World) (hW : Keeps NoB w8 W) => hW.cell hcg (fun h => h))
          have HG8 := hid (OwnInts.base_le HOW.out g8 rfl)
          have hxb := xor_byte x0 yb
          obtain ⟨zx, hzx⟩ : ∃ z, x0 ^^^ yb = z := ⟨_, rfl⟩
          have HZX := hid hzx
          rw [hzx] at hxb
          have hwt : IntKind.i64.wrap ta = ta := IntWalk.i64_in _ (by have := HTA.out; omega)
          have hta0 : 0 ≤ ta := HTA.out.1
          have hta1 : ta ≤ 255 := by have := HTA.out.2; omega
          have hpb0 : ¬ (p.b = 0) := by have := HBB.out; omega
          have hja0 : (0 : Int) ≤ (ja : Int) := by omega
          have hja1 : (ja : Int) < (B : Int) := by omega
          have HKd := hid ((Keeps.refl NoB w8).drew)
          clear t0 t1 t2 t3 t4 hown8 hgr8 hcg hx0 hck' hOE hzx
          refine wp_region_tail 13 [([], [55], []), ([], [56], []), ([1], [57], [56]), ([1, 2], [58], [56, 57]), ([], [59], []), ([4], [60], [59]), ([1, 2, 3, 4, 5], [61], [56, 57, 58, 59, 60]), ([0, 1, 2, 3, 4, 5, 6], [62], [55, 56, 57, 58, 59, 60, 61]), ([0, 1, 2, 3, 4, 5, 6, 7], [63], [55, 56, 57, 58, 59, 60, 61, 62]), ([], [64], []), ([9], [65], [64]), ([0, 1, 2, 3, 4, 5, 6, 7, 8, 9, 10], [66], [55, 56, 57, 58, 59, 60, 61, 62, 63, 64, 65]), ([0, 1, 2, 3, 4, 5, 6, 7, 8, 9, 10, 11], [67], [55, 56, 57, 58, 59, 60, 61, 62, 63, 64, 65, 66]), ([0, 1, 2, 3, 4, 5, 6, 7, 8, 9, 10, 11, 12], [], [55, 56, 57, 58, 59, 60, 61, 62, 63, 64, 65, 66, 67])] [55, 56, 57, 58, 59, 60, 61, 62, 63, 64, 65, 66, 67] (Keeps NoB) (fun (i : Nat) => ([(fun rs__ U => (rs__.getD 0 undef) = Value.slice (some ⟨g8, 0, none⟩) B c8), (fun rs__ U => (rs__.getD 0 undef) = Value.pointer (some ⟨qb, 1, none⟩)), (fun rs__ U => (rs__.getD 0 undef) = Value.int .u8 ta), (fun rs__ U => (rs__.getD 0 undef) = Value.int .i64 ta), (fun rs__ U => (rs__.getD 0 undef) = Value.pointer (some ⟨rb, 1, none⟩)), (fun rs__ U => (rs__.getD 0 undef) = Value.int .i64 p.b), (fun rs__ U => (rs__.getD 0 undef) = Value.int .i64 (ja : Int)), (fun rs__ U => (rs__.getD 0 undef) = Value.pointer (some ⟨g8, ja, none⟩)), (fun rs__ U => (rs__.getD 0 undef) = Value.int .u8 (x0.toNat : Int)), (fun rs__ U => (rs__.getD 0 undef) = Value.pointer (some ⟨qb, 2, none⟩)), (fun rs__ U => (rs__.getD 0 undef) = Value.int .u8 (yb.toNat : Int)), (fun rs__ U => (rs__.getD 0 undef) = Value.int .u8 (zx.toNat : Int)), (fun rs__ U => (rs__.getD 0 undef) = Value.pointer (some ⟨g8, ja, none⟩)), (fun _ _ => True)] : List (List Value → World → Prop)).getD i (fun _ _ => True)) (by kernel_rfl) (by kernel_rfl) (by kernel_rfl) (by kernel_rfl) (fun _ _ _ h1 h2 => h1.fresh h2) (fun _ => Keeps.refl _ _) (RL.cons ?s0 (RL.cons ?s1 (RL.cons ?s2 (RL.cons ?s3 (RL.cons ?s4 (RL.cons ?s5 (RL.cons ?s6 (RL.cons ?s7 (RL.cons ?s8 (RL.cons ?s9 (RL.cons ?s10 (RL.cons ?s11 (RL.cons ?s12 (RL.nil _ _)))))))))))))) ?fin
          case s0 =>
            intro V wx hE hd
            clear hd
            intro K hK
            simp only [rput, List.foldl_cons, List.foldl_nil, Act.put, List.setIfInBounds_toArray, List.set_cons_zero, List.set_cons_succ]
            go_simp; (with_reducible refine hK.out _ _ ?_ ?_); exact rfl; exact ⟨Keeps.refl _ _, rfl⟩
          case s1 =>
            intro V wx hE hd
            clear hd
            intro K hK
            simp only [rput, List.foldl_cons, List.foldl_nil, Act.put, List.setIfInBounds_toArray, List.set_cons_zero, List.set_cons_succ]
            go_simp; (with_reducible refine hK.out _ _ ?_ ?_); exact rfl; exact ⟨Keeps.refl _ _, rfl⟩
          case s2 =>
            intro V wx hE hd
            obtain ⟨u1, hb1, hu1, p1⟩ : ∃ U, Keeps NoB w8.drew U ∧ Keeps NoB U wx ∧ ((V 56) = Value.pointer (some ⟨qb, 1, none⟩)) := hd 1 (by decide)
            clear hd
            clear hb1 hu1
            intro K hK
            simp only [rput, List.foldl_cons, List.foldl_nil, Act.put, List.setIfInBounds_toArray, List.set_cons_zero, List.set_cons_succ, p1]
            obtain ⟨t0, t1, t2, t3, t4⟩ := HT5.out wx (HK68.out.fresh (HKd.out.fresh hE)); go_simp; (with_reducible refine hK.out _ _ ?_ ?_); exact rfl; exact ⟨Keeps.refl _ _, rfl⟩
          case s3 =>
            intro V wx hE hd
            obtain ⟨u2, hb2, hu2, p2⟩ : ∃ U, Keeps NoB w8.drew U ∧ Keeps NoB U wx ∧ ((V 57) = Value.int .u8 ta) := hd 2 (by decide)
            clear hd
            clear hb2 hu2
            intro K hK
            simp only [rput, List.foldl_cons, List.foldl_nil, Act.put, List.setIfInBounds_toArray, List.set_cons_zero, List.set_cons_succ, p2]
            go_simp; (with_reducible refine hK.out _ _ ?_ ?_); exact rfl; exact ⟨Keeps.refl _ _, rfl⟩
          case s4 =>
            intro V wx hE hd
            clear hd
            intro K hK
            simp only [rput, List.foldl_cons, List.foldl_nil, Act.put, List.setIfInBounds_toArray, List.set_cons_zero, List.set_cons_succ]
            go_simp; (with_reducible refine hK.out _ _ ?_ ?_); exact rfl; exact ⟨Keeps.refl _ _, rfl⟩
          case s5 =>
            intro V wx hE hd
            obtain ⟨u4, hb4, hu4, p4⟩ : ∃ U, Keeps NoB w8.drew U ∧ Keeps NoB U wx ∧ ((V 59) = Value.pointer (some ⟨rb, 1, none⟩)) := hd 4 (by decide)
            clear hd
            clear hb4 hu4
            intro K hK
            simp only [rput, List.foldl_cons, List.foldl_nil, Act.put, List.setIfInBounds_toArray, List.set_cons_zero, List.set_cons_succ, p4]
            obtain ⟨r0, r1, r2, r3, r4⟩ := HC5.out wx (HK68.out.fresh (HKd.out.fresh hE)); go_simp; (with_reducible refine hK.out _ _ ?_ ?_); exact rfl; exact ⟨Keeps.refl _ _, rfl⟩
          case s6 =>
            intro V wx hE hd
            obtain ⟨u3, hb3, hu3, p3⟩ : ∃ U, Keeps NoB w8.drew U ∧ Keeps NoB U wx ∧ ((V 58) = Value.int .i64 ta) := hd 3 (by decide)
            obtain ⟨u5, hb5, hu5, p5⟩ : ∃ U, Keeps NoB w8.drew U ∧ Keeps NoB U wx ∧ ((V 60) = Value.int .i64 p.b) := hd 5 (by decide)
            clear hd
            clear hb3 hu3
            clear hb5 hu5
            intro K hK
            simp only [rput, List.foldl_cons, List.foldl_nil, Act.put, List.setIfInBounds_toArray, List.set_cons_zero, List.set_cons_succ, p3, p5]
            go_simp; (with_reducible refine hK.out _ _ ?_ ?_); exact rfl; exact ⟨Keeps.refl _ _, rfl⟩
          case s7 =>
            intro V wx hE hd
            obtain ⟨u0, hb0, hu0, p0⟩ : ∃ U, Keeps NoB w8.drew U ∧ Keeps NoB U wx ∧ ((V 55) = Value.slice (some ⟨g8, 0, none⟩) B c8) := hd 0 (by decide)
            obtain ⟨u6, hb6, hu6, p6⟩ : ∃ U, Keeps NoB w8.drew U ∧ Keeps NoB U wx ∧ ((V 61) = Value.int .i64 (ja : Int)) := hd 6 (by decide)
            clear hd
            clear hb0 hu0
            clear hb6 hu6
            intro K hK
            simp only [rput, List.foldl_cons, List.foldl_nil, Act.put, List.setIfInBounds_toArray, List.set_cons_zero, List.set_cons_succ, p0, p6]
            go_simp; (with_reducible refine hK.out _ _ ?_ ?_); exact rfl; exact ⟨Keeps.refl _ _, rfl⟩
          case s8 =>
            intro V wx hE hd
            obtain ⟨u7, hb7, hu7, p7⟩ : ∃ U, Keeps NoB w8.drew U ∧ Keeps NoB U wx ∧ ((V 62) = Value.pointer (some ⟨g8, ja, none⟩)) := hd 7 (by decide)
            clear hd
            clear hb7 hu7
            intro K hK
            simp only [rput, List.foldl_cons, List.foldl_nil, Act.put, List.setIfInBounds_toArray, List.set_cons_zero, List.set_cons_succ, p7]
            have hcx := HCX.out wx (HKd.out.fresh hE); go_simp; (with_reducible refine hK.out _ _ ?_ ?_); exact rfl; exact ⟨Keeps.refl _ _, rfl⟩
          case s9 =>
            intro V wx hE hd
            clear hd
            intro K hK
            simp only [rput, List.foldl_cons, List.foldl_nil, Act.put, List.setIfInBounds_toArray, List.set_cons_zero, List.set_cons_succ]
            go_simp; (with_reducible refine hK.out _ _ ?_ ?_); exact rfl; exact ⟨Keeps.refl _ _, rfl⟩
          case s10 =>
            intro V wx hE hd
            obtain ⟨u9, hb9, hu9, p9⟩ : ∃ U, Keeps NoB w8.drew U ∧ Keeps NoB U wx ∧ ((V 64) = Value.pointer (some ⟨qb, 2, none⟩)) := hd 9 (by decide)
            clear hd
            clear hb9 hu9
            intro K hK
            simp only [rput, List.foldl_cons, List.foldl_nil, Act.put, List.setIfInBounds_toArray, List.set_cons_zero, List.set_cons_succ, p9]
            obtain ⟨t0, t1, t2, t3, t4⟩ := HT5.out wx (HK68.out.fresh (HKd.out.fresh hE)); go_simp; (with_reducible refine hK.out _ _ ?_ ?_); exact rfl; exact ⟨Keeps.refl _ _, rfl⟩
          case s11 =>
            intro V wx hE hd
            obtain ⟨u8, hb8, hu8, p8⟩ : ∃ U, Keeps NoB w8.drew U ∧ Keeps NoB U wx ∧ ((V 63) = Value.int .u8 (x0.toNat : Int)) := hd 8 (by decide)
            obtain ⟨u10, hb10, hu10, p10⟩ : ∃ U, Keeps NoB w8.drew U ∧ Keeps NoB U wx ∧ ((V 65) = Value.int .u8 (yb.toNat : Int)) := hd 10 (by decide)
            clear hd
            clear hb8 hu8
            clear hb10 hu10
            intro K hK
            simp only [rput, List.foldl_cons, List.foldl_nil, Act.put, List.setIfInBounds_toArray, List.set_cons_zero, List.set_cons_succ, p8, p10]
            go_simp; (with_reducible refine hK.out _ _ ?_ ?_); exact rfl; exact ⟨Keeps.refl _ _, rfl⟩
          case s12 =>
            intro V wx hE hd
            obtain ⟨u0, hb0, hu0, p0⟩ : ∃ U, Keeps NoB w8.drew U ∧ Keeps NoB U wx ∧ ((V 55) = Value.slice (some ⟨g8, 0, none⟩) B c8) := hd 0 (by decide)
            obtain ⟨u6, hb6, hu6, p6⟩ : ∃ U, Keeps NoB w8.drew U ∧ Keeps NoB U wx ∧ ((V 61) = Value.int .i64 (ja : Int)) := hd 6 (by decide)
            clear hd
            clear hb0 hu0
            clear hb6 hu6
            intro K hK
            simp only [rput, List.foldl_cons, List.foldl_nil, Act.put, List.setIfInBounds_toArray, List.set_cons_zero, List.set_cons_succ, p0, p6]
            go_simp; (with_reducible refine hK.out _ _ ?_ ?_); exact rfl; exact ⟨Keeps.refl _ _, rfl⟩
          case fin =>
            intro V wz hE hd
            obtain ⟨u11, hb11, hu11, p11⟩ : ∃ U, Keeps NoB w8.drew U ∧ Keeps NoB U wz ∧ ((V 66) = Value.int .u8 (zx.toNat : Int)) := hd 11 (by decide)
            obtain ⟨u12, hb12, hu12, p12⟩ : ∃ U, Keeps NoB w8.drew U ∧ Keeps NoB U wz ∧ ((V 67) = Value.pointer (some ⟨g8, ja, none⟩)) := hd 12 (by decide)
            clear hd
            clear hb11 hu11
            clear hb12 hu12
            simp only [rput, List.foldl_cons, List.foldl_nil, Act.put, List.setIfInBounds_toArray, List.set_cons_zero, List.set_cons_succ, List.drop_succ_cons, List.drop_zero, p11, p12]
            clear p11
            clear p12
            have HKz := hid (HKd.out.fresh hE)
            have HOZ := hid (OwnInts.kept HOW.out HKz.out)
            have hcx := HCX.out wz HKz.out
            have hfz := OwnInts.free HOZ.out ja
            have HNX := hid (show OwnB (wz.setCell ⟨g8, ja, none⟩ (.int .u8 (zx.toNat : Int))) w6.heap.size (.slice (some ⟨g8, 0, none⟩) B c8) (turnB (gr comp kk) ja yb) by
              have h := OwnInts.set HOZ.out (j := ja) (by rw [enc8_length, HLK.out]; omega) (zx.toNat : Int)
              rw [enc8_set] at h
              unfold turnB
              rw [HX0.out, HZX.out]
              exact h)
            have HK6s := hid ((HK8.out.fresh HKz.out).setCell (p := ⟨g8, ja, none⟩) (fun h => absurd h (by show ¬ g8 < _; have := HG8.out.1; omega)) (.int .u8 (zx.toNat : Int)))
            have HT9 := hid (HT5.out _ (HK6.out.fresh HK6s.out))
            have HO9 := hid (HO6.out.kept HK6s.out)
            obtain ⟨t0, t1, t2, t3, t4⟩ := HT9.out
            obtain ⟨us9, A9, c9, hv9, hus9, hown9, hrow9⟩ := HO9.out.parts (n := m) HMM.out
            obtain ⟨u9, hu9'⟩ : ∃ u, us9[kk]? = some u := ⟨_, List.getElem?_eq_getElem (by omega)⟩
            have hc9 := own_cell hown9 hu9'
            have hf9 := own_free hown9 kk
            clear hv9 hus9 hown9 hrow9 hu9'
            have HK5t := hid ((HK56.out.fresh HK6s.out).setCell (p := ⟨g7, kk, none⟩) (fun h => absurd h (by show ¬ g7 < _; have := HG7.out.1; omega)) (.slice (some ⟨g8, 0, none⟩) B c8))
            have HOT := hid (OwnRows.set HO9.out (j := kk) (u := .slice (some ⟨g8, 0, none⟩) B c8) (l := turnB (gr comp kk) ja yb) (by rw [HMM.out]; exact hkm) ((OwnB.row HNX.out).mono (fun b _ hb => by
              have e : g8 = b := by simpa [Value.ownBlock] using hb
              have h1 := HG8.out.1
              have h2 := HG7.out
              have h3 := HK56.out.size
              refine ⟨?_, ?_⟩
              · show w5.heap.size ≤ b; omega
              · show b ≠ g7; omega)))
            obtain ⟨q0, q1, q2, q3, q4⟩ := HT5.out _ (HK5.out.fresh HK5t.out)
            obtain ⟨r0, r1, r2, r3, r4⟩ := HC5.out _ (HK5.out.fresh HK5t.out)
            by_cases hneg : tm < 0
            · have dn : decide (tm < 0) = true := decide_eq_true hneg
              have hne : (tm == 0) = false := by simp; omega
              have hne2 : decide (tm = 0) = false := decide_eq_false (by omega)
              have HRB := hid (show rightB p session tl ((turnR comp kk (turnB (gr comp kk) ja yb)).take m') = false by
                have h := right_more HMY.out session obj kk (turnB (gr comp kk) ja yb) tm tl (by omega)
                rw [HCOMP.out] at h
                unfold moreR at h
                rw [if_pos hneg, turnR_length, HMM.out] at h
                rwa [show m - 1 = m' by have := HM'.out; omega] at h)
              obtain ⟨Ar, cr, er, _, _, hrr⟩ := HOT.out.reads
              injection er with er1 er2 er3
              subst er1
              have hlm : ((turnR comp kk (turnB (gr comp kk) ja yb)).take m').length = m' := by rw [List.length_take, turnR_length, HMM.out]; have := HM'.out; omega
              have HRT := hid (right_calls p session tl ((turnR comp kk (turnB (gr comp kk) ja yb)).take m') (some ⟨g7, 0, none⟩) c7 _ _ HWF.out hs HTL.out.1 HTL.out.2 (hrr.take m') (by rw [hlm]; have := HM'.out; have := HC7.out; omega) (fun e => by cases e))
              rw [hlm, HRB.out] at HRT
              unfold Par.val at HRT
              have e0 : (m : Int) - 1 = (m' : Int) := by have := HM'.out; omega
              have e1 : (0 : Int) ≤ (m' : Int) := by omega
              have e2 : (m' : Int) ≤ (c7 : Int) := by have := HM'.out; have := HC7.out; omega
              clear hneg hlm hrr er2 er3
              go_wp2_with fail
              refine HRT.out.mono ?_
              rintro e w9 ⟨rfl, hk9⟩
              have HK9 := hid ((HK3.out.fresh (HK5.out.fresh HK5t.out)).fresh hk9)
              clear hk9
              go_wp2_with fail
              go_ret
              exact ⟨rfl, HK9.out⟩
            · have dn : decide (tm < 0) = false := decide_eq_false hneg
              by_cases hpos : 0 < tm
              · have dp : decide (0 < tm) = true := decide_eq_true hpos
                have hne : (tm == 0) = false := by simp; omega
                have hne2 : decide (tm = 0) = false := decide_eq_false (by omega)
                have hus := Try.underlying32
                have HRB := hid (show rightB p session tl (turnR comp kk (turnB (gr comp kk) ja yb) ++ [(turnB (gr comp kk) ja yb)]) = false by
                  have h := right_more HMY.out session obj kk (turnB (gr comp kk) ja yb) tm tl (by omega)
                  rw [HCOMP.out] at h
                  unfold moreR at h
                  rw [if_neg hneg, if_pos hpos] at h
                  exact h)
                have HKA2 := hid ((Keeps.refl NoB ((wz.setCell ⟨g8, ja, none⟩ (.int .u8 (zx.toNat : Int))).setCell ⟨g7, kk, none⟩ (.slice (some ⟨g8, 0, none⟩) B c8))).alloc (.cells #[.slice (some ⟨g8, 0, none⟩) B c8] 25))
                have HC1 := hid (show (World.alloc ((wz.setCell ⟨g8, ja, none⟩ (.int .u8 (zx.toNat : Int))).setCell ⟨g7, kk, none⟩ (.slice (some ⟨g8, 0, none⟩) B c8)) (.cells #[.slice (some ⟨g8, 0, none⟩) B c8] 25)).cell? ⟨wz.heap.size, 0, none⟩ = some (.slice (some ⟨g8, 0, none⟩) B c8) by
                  have h := cell_one ((wz.setCell ⟨g8, ja, none⟩ (.int .u8 (zx.toNat : Int))).setCell ⟨g7, kk, none⟩ (.slice (some ⟨g8, 0, none⟩) B c8)) (.slice (some ⟨g8, 0, none⟩) B c8) 25
                  simpa using h)
                have HRX := hid (show RowIn (fun b => w5.heap.size ≤ b ∧ (Value.slice (some ⟨g7, 0, none⟩) m c7).ownBlock ≠ some b) (World.alloc ((wz.setCell ⟨g8, ja, none⟩ (.int .u8 (zx.toNat : Int))).setCell ⟨g7, kk, none⟩ (.slice (some ⟨g8, 0, none⟩) B c8)) (.cells #[.slice (some ⟨g8, 0, none⟩) B c8] 25)) (.slice (some ⟨g8, 0, none⟩) B c8) (turnB (gr comp kk) ja yb) by
                  have h1 := HG8.out.1
                  have h2 := HG7.out
                  have h3 := HK56.out.size
                  have hr := OwnB.row HNX.out
                  have hr2 := hr.keeps (Keeps.one (wz.setCell ⟨g8, ja, none⟩ (.int .u8 (zx.toNat : Int))) g7 kk (.slice (some ⟨g8, 0, none⟩) B c8)) (fun b hb e => by
                    have e1 : g8 = b := by simpa [Value.ownBlock] using hb
                    have e2 : b = g7 := e
                    omega)
                  refine (hr2.keeps HKA2.out (fun _ _ h => h)).mono (fun b _ hb => ?_)
                  have e1 : g8 = b := by simpa [Value.ownBlock] using hb
                  refine ⟨by omega, fun e => ?_⟩
                  have e2 : g7 = b := by simpa [Value.ownBlock] using e
                  omega)
                have hbs : w5.heap.size ≤ (World.alloc ((wz.setCell ⟨g8, ja, none⟩ (.int .u8 (zx.toNat : Int))).setCell ⟨g7, kk, none⟩ (.slice (some ⟨g8, 0, none⟩) B c8)) (.cells #[.slice (some ⟨g8, 0, none⟩) B c8] 25)).heap.size := (HK5t.out.fresh HKA2.out).size
                have hll : (turnR comp kk (turnB (gr comp kk) ja yb)).length = m := by rw [turnR_length, HMM.out]
                clear hneg hpos
                go_wp2_with (at_builtin; go_must (refine wpList_app1RowB rfl _ _ 32 (fun b => w5.heap.size ≤ b) rfl w5.heap.size hus _ (turnR comp kk (turnB (gr comp kk) ja yb)) rfl (HOT.out.kept HKA2.out) wz.heap.size _ (.slice (some ⟨g8, 0, none⟩) B c8) (turnB (gr comp kk) ja yb) rfl HC1.out HRX.out (by rw [hll]; omega) hbs ?_); intro v9 w9 hown9 hgr9 hat9; have HK9 := hid ((HK5t.out.fresh HKA2.out).grown hgr9 (fun i e hi => by have e1 : some i = some g7 := e; have e2 := Option.some.inj e1; have := HG7.out.1; omega)); obtain ⟨q0, q1, q2, q3, q4⟩ := HT5.out w9 (HK5.out.fresh HK9.out); obtain ⟨r0, r1, r2, r3, r4⟩ := HC5.out w9 (HK5.out.fresh HK9.out); obtain ⟨Ar, cr, er, hcr, hAr, hrr⟩ := hown9.reads; rw [List.length_append, hll] at er hcr; simp only [List.length_singleton] at er hcr; subst er; have HRR := hid hrr; clear hown9 hgr9 hat9 hrr)
                have HRT := hid (right_calls p session tl (turnR comp kk (turnB (gr comp kk) ja yb) ++ [(turnB (gr comp kk) ja yb)]) Ar cr _ w9 HWF.out hs HTL.out.1 HTL.out.2 HRR.out (by rw [List.length_append, hll]; simp only [List.length_singleton]; exact hcr) hAr)
                rw [List.length_append, hll, HRB.out] at HRT
                simp only [List.length_singleton] at HRT
                unfold Par.val at HRT
                refine HRT.out.mono ?_
                rintro e w10 ⟨rfl, hk10⟩
                have HK10 := hid ((HK3.out.fresh (HK5.out.fresh HK9.out)).fresh hk10)
                clear hk10
                go_wp2_with fail
                go_ret
                exact ⟨rfl, HK10.out⟩
              · have dp : decide (0 < tm) = false := decide_eq_false hpos
                obtain rfl : tm = 0 := by omega
                clear hneg hpos
                have hll : (turnR comp kk (turnB (gr comp kk) ja yb)).length = m := by rw [turnR_length, HMM.out]
                have HBT := hid (show p.b.toNat = B by have := HBB.out; omega)
                have HTF := hid (show fitB B (turnR comp kk (turnB (gr comp kk) ja yb)) = true by
                  have h := turn_fitB HMY.out session obj kk (turnB (gr comp kk) ja yb) (by rw [turnB_length, HLK.out, HBT.out])
                  rwa [HCOMP.out, HBT.out] at h)
                have HRS := hid (right_same HMY.out session tl (turnR comp kk (turnB (gr comp kk) ja yb)) (by rw [turnR_length]; exact HCL.out) (by rw [HBT.out]; exact HTF.out))
                rw [HNBI.out.1] at HRS
                obtain ⟨Ar, cr, er, _, _, hrr⟩ := HOT.out.reads
                injection er with er1 er2 er3
                subst er1
                have HRR := hid hrr
                have HRT := hid (right_calls p session tl (turnR comp kk (turnB (gr comp kk) ja yb)) (some ⟨g7, 0, none⟩) c7 _ _ HWF.out hs HTL.out.1 HTL.out.2 hrr (by rw [hll]; exact HC7.out) (fun e => by cases e))
                unfold Par.val at HRT
                have HSS := hid hs
                clear hs hrr er2 er3
                go_upto_region 14 with fail
                clear hkm hjb dn dp hxb hwt hta0 hta1 hpb0 hja0 hja1 hk1 hj1 htb0 htb1 hkm0 hkm2 hmz hc9 hf9 t0 t1 t2 t3 t4 hm1 hm2 hB1 hB2
                have hNBi := HNBI.out.1
                have m0 := HNBI.out.2.1
                have m1 := HNBI.out.2.2
                have hw1 := HW1.out
                generalize (wz.setCell ⟨g8, ja, none⟩ (.int .u8 (zx.toNat : Int))).setCell ⟨g7, kk, none⟩ (.slice (some ⟨g8, 0, none⟩) B c8) = wt at *
                by_cases h0 : 0 ≤ tl
                · have dt0 : decide (0 ≤ tl) = true := decide_eq_true h0
                  by_cases h1 : tl ≤ (Q : Int)
                  · have dt1 : decide (tl ≤ (Q : Int)) = true := decide_eq_true h1
                    rw [dt0, dt1] at HRS
                    clear HRT
                    have HM1B := hid (show 1 ≤ B by have := HBB.out; have := HMY.out.2.2.1; omega)
                    obtain ⟨tn, htn⟩ : ∃ tn : Nat, tl = (tn : Int) := ⟨tl.toNat, by omega⟩
                    have HTN := hid htn
                    have HTQ := hid (show tn ≤ Q by omega)
                    obtain ⟨T, hT⟩ : ∃ T, turnR comp kk (turnB (gr comp kk) ja yb) = T := ⟨_, rfl⟩
                    rw [hT] at HRS HTF hll
                    have HRR := hid (show RowsIn (fun b => w5.heap.size ≤ b ∨ (Value.slice (some ⟨g7, 0, none⟩) m c7).ownBlock = some b) wt (some ⟨g7, 0, none⟩) T by rw [← hT]; exact HRR.out)
                    have HTL2 := hid hll
                    obtain ⟨N, hN⟩ : ∃ N, p.n.toNat = N := ⟨_, rfl⟩
                    have HPN := hid (show p.n = (N : Int) by have := HN1.out; omega)
                    have HN60 := hid (show 1 ≤ N ∧ N ≤ 60 by have := HN1.out; omega)
                    have HBB60 := hid (show B ≤ 60 by have := HB60.out; have := HBB.out; omega)
                    have HNM := hid (show N ≤ m by have := HCL.out; have := HMM.out; omega)
                    have HB1Q := hid (show 1 ≤ N * B from Nat.mul_pos (by have := HN60.out; omega) (by have := HM1B.out; omega))
                    have HBQ := hid (show N * B = Q by
                      have h1 := HNBI.out.1
                      rw [HPN.out, HBB.out] at h1
                      exact_mod_cast h1)
                    rw [hN] at HRS
                    have HFLT := hid (fun (k : Nat) (hk : k < N) => show (T.take (k + 1)).flatten = (T.take k).flatten ++ gr T k from flat_take T k (by have := HNM.out; have := HTL2.out; omega))
                    have HFLN := hid (fun (k : Nat) (hk : k ≤ N) => show (T.take k).flatten.length = k * B from flat_len HTF.out k (by have := HNM.out; have := HTL2.out; omega))
                    have HGL := hid (fun (k : Nat) (hk : k < N) => fitB_at HTF.out k (by have := HNM.out; have := HTL2.out; omega))
                    have HRT2 := hid (fun (W : World) (hW : Keeps NoB wt W) => right_calls p session tl T (some ⟨g7, 0, none⟩) c7 _ W HWF.out HSS.out HTL.out.1 HTL.out.2 (HRR.out.kept hW) (by rw [HTL2.out]; exact HC7.out) (fun e => by cases e))
                    rw [HTL2.out] at HRT2
                    unfold Par.val at HRT2
                    have HR5 := hid (show wt.cell? ⟨rb, 0, none⟩ = some (.int .i64 p.n) ∧ wt.cell? ⟨rb, 1, none⟩ = some (.int .i64 p.b) ∧ wt.cell? ⟨rb, 2, none⟩ = some (.int .i64 p.q) ∧ wt.cell? ⟨rb, 3, none⟩ = some (.int .i64 p.eps) ∧ wt.cell? ⟨rb, 4, none⟩ = some (.int .i64 p.f) from ⟨r0, r1, r2, r3, r4⟩)
                    have HQ5 := hid q4
                    go_upto_region 16 with fail
                    have hpn := HPN.out
                    have s0 : (0 : Int) ≤ (N : Int) := by omega
                    have s1 : (N : Int) ≤ (c7 : Int) := by have := HNM.out; have := HC7.out; omega
                    have HKA9 := hid ((Keeps.refl NoB wt).alloc (.cells #[] 5))
                    have hui := Try.underlying25
                    have r0a := HKA9.out.cell r0 (fun h => h)
                    have HW := hid (OwnInts.empty wt wt.heap.size .u8 5 (Nat.le_refl _))
                    clear h0 h1 hN hT htn hll
                    go_wp2_with fail
                    clear hpn s0 s1 hNBi m0 m1 hw1 dt0 dt1 q0 q1 q2 q3 q4 r0 r0a r1 r2 r3 r4
                    go_loopw [10, 12, 119] (fun v10 v12 v119 wr => ∃ (k : Nat) (v : Value), k ≤ N ∧ v119 = .int .i64 (k : Int) ∧ v = v10 ∧ Hid (OwnB wr wt.heap.size v (T.take k).flatten) ∧ Hid (Keeps NoB wt wr)) (fun _ _ v119 _ => N - (intOf v119).toNat)
                    case atStart => exact ⟨0, _, Nat.zero_le _, rfl, rfl, hid HW.out, HKA9⟩
                    case round =>
                      obtain ⟨k, v, hk, rfl, rfl, HO9, HK9⟩ := hrel
                      by_cases hlt : k < N
                      · obtain ⟨b1, o1, e1, _, hc1⟩ := (HRR.out.kept HK9.out).2 (by have := HNM.out; rw [HTL2.out]; omega)
                        injection e1 with e1
                        injection e1 with e1 e2
                        subst e1 e2
                        obtain ⟨u1, k1, A1, d1, rfl, hcp1, hA1, hb1⟩ := hc1 k (by have := HNM.out; rw [HTL2.out]; omega)
                        have hgl := HGL.out k hlt
                        rw [hgl] at hcp1 k1
                        rw [Nat.zero_add] at k1
                        have hft := hid (HFLT.out k hlt)
                        have HHB := hid hb1
                        have HGLk := hid hgl
                        have hfn := HFLN.out k (by omega)
                        obtain ⟨kb, hkb⟩ : ∃ kb, k * B = kb := ⟨_, rfl⟩
                        have hkb2 : kb ≤ 3600 := by rw [← hkb]; exact Nat.mul_le_mul (show k ≤ 60 by have := HN60.out; omega) HBB60.out
                        rw [hkb] at hfn
                        have HFN := hid hfn
                        have hx0 : (0 : Int) ≤ (k : Int) := by omega
                        have hk60 : k ≤ 60 := by have := HN60.out; omega
                        have hx1 : (k : Int) < (N : Int) := by omega
                        have HKB := hid hkb2
                        have HA1 := hid hA1
                        have HSZ9 := hid (show wt.heap.size ≤ wr.heap.size from HK9.out.size)
                        have HBN := hid HBB60.out
                        clear hc1 hb1 hgl hfn hkb hkb2 hA1
                        go_wp2_with (at_builtin; go_must (refine wpList_appB _ rfl _ _ 25 rfl wt.heap.size hui v _ rfl HO9.out A1 B d1 (gr T k) rfl HGLk.out HA1.out HHB.out kb HFN.out (by have := HKB.out; have := HBN.out; omega) HSZ9.out ?_); intro v8 w8 hown8 hgr8; have HOW8 := hid hown8; have HK8 := hid (HK9.out.grown hgr8 (fun i e hlt => by have := OwnInts.base_le HO9.out i e.symm; omega)); clear hown8 hgr8)
                        go_roundw
                        case rel => exact ⟨v8, _, .int .i64 ((k + 1 : Nat) : Int), ⟨k + 1, by omega, rfl, hid (by rw [hft.out]; exact HOW8.out)⟩, rfl, rfl, by go_num⟩
                        case measure => simp [intOf]; omega
                      · obtain rfl : N = k := by omega
                        have hfn := HFLN.out N (Nat.le_refl _)
                        rw [HBQ.out] at hfn
                        have HFN := hid hfn
                        obtain ⟨g10, c10, hv10⟩ := OwnInts.form HO9.out (by rw [enc8_length, hfn]; have := HBQ.out; have := HN60.out; have := HBB.out; have := HB1Q.out; omega)
                        rw [enc8_length, hfn] at hv10
                        subst hv10
                        obtain ⟨A10, c10', e10, hcc10, _, hby10⟩ := OwnB.reads HO9.out
                        injection e10 with e10 e12 e11
                        subst e10 e11
                        clear e12
                        rw [hfn] at hcc10
                        have HBY := hid (hby10.take tn)
                        have HTL3 := hid (show ((T.take N).flatten.take tn).length = tn by rw [List.length_take, hfn]; have := HTQ.out; omega)
                        have HRCC := hid (fun (W : World) (hW : Keeps NoB wr W) => rcomp_calls p session ((T.take N).flatten.take tn) (some ⟨g10, 0, none⟩) c10 _ W HMY.out HSS.out (HBY.out.kept hW) HB60.out.1)
                        rw [HTL3.out] at HRCC
                        unfold Par.val at HRCC
                        have HCL3 := hid (compN_length p session ((T.take N).flatten.take tn))
                        have hml : (compN p session ((T.take N).flatten.take tn)).length = m := by rw [HCL3.out, ← HCL.out]; exact HMM.out
                        have HML := hid hml
                        have HRS2 := hid (show rightB p session tl T = sameB T (compN p session ((T.take N).flatten.take tn)) from by
                          rw [HRS.out, HTN.out, Int.toNat_natCast]; rfl)
                        have HSM := hid (fun (A2 : Option Addr) (c2 : Nat) (R2 : Nat → Prop) (W : World) (hW : Keeps NoB wr W) (h2 : RowsIn R2 W A2 (compN p session ((T.take N).flatten.take tn))) => same13_calls T (compN p session ((T.take N).flatten.take tn)) (some ⟨g7, 0, none⟩) A2 c7 c2 _ R2 W (HRR.out.kept (HK9.out.fresh hW)) h2)
                        rw [HTL2.out, hml] at HSM
                        have HR3 := hid (fun (W : World) (hW : Keeps NoB wr W) => HRT2.out W (HK9.out.fresh hW))
                        rw [HRS2.out] at HR3
                        generalize compN p session ((T.take N).flatten.take tn) = cmp2 at *
                        obtain ⟨bs, hbs⟩ : ∃ b, sameB T cmp2 = b := ⟨_, rfl⟩
                        rw [hbs] at HSM HR3
                        have HRP := hid (fun (W : World) (hW : Keeps NoB wr W) => show W.cell? ⟨rb, 0, none⟩ = some (.int .i64 p.n) ∧ W.cell? ⟨rb, 1, none⟩ = some (.int .i64 p.b) ∧ W.cell? ⟨rb, 2, none⟩ = some (.int .i64 p.q) ∧ W.cell? ⟨rb, 3, none⟩ = some (.int .i64 p.eps) ∧ W.cell? ⟨rb, 4, none⟩ = some (.int .i64 p.f) from
                          have hk := HK9.out.fresh hW
                          ⟨hk.cell HR5.out.1 (fun h => h), hk.cell HR5.out.2.1 (fun h => h), hk.cell HR5.out.2.2.1 (fun h => h), hk.cell HR5.out.2.2.2.1 (fun h => h), hk.cell HR5.out.2.2.2.2 (fun h => h)⟩)
                        have HQP := hid (fun (W : World) (hW : Keeps NoB wr W) => (HK9.out.fresh hW).cell HQ5.out (fun h => h))
                        have htl : tl = (tn : Int) := HTN.out
                        rw [htl] at HQP HR3
                        have t0 : (0 : Int) ≤ (tn : Int) := by omega
                        have t1 : (tn : Int) ≤ (c10 : Int) := by have := HTQ.out; omega
                        have t1n : tn ≤ c10 := by omega
                        have HKd := hid (Keeps.refl NoB wr).drew
                        clear hfn hby10 hcc10 hml hbs htl
                        go_wp2_with fail
                        refine wp_region_list [([], [127], []), ([], [128], []), ([], [129], []), ([], [130], []), ([], [131], []), ([4], [132], [131]), ([3, 4, 5], [133], [130, 131, 132]), ([1, 2, 3, 4, 5, 6], [134], [128, 129, 130, 131, 132, 133]), ([0, 1, 2, 3, 4, 5, 6, 7], [135], [127, 128, 129, 130, 131, 132, 133, 134]), ([0, 1, 2, 3, 4, 5, 6, 7, 8], [9], [127, 128, 129, 130, 131, 132, 133, 134, 135])] [127, 128, 129, 130, 131, 132, 133, 134, 135, 9] (Keeps NoB) (fun (i : Nat) => ([(fun rs__ U => (rs__.getD 0 undef) = Value.slice (some ⟨g7, 0, none⟩) m c7), (fun rs__ U => (rs__.getD 0 undef) = Value.agg #[.int .i64 p.n, .int .i64 p.b, .int .i64 p.q, .int .i64 p.eps, .int .i64 p.f]), (fun rs__ U => (rs__.getD 0 undef) = Value.int .u64 (session : Int)), (fun rs__ U => (rs__.getD 0 undef) = Value.slice (some ⟨g10, 0, none⟩) Q c10), (fun rs__ U => (rs__.getD 0 undef) = Value.pointer (some ⟨qb, 4, none⟩)), (fun rs__ U => (rs__.getD 0 undef) = Value.int .i64 (tn : Int)), (fun rs__ U => (rs__.getD 0 undef) = Value.slice (some ⟨g10, 0, none⟩) tn c10), (fun rs__ U => ∃ (A2 : Option Addr) (c2 : Nat), (rs__.getD 0 undef) = Value.slice A2 m c2 ∧ Hid (RowsIn (fun _ => True) U A2 cmp2)), (fun rs__ U => (rs__.getD 0 undef) = Value.bool bs), (fun rs__ U => (rs__.getD 0 undef) = Value.bool bs)] : List (List Value → World → Prop)).getD i (fun _ _ => True)) (by kernel_rfl) (by kernel_rfl) (by kernel_rfl) (fun _ _ _ h1 h2 => h1.fresh h2) (fun _ => Keeps.refl _ _) (RL.cons ?s0 (RL.cons ?s1 (RL.cons ?s2 (RL.cons ?s3 (RL.cons ?s4 (RL.cons ?s5 (RL.cons ?s6 (RL.cons ?s7 (RL.cons ?s8 (RL.cons ?s9 (RL.nil _ _))))))))))) ?fin
                        case s0 =>
                          intro V wx hE hd
                          clear hd
                          intro K hK
                          simp only [rput, List.foldl_cons, List.foldl_nil, Act.put, List.setIfInBounds_toArray, List.set_cons_zero, List.set_cons_succ]
                          go_simp; (with_reducible refine hK.out _ _ ?_ ?_); exact rfl; exact ⟨Keeps.refl _ _, rfl⟩
                        case s1 =>
                          intro V wx hE hd
                          clear hd
                          intro K hK
                          simp only [rput, List.foldl_cons, List.foldl_nil, Act.put, List.setIfInBounds_toArray, List.set_cons_zero, List.set_cons_succ]
                          obtain ⟨e0, e1, e2, e3, e4⟩ := HRP.out wx (HKd.out.fresh hE); go_simp; (with_reducible refine hK.out _ _ ?_ ?_); exact rfl; exact ⟨Keeps.refl _ _, rfl⟩
                        case s2 =>
                          intro V wx hE hd
                          clear hd
                          intro K hK
                          simp only [rput, List.foldl_cons, List.foldl_nil, Act.put, List.setIfInBounds_toArray, List.set_cons_zero, List.set_cons_succ]
                          go_simp; (with_reducible refine hK.out _ _ ?_ ?_); exact rfl; exact ⟨Keeps.refl _ _, rfl⟩
                        case s3 =>
                          intro V wx hE hd
                          clear hd
                          intro K hK
                          simp only [rput, List.foldl_cons, List.foldl_nil, Act.put, List.setIfInBounds_toArray, List.set_cons_zero, List.set_cons_succ]
                          go_simp; (with_reducible refine hK.out _ _ ?_ ?_); exact rfl; exact ⟨Keeps.refl _ _, rfl⟩
                        case s4 =>
                          intro V wx hE hd
                          clear hd
                          intro K hK
                          simp only [rput, List.foldl_cons, List.foldl_nil, Act.put, List.setIfInBounds_toArray, List.set_cons_zero, List.set_cons_succ]
                          go_simp; (with_reducible refine hK.out _ _ ?_ ?_); exact rfl; exact ⟨Keeps.refl _ _, rfl⟩
                        case s5 =>
                          intro V wx hE hd
                          obtain ⟨u4, hb4, hu4, p4⟩ : ∃ U, Keeps NoB wr.drew U ∧ Keeps NoB U wx ∧ ((V 131) = Value.pointer (some ⟨qb, 4, none⟩)) := hd 4 (by decide)
                          clear hd
                          clear hb4 hu4
                          intro K hK
                          simp only [rput, List.foldl_cons, List.foldl_nil, Act.put, List.setIfInBounds_toArray, List.set_cons_zero, List.set_cons_succ, p4]
                          have e5 := HQP.out wx (HKd.out.fresh hE); go_simp; (with_reducible refine hK.out _ _ ?_ ?_); exact rfl; exact ⟨Keeps.refl _ _, rfl⟩
                        case s6 =>
                          intro V wx hE hd
                          obtain ⟨u3, hb3, hu3, p3⟩ : ∃ U, Keeps NoB wr.drew U ∧ Keeps NoB U wx ∧ ((V 130) = Value.slice (some ⟨g10, 0, none⟩) Q c10) := hd 3 (by decide)
                          obtain ⟨u5, hb5, hu5, p5⟩ : ∃ U, Keeps NoB wr.drew U ∧ Keeps NoB U wx ∧ ((V 132) = Value.int .i64 (tn : Int)) := hd 5 (by decide)
                          clear hd
                          clear hb3 hu3
                          clear hb5 hu5
                          intro K hK
                          simp only [rput, List.foldl_cons, List.foldl_nil, Act.put, List.setIfInBounds_toArray, List.set_cons_zero, List.set_cons_succ, p3, p5]
                          go_simp; (with_reducible refine hK.out _ _ ?_ ?_); exact rfl; exact ⟨Keeps.refl _ _, rfl⟩
                        case s7 =>
                          intro V wx hE hd
                          obtain ⟨u1, hb1, hu1, p1⟩ : ∃ U, Keeps NoB wr.drew U ∧ Keeps NoB U wx ∧ ((V 128) = Value.agg #[.int .i64 p.n, .int .i64 p.b, .int .i64 p.q, .int .i64 p.eps, .int .i64 p.f]) := hd 1 (by decide)
                          obtain ⟨u2, hb2, hu2, p2⟩ : ∃ U, Keeps NoB wr.drew U ∧ Keeps NoB U wx ∧ ((V 129) = Value.int .u64 (session : Int)) := hd 2 (by decide)
                          obtain ⟨u6, hb6, hu6, p6⟩ : ∃ U, Keeps NoB wr.drew U ∧ Keeps NoB U wx ∧ ((V 133) = Value.slice (some ⟨g10, 0, none⟩) tn c10) := hd 6 (by decide)
                          clear hd
                          clear hb1 hu1
                          clear hb2 hu2
                          clear hb6 hu6
                          intro K hK
                          simp only [rput, List.foldl_cons, List.foldl_nil, Act.put, List.setIfInBounds_toArray, List.set_cons_zero, List.set_cons_succ, p1, p2, p6]
                          go_simp; refine (HRCC.out wx (HKd.out.fresh hE)).mono ?_; rintro e w9 ⟨v9, rfl, ho9, hk9⟩; obtain ⟨A2, c2, e9, _, _, hr9⟩ := ho9.reads; rw [HML.out] at e9; subst e9; (with_reducible refine hK.out _ _ ?_ ?_); exact rfl; exact ⟨hk9, A2, c2, rfl, hid (hr9.mono (fun _ _ _ => trivial))⟩
                        case s8 =>
                          intro V wx hE hd
                          obtain ⟨u0, hb0, hu0, p0⟩ : ∃ U, Keeps NoB wr.drew U ∧ Keeps NoB U wx ∧ ((V 127) = Value.slice (some ⟨g7, 0, none⟩) m c7) := hd 0 (by decide)
                          obtain ⟨u7, hb7, hu7, p7⟩ : ∃ U, Keeps NoB wr.drew U ∧ Keeps NoB U wx ∧ (∃ (A2 : Option Addr) (c2 : Nat), (V 134) = Value.slice A2 m c2 ∧ Hid (RowsIn (fun _ => True) U A2 cmp2)) := hd 7 (by decide)
                          clear hd
                          clear hb0 hu0
                          obtain ⟨A2, c2, q7, hrw⟩ := p7
                          intro K hK
                          simp only [rput, List.foldl_cons, List.foldl_nil, Act.put, List.setIfInBounds_toArray, List.set_cons_zero, List.set_cons_succ, p0, q7]
                          go_simp; refine (HSM.out A2 c2 _ wx (HKd.out.fresh hE) (hrw.out.kept hu7)).mono ?_; rintro e w9 ⟨rfl, hk9⟩; (with_reducible refine hK.out _ _ ?_ ?_); exact rfl; exact ⟨hk9, rfl⟩
                        case s9 =>
                          intro V wx hE hd
                          obtain ⟨u8, hb8, hu8, p8⟩ : ∃ U, Keeps NoB wr.drew U ∧ Keeps NoB U wx ∧ ((V 135) = Value.bool bs) := hd 8 (by decide)
                          clear hd
                          clear hb8 hu8
                          intro K hK
                          simp only [rput, List.foldl_cons, List.foldl_nil, Act.put, List.setIfInBounds_toArray, List.set_cons_zero, List.set_cons_succ, p8]
                          go_simp; (with_reducible refine hK.out _ _ ?_ ?_); exact rfl; exact ⟨Keeps.refl _ _, rfl⟩
                        case fin =>
                          intro V wz hE hd
                          obtain ⟨u9, hb9, hu9, p9⟩ : ∃ U, Keeps NoB wr.drew U ∧ Keeps NoB U wz ∧ ((V 9) = Value.bool bs) := hd 9 (by decide)
                          clear hd
                          clear hb9 hu9
                          simp only [rput, List.foldl_cons, List.foldl_nil, Act.put, List.setIfInBounds_toArray, List.set_cons_zero, List.set_cons_succ, p9]
                          clear p9
                          have HKz := hid (HKd.out.fresh hE)
                          obtain ⟨e0, e1, e2, e3, e4⟩ := HRP.out wz HKz.out
                          have e5 := HQP.out wz HKz.out
                          clear t0 t1 t1n
                          go_wp2_with fail
                          refine (HR3.out wz HKz.out).mono ?_
                          rintro e w9 ⟨rfl, hk9⟩
                          have HKw := hid (HK3.out.fresh (HK5.out.fresh (HK5t.out.fresh (HK9.out.fresh (HKz.out.fresh hk9)))))
                          clear hk9 e0 e1 e2 e3 e4 e5
                          go_wp2_with fail
                          go_ret
                          exact ⟨by simp, HKw.out⟩
                  · have dt1 : decide (tl ≤ (Q : Int)) = false := decide_eq_false h1
                    have HRB := hid (show rightB p session tl (turnR comp kk (turnB (gr comp kk) ja yb)) = false by rw [HRS.out, dt1]; simp)
                    rw [hll, HRB.out] at HRT
                    clear h0 h1 hll
                    go_wp2_with fail
                    refine HRT.out.mono ?_
                    rintro e w9 ⟨rfl, hk9⟩
                    have HK9 := hid ((HK3.out.fresh (HK5.out.fresh HK5t.out)).fresh hk9)
                    clear hk9
                    go_wp2_with fail
                    go_ret
                    exact ⟨rfl, HK9.out⟩
                · have dt0 : decide (0 ≤ tl) = false := decide_eq_false h0
                  have HRB := hid (show rightB p session tl (turnR comp kk (turnB (gr comp kk) ja yb)) = false by rw [HRS.out, dt0]; simp)
                  rw [hll, HRB.out] at HRT
                  clear h0 hll
                  go_wp2_with fail
                  refine HRT.out.mono ?_
                  rintro e w9 ⟨rfl, hk9⟩
                  have HK9 := hid ((HK3.out.fresh (HK5.out.fresh HK5t.out)).fresh hk9)
                  clear hk9
                  go_wp2_with fail
                  go_ret
                  exact ⟨rfl, HK9.out⟩
      · rw [mayB_false hm] at hmay
        clear hm
        go_wp2_with fail
        refine (hbig.out _).mono ?_
        rintro e w4 ⟨rfl, HK4⟩
        have HK4 := hid HK4
        clear r0 r1 r2 r3 r4
        obtain ⟨r0, r1, r2, r3, r4⟩ := HC5.out w4 HK4.out
        go_wp2_with fail
        refine (hmay.out _).mono ?_
        rintro e w5 ⟨rfl, hk5⟩
        have HK5 := hid (HK4.out.fresh hk5)
        go_wp2_with fail
        go_ret
        exact ⟨rfl, HK3.out.fresh HK5.out⟩
end Go.Proofs.Ytnnkfopopanfjaa
