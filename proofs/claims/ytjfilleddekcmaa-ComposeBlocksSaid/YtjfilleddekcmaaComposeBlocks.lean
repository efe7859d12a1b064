/- All composite blocks of any object: the walk of the law ComposeBlocks. Conditions: numbers are of their kinds. -/
import Derived.Test.YtjfilleddekcmaaJoinMath
import Derived.Test.YtjfilleddekcmaaBytesRow
set_option linter.unusedVariables false
namespace Go.Proofs.Ytjfilleddekcmaa
open Go.RowKit
attribute [local go_sem ↓] Go.wp_at_zero Go.wp_at_succ

theorem bigN_no {p : Par} (h : bigN p = false) : p.n ≤ 60 ∧ p.b ≤ 60 ∧ -60 ≤ p.n := by
  have := of_decide_eq_false h; omega
set_option maxHeartbeats 2000000 in
set_option maxRecDepth 20000 in
theorem composeBlocks_walk (p : Par) (session : Nat) (obj : List UInt8) (A : Option Addr) (c : Nat) (w : World) (hwf : p.wf) (hs : session < 18446744073709551616) (ho : BytesIn (fun _ => True) w A obj) (hcap : obj.length ≤ c) :
    Calls Try.prog 10 #[p.val, .int .u64 (session : Int), .slice A obj.length c] w fun e w' => e = .returned (.bool true) ∧ Keeps NoB w w' := by
  have hu := Try.underlying50
  have HO := hid ho
  have HWF := hid hwf
  have hlen := ho.len
  have hbA := hid (heap_alloc_new w (.cells #[.int .i64 p.n, .int .i64 p.b, .int .i64 p.q, .int .i64 p.eps, .int .i64 p.f] 50))
  have hS := hid (fun w' (hk : Keeps NoB (w.alloc (.cells #[.int .i64 p.n, .int .i64 p.b, .int .i64 p.q, .int .i64 p.eps, .int .i64 p.f] 50)) w') => cells5 (hk.heap hbA.out (fun h => h)))
  have HKa := hid ((Keeps.refl NoB w).alloc (.cells #[.int .i64 p.n, .int .i64 p.b, .int .i64 p.q, .int .i64 p.eps, .int .i64 p.f] 50))
  generalize hwa : w.alloc (.cells #[.int .i64 p.n, .int .i64 p.b, .int .i64 p.q, .int .i64 p.eps, .int .i64 p.f] 50) = wa at *
  obtain ⟨pb, hpb⟩ : ∃ pb, w.heap.size = pb := ⟨_, rfl⟩
  rw [hpb] at hS
  have hbig := hid (fun w' => big13_calls p w')
  have hmay := hid (fun w' => may_calls p w')
  obtain ⟨L, hL⟩ : ∃ L, obj.length = L := ⟨_, rfl⟩
  have HL := hid hL
  rw [hL] at hcap hlen ⊢
  clear ho hwf hbA hL
  by_cases hbg : bigN p = true
  · rw [hbg] at hbig
    unfold Par.val at hbig ⊢
    clear hbg
    go_enter Try.func10, Try.ntmps10
    go_wp2_with fail
    refine (speaks13_calls _).mono ?_
    rintro e w1 ⟨rfl, HK1⟩
    obtain ⟨b0, b1, b2, b3, b4⟩ := hS.out _ HK1
    have HK1 := hid (HKa.out.fresh HK1)
    go_wp2_with fail
    refine (hbig.out _).mono ?_
    rintro e w2 ⟨rfl, HK2⟩
    have HK2 := hid (HK1.out.fresh HK2)
    go_wp2_with fail
    go_ret
    exact ⟨rfl, HK2.out⟩
  · have hbg : bigN p = false := by simpa using hbg
    rw [hbg] at hbig
    have HB60 := hid (bigN_no hbg)
    clear hbg
    by_cases h4 : 4000 < L
    · have d4 : decide ((4000 : Int) < (L : Int)) = true := decide_eq_true (by omega)
      have d4n : decide (4000 < L) = true := decide_eq_true h4
      unfold Par.val at hbig ⊢
      clear h4
      go_enter Try.func10, Try.ntmps10
      go_wp2_with fail
      refine (speaks13_calls _).mono ?_
      rintro e w1 ⟨rfl, HK1⟩
      obtain ⟨b0, b1, b2, b3, b4⟩ := hS.out _ HK1
      have HK1 := hid HK1
      go_wp2_with fail
      refine (hbig.out _).mono ?_
      rintro e w2 ⟨rfl, HK2⟩
      have HK2 := hid (HK1.out.fresh HK2)
      clear b0 b1 b2 b3 b4
      obtain ⟨b0, b1, b2, b3, b4⟩ := hS.out _ HK2.out
      go_wp2_with fail
      go_ret
      exact ⟨rfl, HKa.out.fresh HK2.out⟩
    · have d4 : decide ((4000 : Int) < (L : Int)) = false := decide_eq_false (by omega)
      have d4n : decide (4000 < L) = false := decide_eq_false h4
      clear h4
      by_cases hm : p.may
      · have hmb := mayB_true hm
        rw [hmb] at hmay
        obtain ⟨N, B, hpn, hpb', hpn2, hpb2, hN1, hN2, hB1, hB2, hNB, hNB2⟩ := par_sizes hm
        obtain ⟨M, hM⟩ : ∃ M, N * B = M := ⟨_, rfl⟩
        rw [hM] at hNB hNB2
        have hMi : (N : Int) * (B : Int) = (M : Int) := by rw [← hM]; exact (Int.natCast_mul N B).symm
        have hwm : IntKind.i64.wrap (M : Int) = (M : Int) := IntWalk.i64_in _ (by omega)
        by_cases hlg : M < L
        · have d5 : decide ((M : Int) < (L : Int)) = true := decide_eq_true (by omega)
          have d5n : decide (M < L) = true := decide_eq_true hlg
          have hcl := hid (fun w' => comp_long p session obj A c w' hm (by rw [hNB, HL.out]; omega) (by rw [HL.out]; exact hlen))
          rw [HL.out] at hcl
          unfold Par.val at hbig hmay hcl ⊢
          rw [hpn, hpb'] at hS
          rw [hpn, hpb'] at hbig hmay hcl
          rw [hpn, hpb']
          rw [hpn, hpb'] at hwa
          clear hm hmb hpn hpb' hpn2 hpb2 hNB hM hlg
          go_enter Try.func10, Try.ntmps10
          go_wp2_with fail
          refine (speaks13_calls _).mono ?_
          rintro e w1 ⟨rfl, HK1⟩
          obtain ⟨b0, b1, b2, b3, b4⟩ := hS.out _ HK1
          have HK1 := hid HK1
          go_wp2_with fail
          refine (hbig.out _).mono ?_
          rintro e w2 ⟨rfl, HK2⟩
          have HK2 := hid (HK1.out.fresh HK2)
          clear b0 b1 b2 b3 b4
          obtain ⟨b0, b1, b2, b3, b4⟩ := hS.out _ HK2.out
          go_wp2_with fail
          refine (hcl.out _).mono ?_
          rintro e w3 ⟨rfl, HK3⟩
          have HK3 := hid (HK2.out.fresh HK3)
          clear b0 b1 b2 b3 b4
          obtain ⟨b0, b1, b2, b3, b4⟩ := hS.out _ HK3.out
          go_wp2_with fail
          refine (hmay.out _).mono ?_
          rintro e w4 ⟨rfl, HK4⟩
          have HK34 := hid HK4
          have HK4 := hid (HK3.out.fresh HK4)
          clear b0 b1 b2 b3 b4
          obtain ⟨b0, b1, b2, b3, b4⟩ := hS.out _ HK4.out
          go_wp2_with fail
          go_ret
          exact ⟨rfl, HKa.out.fresh HK4.out⟩
        · have d5 : decide ((M : Int) < (L : Int)) = false := decide_eq_false (by omega)
          have d5n : decide (M < L) = false := decide_eq_false hlg
          have hle : (obj.length : Int) ≤ p.n * p.b := by rw [hNB, HL.out]; omega
          have hco := hid (HO.out.kept HKa.out)
          have hcy := hid (fun w' (hk : Keeps NoB wa w') => comp_yes p session obj A c _ w' hm hs (hco.out.kept hk) (by rw [HL.out]; exact hcap) hle)
          have hrc := hid (fun w' (hk : Keeps NoB wa w') => rcomp_calls p session obj A c _ w' hm hs (hco.out.kept hk) HB60.out.1)
          have hrr := hid (fun w' (V : Option Addr) (cv : Nat) (R : Nat → Prop) (hb : RowsIn R w' V (compN p session obj)) (hc : (compN p session obj).length ≤ cv) (hV : V = none → cv = 0) => right_calls p session (obj.length : Int) (compN p session obj) V cv R w' HWF.out hs (by omega) (by rw [HL.out]; omega) hb hc hV)
          have hrt := hid (right_comp hm session obj hle)
          rw [hrt.out] at hrr
          rw [HL.out] at hcy hrc hrr
          have hsame := hid (fun w' (V1 V2 : Option Addr) (c1 c2 : Nat) (R1 R2 : Nat → Prop) (h1 : RowsIn R1 w' V1 (compN p session obj)) (h2 : RowsIn R2 w' V2 (compN p session obj)) => same13_calls (compN p session obj) (compN p session obj) V1 V2 c1 c2 R1 R2 w' h1 h2)
          rw [show sameB (compN p session obj) (compN p session obj) = true from decide_eq_true rfl] at hsame
          generalize compN p session obj = W at *
          obtain ⟨m, hmW⟩ : ∃ m, W.length = m := ⟨_, rfl⟩
          rw [hmW] at hsame hrr
          have HMW := hid hmW
          unfold Par.val at hbig hmay hcy hrc hrr ⊢
          rw [hpn, hpb'] at hS hbig hmay hcy hrc hrr ⊢
          rw [hpn, hpb'] at hwa
          clear hm hmb hpn hpb' hpn2 hpb2 hNB hM hlg hle hrt hmW
          go_enter Try.func10, Try.ntmps10
          go_wp2_with fail
          refine (speaks13_calls _).mono ?_
          rintro e w1 ⟨rfl, HK1⟩
          obtain ⟨b0, b1, b2, b3, b4⟩ := hS.out _ HK1
          have HK1 := hid HK1
          go_wp2_with fail
          refine (hbig.out _).mono ?_
          rintro e w2 ⟨rfl, HK2⟩
          have HK2 := hid (HK1.out.fresh HK2)
          clear b0 b1 b2 b3 b4
          obtain ⟨b0, b1, b2, b3, b4⟩ := hS.out _ HK2.out
          go_wp2_with fail
          refine (hcy.out _ HK2.out).mono ?_
          rintro e w3 ⟨v3, rfl, hown3, HK3⟩
          obtain ⟨A3, c3, hv3, hc3, hA3, hb3⟩ := hown3.reads
          rw [HMW.out] at hv3 hc3
          subst hv3
          have HB3 := hid hb3
          have HA3 := hid hA3
          have HK3 := hid (HK2.out.fresh HK3)
          clear b0 b1 b2 b3 b4 hown3 hb3 hA3
          obtain ⟨b0, b1, b2, b3, b4⟩ := hS.out _ HK3.out
          go_wp2_with fail
          refine (hmay.out _).mono ?_
          rintro e w4 ⟨rfl, HK4⟩
          have HK34 := hid HK4
          have HK4 := hid (HK3.out.fresh HK4)
          clear b0 b1 b2 b3 b4
          obtain ⟨b0, b1, b2, b3, b4⟩ := hS.out _ HK4.out
          go_wp2_with fail
          refine (hrc.out _ HK4.out).mono ?_
          rintro e w5 ⟨v5, rfl, hown5, HK5⟩
          obtain ⟨A5, c5, hv5, hc5, _, hb5⟩ := hown5.reads
          rw [HMW.out] at hv5 hc5
          subst hv5
          have HB5 := hid hb5
          have HB3' := hid (HB3.out.kept (HK34.out.fresh HK5))
          have HK5 := hid (HK4.out.fresh HK5)
          clear b0 b1 b2 b3 b4 hown5 hb5
          obtain ⟨b0, b1, b2, b3, b4⟩ := hS.out _ HK5.out
          go_wp2_with fail
          refine (hsame.out _ A3 A5 c3 c5 _ _ HB3'.out HB5.out).mono ?_
          rintro e w6 ⟨rfl, HK6⟩
          have HB6 := hid (HB3'.out.kept HK6)
          have HK6 := hid (HK5.out.fresh HK6)
          clear b0 b1 b2 b3 b4
          obtain ⟨b0, b1, b2, b3, b4⟩ := hS.out _ HK6.out
          go_wp2_with fail
          refine (hrr.out _ A3 c3 _ HB6.out hc3 HA3.out).mono ?_
          rintro e w7 ⟨rfl, HK7⟩
          have HK7 := hid (HK6.out.fresh HK7)
          go_wp2_with fail
          go_ret
          exact ⟨rfl, HKa.out.fresh HK7.out⟩
      · have hmb := mayB_false hm
        rw [hmb] at hmay
        have hcn := hid (fun w' => comp_no p session A L c w' hm)
        unfold Par.val at hbig hmay hcn ⊢
        clear hm hmb
        go_enter Try.func10, Try.ntmps10
        go_wp2_with fail
        refine (speaks13_calls _).mono ?_
        rintro e w1 ⟨rfl, HK1⟩
        obtain ⟨b0, b1, b2, b3, b4⟩ := hS.out _ HK1
        have HK1 := hid HK1
        go_wp2_with fail
        refine (hbig.out _).mono ?_
        rintro e w2 ⟨rfl, HK2⟩
        have HK2 := hid (HK1.out.fresh HK2)
        clear b0 b1 b2 b3 b4
        obtain ⟨b0, b1, b2, b3, b4⟩ := hS.out _ HK2.out
        go_wp2_with fail
        refine (hcn.out _).mono ?_
        rintro e w3 ⟨rfl, HK3⟩
        have HK3 := hid (HK2.out.fresh HK3)
        clear b0 b1 b2 b3 b4
        obtain ⟨b0, b1, b2, b3, b4⟩ := hS.out _ HK3.out
        go_wp2_with fail
        refine (hmay.out _).mono ?_
        rintro e w4 ⟨rfl, HK4⟩
        have HK4 := hid (HK3.out.fresh HK4)
        clear b0 b1 b2 b3 b4
        obtain ⟨b0, b1, b2, b3, b4⟩ := hS.out _ HK4.out
        go_wp2_with fail
        go_ret
        exact ⟨rfl, HKa.out.fresh HK4.out⟩
end Go.Proofs.Ytjfilleddekcmaa
