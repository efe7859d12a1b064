/- The first words of the laws of frames: the walks of almonrylaw14.speaks, small. No condition. -/
import Derived.Test.YtpkkaicpbihjfaaComposite
import Derived.Test.YtpkkaicpbihjfaaSpeaks13
set_option linter.unusedVariables false
set_option linter.unusedSimpArgs false
namespace Go.Proofs.Ytpkkaicpbihjfaa
open Go.RowKit
attribute [local go_sem ↓] Go.wp_at_zero Go.wp_at_succ

def par14 : Par := ⟨1, 2, 1, 1000, 2⟩
theorem par14_may : par14.may := by decide
theorem aux14 : auxN par14 = 1 := by decide
theorem of14 (s i : Nat) : ofN par14 s i = [0] := by
  unfold ofN
  rw [aux14]
  exact someN_all _ 1
theorem has14 (s : Nat) : hasN par14 s 1 = [[0]] := by
  show putAll (List.replicate (auxN par14).toNat []) 0 (ofN par14 s 0) = _
  rw [of14, aux14]; rfl
theorem comp14 (s : Nat) : compN par14 s [5, 6] = [[5, 6], [5, 6]] := by
  have e : compN par14 s [5, 6] = splitN par14 [5, 6] ++ [sumB 2 (pickR (splitN par14 [5, 6]) (gl (hasN par14 s 1) 0))] := by
    unfold compN; rw [aux14]; rfl
  rw [e, has14]
  rfl
set_option maxHeartbeats 2000000 in
set_option maxRecDepth 20000 in
theorem speaks14_calls (w : World) : Calls Try.prog 19 #[] w fun e w' => e = .returned (.bool true) ∧ Keeps NoB w w' := by
  have hu := Try.underlying23
  have huh := Try.underlying53
  have hup := Try.underlying55
  have HN := hid (fun (W : World) (B : Option Addr) (cB : Nat) (R' : Nat → Prop) (h : BytesIn R' W B [5, 6]) (hc : 2 ≤ cB) => emitNew_yes par14 7 [5, 6] B cB R' W par14_may (by decide) h hc (by decide))
  have HP := hid (fun (W : World) (c : Nat) (h : EncAt W c par14 7 [5, 6]) => packet_calls c par14 7 [5, 6] 3 W h par14_may (by decide) (by decide))
  have HF := hid (fun (W : World) (c : Nat) (h : EncAt W c par14 7 [5, 6]) => frame_calls c par14 7 [5, 6] 3 W h par14_may (by decide) (by decide) (by decide))
  have HC := hid (fun (W : World) (c : Nat) (h : EncAt W c par14 7 [5, 6]) => composite_calls c par14 7 [5, 6] 1 W h par14_may)
  rw [comp14] at HC
  rw [show cmpN [[5, 6], [5, 6]] 1 = [5, 6] from rfl] at HC
  rw [show 42 + par14.b.toNat = 44 from rfl] at HF
  rw [show par14.b.toNat = 2 from rfl] at HP
  rw [show ([5, 6] : List UInt8).length = 2 from rfl] at HP HN
  have hv : par14.val = .agg #[.int .i64 1, .int .i64 2, .int .i64 1, .int .i64 1000, .int .i64 2] := rfl
  rw [hv] at HN
  have hv2 : (par14.n, par14.b, par14.q, par14.eps, par14.f) = ((1 : Int), (2 : Int), (1 : Int), (1000 : Int), (2 : Int)) := rfl
  simp only [show par14.n = 1 from rfl, show par14.b = 2 from rfl, show par14.q = 1 from rfl, show par14.eps = 1000 from rfl, show par14.f = 2 from rfl] at HP
  clear hv hv2
  go_enter Try.func19, Try.ntmps19
  go_wp2_with fail
  refine (HN.out _ (some ⟨w.heap.size, 0, none⟩) 2 (fun _ => True) (BytesIn.ofBlock [5, 6] (by exact heap_alloc_new w _) (by decide) trivial) (by omega)).mono ?_
  rintro e w1 ⟨c, rfl, he, hk1⟩
  have HE := hid he
  have HK1 := hid (((Keeps.refl NoB w).alloc _).fresh hk1)
  clear he hk1
  go_wp2_with fail
  refine (HP.out _ c HE.out).mono ?_
  rintro e w2 ⟨Ap, cp, rfl, ho2, hk2⟩
  have HE2 := hid (HE.out.kept hk2)
  have HK2 := hid (HK1.out.fresh hk2)
  have HB3 := hid (heap_alloc_new w2 (.cells #[.int .u64 7, .int .i64 1, .int .i64 2, .int .i64 1, .int .i64 1000, .int .i64 2, .int .i64 2, .int .u64 3, .slice Ap 2 cp] 55))
  have HK3 := hid ((Keeps.refl NoB w2).alloc (.cells #[.int .u64 7, .int .i64 1, .int .i64 2, .int .i64 1, .int .i64 1000, .int .i64 2, .int .i64 2, .int .u64 3, .slice Ap 2 cp] 55))
  clear ho2 hk2 HE
  go_wp2_with fail
  refine (HF.out _ c (HE2.out.kept HK3.out)).mono ?_
  rintro e w4 ⟨A4, c4, rfl, ho4, hk4⟩
  have HE4 := hid ((HE2.out.kept HK3.out).kept hk4)
  have HK4 := hid ((HK2.out.fresh HK3.out).fresh hk4)
  clear ho4 hk4
  go_wp2_with fail
  refine (HC.out _ c HE4.out).mono ?_
  rintro e w5 ⟨v5, rfl, ho5, hk5⟩
  obtain ⟨A5, c5, hv5, _, _, hb5⟩ := OwnB.reads ho5
  have f5 := conv_run 25 9 Try.underlying25 Try.underlying9 hb5 c5
  subst hv5
  simp only [List.length_cons, List.length_nil, Nat.zero_add, Nat.reduceAdd] at f5 ⊢
  have HKW := hid (HK4.out.fresh hk5)
  have deq : ((strOf [5, 6]).toList == [5, 6]) = true := by rw [strOf_toList]; rfl
  clear ho5 hk5 hb5
  go_wp2_with fail
  go_ret
  exact ⟨rfl, HKW.out⟩
/-- Is an object one that may be, and no more than is looked at? -/
def smallN (p : Par) (L : Nat) : Bool := mayB p && decide (p.n ≤ 60) && decide (p.b ≤ 60) && decide (p.f ≤ 200) && decide ((L : Int) ≤ p.n * p.b)
theorem smallN_yes {p : Par} {L : Nat} (h : smallN p L = true) : p.may ∧ p.n ≤ 60 ∧ p.b ≤ 60 ∧ p.f ≤ 200 ∧ (L : Int) ≤ p.n * p.b := by
  unfold smallN mayB at h
  simp only [Bool.and_eq_true, decide_eq_true_eq] at h
  obtain ⟨⟨⟨⟨h1, h2⟩, h3⟩, h4⟩, h5⟩ := h
  exact ⟨h1, h2, h3, h4, h5⟩
set_option maxHeartbeats 2000000 in
set_option maxRecDepth 20000 in
theorem small_calls (p : Par) (A : Option Addr) (L c : Nat) (w : World) (hL : L ≤ 9223372036854775807) : Calls Try.prog 26 #[p.val, .slice A L c] w fun e w' => e = .returned (.bool (smallN p L)) ∧ Keeps NoB w w' := by
  have hu := Try.underlying23
  have HCK := hid (may_calls p)
  unfold Par.val at HCK ⊢
  have HB := hid (heap_alloc_new w (.cells #[.int .i64 p.n, .int .i64 p.b, .int .i64 p.q, .int .i64 p.eps, .int .i64 p.f] 23))
  have HK := hid ((Keeps.refl NoB w).alloc (.cells #[.int .i64 p.n, .int .i64 p.b, .int .i64 p.q, .int .i64 p.eps, .int .i64 p.f] 23))
  obtain ⟨wa, hwa⟩ : ∃ wa, w.alloc (.cells #[.int .i64 p.n, .int .i64 p.b, .int .i64 p.q, .int .i64 p.eps, .int .i64 p.f] 23) = wa := ⟨_, rfl⟩
  rw [hwa] at HB HK
  obtain ⟨pb, hpb⟩ : ∃ pb, w.heap.size = pb := ⟨_, rfl⟩
  rw [hpb] at HB
  have HC0 := hid (fun (W : World) (hW : Keeps NoB wa W) => cells5 (hW.heap HB.out (fun h => h)))
  by_cases hm : p.may
  · have hc := hid (mayB_true hm)
    obtain ⟨N, B, e1, e2, e3, e4, e5, e6, e7, e8, hNB, hNB2⟩ := par_sizes hm
    have hr := hid (show smallN p L = (decide (p.n ≤ 60) && decide (p.b ≤ 60) && decide (p.f ≤ 200) && decide ((L : Int) ≤ p.n * p.b)) by unfold smallN; rw [mayB_true hm, Bool.true_and])
    rw [hNB] at hr
    have hNBi : p.n * p.b = ((N * B : Nat) : Int) := hNB
    generalize N * B = M at *
    clear e1 e2 e3 e4 e5 e6 e7 e8 hm hNB
    have m0 : (0 : Int) ≤ (M : Int) := by omega
    have m1 : (M : Int) ≤ 68718428160 := by omega
    have hw1 : wrap64 (M : Int) = (M : Int) := IntWalk.wrap64_in _ ⟨by omega, by omega⟩
    go_enter Try.func26, Try.ntmps26
    obtain ⟨b0, b1, b2, b3, b4⟩ := HC0.out wa (Keeps.refl _ _)
    by_cases h1 : p.n ≤ 60
    · have d1 : decide (p.n ≤ 60) = true := decide_eq_true h1
      by_cases h2 : p.b ≤ 60
      · have d2 : decide (p.b ≤ 60) = true := decide_eq_true h2
        by_cases h3 : p.f ≤ 200
        · have d3 : decide (p.f ≤ 200) = true := decide_eq_true h3
          rw [d1, d2, d3] at hr
          have hr := hid (show smallN p L = decide (L ≤ M) by rw [hr.out, show decide ((L : Int) ≤ (M : Int)) = decide (L ≤ M) from decide_eq_decide.mpr (by omega)]; rfl)
          clear h1 h2 h3
          go_wp2_with fail
          refine (HCK.out _).mono ?_
          rintro e w1 ⟨rfl, HK1⟩
          rw [hc.out]
          have HK1 := hid HK1
          clear b0 b1 b2 b3 b4 hwa hpb
          obtain ⟨b0, b1, b2, b3, b4⟩ := HC0.out w1 HK1.out
          go_wp2_with fail
          go_ret
          exact ⟨by rw [hr.out]; rfl, HK.out.fresh HK1.out⟩
        · have d3 : decide (p.f ≤ 200) = false := decide_eq_false h3
          have hr := hid (show smallN p L = false by rw [hr.out, d3]; simp)
          clear h1 h2 h3
          go_wp2_with fail
          refine (HCK.out _).mono ?_
          rintro e w1 ⟨rfl, HK1⟩
          rw [hc.out]
          have HK1 := hid HK1
          clear b0 b1 b2 b3 b4 hwa hpb
          obtain ⟨b0, b1, b2, b3, b4⟩ := HC0.out w1 HK1.out
          go_wp2_with fail
          go_ret
          exact ⟨by rw [hr.out]; rfl, HK.out.fresh HK1.out⟩
      · have d2 : decide (p.b ≤ 60) = false := decide_eq_false h2
        have hr := hid (show smallN p L = false by rw [hr.out, d2]; simp)
        clear h1 h2
        go_wp2_with fail
        refine (HCK.out _).mono ?_
        rintro e w1 ⟨rfl, HK1⟩
        rw [hc.out]
        have HK1 := hid HK1
        clear b0 b1 b2 b3 b4 hwa hpb
        obtain ⟨b0, b1, b2, b3, b4⟩ := HC0.out w1 HK1.out
        go_wp2_with fail
        go_ret
        exact ⟨by rw [hr.out]; rfl, HK.out.fresh HK1.out⟩
    · have d1 : decide (p.n ≤ 60) = false := decide_eq_false h1
      have hr := hid (show smallN p L = false by rw [hr.out, d1]; simp)
      clear h1
      go_wp2_with fail
      refine (HCK.out _).mono ?_
      rintro e w1 ⟨rfl, HK1⟩
      rw [hc.out]
      have HK1 := hid HK1
      clear b0 b1 b2 b3 b4 hwa hpb
      obtain ⟨b0, b1, b2, b3, b4⟩ := HC0.out w1 HK1.out
      go_wp2_with fail
      go_ret
      exact ⟨by rw [hr.out]; rfl, HK.out.fresh HK1.out⟩
  · have hc := hid (mayB_false hm)
    have hr := hid (show smallN p L = false by unfold smallN; rw [mayB_false hm]; simp)
    clear hm
    go_enter Try.func26, Try.ntmps26
    obtain ⟨b0, b1, b2, b3, b4⟩ := HC0.out wa (Keeps.refl _ _)
    go_wp2_with fail
    refine (HCK.out _).mono ?_
    rintro e w1 ⟨rfl, HK1⟩
    rw [hc.out]
    have HK1 := hid HK1
    clear b0 b1 b2 b3 b4 hwa hpb
    obtain ⟨b0, b1, b2, b3, b4⟩ := HC0.out w1 HK1.out
    go_wp2_with fail
    go_ret
    exact ⟨by rw [hr.out]; rfl, HK.out.fresh HK1.out⟩
end Go.Proofs.Ytpkkaicpbihjfaa
