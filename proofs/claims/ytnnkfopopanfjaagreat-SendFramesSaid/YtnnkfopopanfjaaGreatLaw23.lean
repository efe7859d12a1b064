/- The first words of the laws of senders: the walks of almonrylaw23.speaks, small. No condition. -/
import Derived.Test.YtnnkfopopanfjaaGreatSend2
set_option linter.unusedVariables false
set_option linter.unusedSimpArgs false
namespace Go.Proofs.YtnnkfopopanfjaaGreat
open Go.RowKit
attribute [local go_sem ↓] Go.wp_at_zero Go.wp_at_succ

theorem bytes_ofBlock {R : Nat → Prop} {w : World} {b : Nat} {e : TypeId} {fr : Nat × Nat} (l : List UInt8) (h : w.heap[b]? = some (.cells ((enc8 l).map (Value.int .u8)).toArray e fr)) (hl : l.length ≤ 9223372036854775807) (hR : R b) : BytesIn R w (some ⟨b, 0, none⟩) l :=
  ⟨IntsAt.ofBlock (enc8 l) h (by rw [enc8_length]; exact hl), fun b' off e' _ => by injection e' with e'; injection e' with e' _; subst e'; exact hR⟩
def par23 : Par := ⟨1, 1, 1, 1000, 2⟩
theorem par23_may : par23.may := by decide
theorem nxt_last : nxt 18446744073709551615 = 0 := by rw [nxt_eq]
theorem nxt_first : nxt 0 = 1 := by rw [nxt_eq]
set_option maxHeartbeats 2000000 in
set_option maxRecDepth 20000 in
theorem speaks23_calls (w : World) : Calls Tryz.prog 4 #[] w fun e w' => e = .returned (.bool true) ∧ Keeps NoB w w' := by
  have hu := Tryz.underlying23
  have HN := hid (fun (W : World) (B : Option Addr) (cB : Nat) (R' : Nat → Prop) (h : BytesIn R' W B [5]) (hc : 1 ≤ cB) => sndNew_yes par23 7 18446744073709551615 [5] B 1 cB R' rfl W par23_may (by decide) h hc (by decide))
  have HX := hid (fun (W : World) (s n k : Nat) (hn : n < 18446744073709551616) (hk : k ≤ 10) (h : SndAt W s par23 7 [5] n k false) => sndNext_yes s par23 7 [5] n k W h par23_may (by decide) (by decide) hn (by omega))
  have HI := hid (fun (W : World) (s n k : Nat) (o : Bool) (h : SndAt W s par23 7 [5] n k o) => sndID_calls s par23 7 [5] n k o W h)
  have HT := hid (fun (W : World) (s n k : Nat) (o : Bool) (h : SndAt W s par23 7 [5] n k o) => sndSent_calls s par23 7 [5] n k o W h)
  have HS := hid (fun (W : World) (s n k : Nat) (o : Bool) (h : SndAt W s par23 7 [5] n k o) => sndStop_calls s par23 7 [5] n k o W h)
  have HD := hid (fun (W : World) (s n k : Nat) (A : Option Addr) (m c : Nat) (h : SndAt W s par23 7 [5] n k true) => sndSend_no s par23 7 [5] n k A m c W h)
  rw [show 42 + par23.b.toNat = 43 from rfl] at HX
  have hv : par23.val = .agg #[.int .i64 1, .int .i64 1, .int .i64 1, .int .i64 1000, .int .i64 2] := rfl
  rw [hv] at HN
  clear hv
  have HNL := hid nxt_last
  have HNF := hid nxt_first
  go_enter Tryz.func4, Tryz.ntmps4
  go_wp2_with fail
  refine (HN.out _ (some ⟨w.heap.size, 0, none⟩) 1 (fun _ => True) (bytes_ofBlock [5] (by exact heap_alloc_new w _) (by decide) trivial) (by omega)).mono ?_
  rintro e w1 ⟨s, rfl, he, hs, hk1⟩
  have HE1 := hid (he w1 (Keeps.refl _ _))
  have HK1 := hid (((Keeps.refl NoB w).alloc _).fresh hk1)
  have HSZ := hid (show w.heap.size ≤ s by simp only [World.size_alloc] at hs; omega)
  clear he hk1 hs
  go_wp2_with fail
  refine (HX.out w1 s _ 0 (by omega) (by omega) HE1.out).mono ?_
  rintro e w2 ⟨A2, c2, rfl, ho2, he2, hk2⟩
  rw [HNL.out] at he2
  have HE2 := hid he2
  have HK2 := hid (HK1.out.then hk2 (fun i h hl => by have h : i = s := h; have := HSZ.out; omega))
  clear ho2 he2 hk2
  go_wp2_with fail
  refine (HX.out w2 s 0 1 (by omega) (by omega) HE2.out).mono ?_
  rintro e w3 ⟨A3, c3, rfl, ho3, he3, hk3⟩
  rw [HNF.out] at he3
  have HE3 := hid he3
  have HK3 := hid (HK2.out.then hk3 (fun i h hl => by have h : i = s := h; have := HSZ.out; omega))
  clear ho3 he3 hk3
  go_wp2_with fail
  refine (HI.out w3 s _ _ _ HE3.out).mono ?_
  rintro e w4 ⟨rfl, hk4⟩
  have HE4 := hid (HE3.out.kept hk4)
  have HK4 := hid (HK3.out.fresh hk4)
  clear hk4
  go_wp2_with fail
  refine (HT.out w4 s _ _ _ HE4.out).mono ?_
  rintro e w5 ⟨rfl, hk5⟩
  have HE5 := hid (HE4.out.kept hk5)
  have HK5 := hid (HK4.out.fresh hk5)
  clear hk5
  go_wp2_with fail
  refine (HS.out w5 s _ _ _ HE5.out).mono ?_
  rintro e w6 ⟨rfl, he6, hk6⟩
  have HE6 := hid he6
  have HK6 := hid (HK5.out.then hk6 (fun i h hl => by have h : i = s := h; have := HSZ.out; omega))
  clear hk6 he6
  go_wp2_with fail
  refine (HS.out w6 s _ _ _ HE6.out).mono ?_
  rintro e w7 ⟨rfl, he7, hk7⟩
  have HE7 := hid (he7.kept ((Keeps.refl NoB w7).alloc (.cells #[.int .u64 3] 24)))
  have HK7 := hid ((HK6.out.then hk7 (fun i h hl => by have h : i = s := h; have := HSZ.out; omega)).alloc (.cells #[.int .u64 3] 24))
  clear hk7 he7
  go_wp2_with fail
  refine (HD.out _ s _ _ _ _ _ HE7.out).mono ?_
  rintro e w8 ⟨rfl, hk8⟩
  have HK8 := hid (HK7.out.fresh hk8)
  clear hk8
  go_wp2_with fail
  go_ret
  exact ⟨rfl, HK8.out⟩
/-- Is an object one that may be, and no more than is looked at? -/
def small23 (p : Par) (L M : Nat) : Bool := mayB p && decide (p.n ≤ 40) && decide (p.b ≤ 40) && decide (p.f ≤ 200) && decide ((L : Int) ≤ p.n * p.b) && decide (M ≤ 20)
theorem small23_yes {p : Par} {L M : Nat} (h : small23 p L M = true) : p.may ∧ p.n ≤ 40 ∧ p.b ≤ 40 ∧ p.f ≤ 200 ∧ (L : Int) ≤ p.n * p.b ∧ M ≤ 20 := by
  unfold small23 mayB at h
  simp only [Bool.and_eq_true, decide_eq_true_eq] at h
  obtain ⟨⟨⟨⟨⟨h1, h2⟩, h3⟩, h4⟩, h5⟩, h6⟩ := h
  exact ⟨h1, h2, h3, h4, h5, h6⟩
set_option maxHeartbeats 4000000 in
set_option maxRecDepth 20000 in
theorem small23_calls (p : Par) (session : Nat) (A D : Option Addr) (L c M d : Nat) (w : World) (hL : L ≤ 9223372036854775807) : Calls Tryz.prog 5 #[.agg #[.int .i64 p.n, .int .i64 p.b, .int .i64 p.q, .int .i64 p.eps, .int .i64 p.f, .int .u64 (session : Int), .slice A L c, .slice D M d]] w fun e w' => e = .returned (.bool (small23 p L M)) ∧ Keeps NoB w w' := by
  have hu := Tryz.underlying23
  have huc := Tryz.underlying28
  have HCK := hid (may_calls p)
  unfold Par.val at HCK
  have HB := hid (heap_alloc_new w (.cells #[.int .i64 p.n, .int .i64 p.b, .int .i64 p.q, .int .i64 p.eps, .int .i64 p.f, .int .u64 (session : Int), .slice A L c, .slice D M d] 28))
  have HK := hid ((Keeps.refl NoB w).alloc (.cells #[.int .i64 p.n, .int .i64 p.b, .int .i64 p.q, .int .i64 p.eps, .int .i64 p.f, .int .u64 (session : Int), .slice A L c, .slice D M d] 28))
  obtain ⟨wa, hwa⟩ : ∃ wa, w.alloc (.cells #[.int .i64 p.n, .int .i64 p.b, .int .i64 p.q, .int .i64 p.eps, .int .i64 p.f, .int .u64 (session : Int), .slice A L c, .slice D M d] 28) = wa := ⟨_, rfl⟩
  rw [hwa] at HB HK
  obtain ⟨pb, hpb⟩ : ∃ pb, w.heap.size = pb := ⟨_, rfl⟩
  rw [hpb] at HB
  have HC0 := hid (fun (W : World) (hW : Keeps NoB wa W) => cells8' (hW.heap HB.out (fun h => h)))
  have HL := hid hL
  by_cases hm : p.may
  case neg =>
    have hc := hid (mayB_false hm)
    have hr := hid (show small23 p L M = false by unfold small23; rw [mayB_false hm]; rfl)
    clear hm
    obtain ⟨b0, b1, b2, b3, b4, b5, b6, b7⟩ := HC0.out wa (Keeps.refl _ _)
    go_enter Tryz.func5, Tryz.ntmps5
    go_wp2_with fail
    refine (HCK.out _).mono ?_
    rintro e w1 ⟨rfl, HK1⟩
    rw [hc.out]
    have HK1 := hid HK1
    clear b0 b1 b2 b3 b4 b5 b6 b7 hwa hpb
    obtain ⟨b0, b1, b2, b3, b4, b5, b6, b7⟩ := HC0.out w1 HK1.out
    go_wp2_with fail
    go_ret
    exact ⟨by rw [hr.out]; rfl, HK.out.fresh HK1.out⟩
  have hc := hid (mayB_true hm)
  obtain ⟨N, B, e1, e2, e3, e4, e5, e6, e7, e8, hNB, hNB2⟩ := par_sizes hm
  have hr0 := hid (show small23 p L M = (decide (p.n ≤ 40) && decide (p.b ≤ 40) && decide (p.f ≤ 200) && decide ((L : Int) ≤ p.n * p.b) && decide (M ≤ 20)) by unfold small23; rw [mayB_true hm, Bool.true_and])
  rw [hNB] at hr0
  have hNBi : p.n * p.b = ((N * B : Nat) : Int) := hNB
  generalize N * B = Q at *
  clear e1 e2 e3 e4 e5 e6 e7 e8 hm hNB hL
  have HNBI := hid hNBi
  have HQ := hid hNB2
  clear hNBi hNB2
  by_cases h0 : p.n ≤ 40
  case neg =>
    have d0 : decide (p.n ≤ 40) = false := decide_eq_false h0
    have hr := hid (show small23 p L M = false by rw [hr0.out, d0]; simp)
    clear h0
    obtain ⟨b0, b1, b2, b3, b4, b5, b6, b7⟩ := HC0.out wa (Keeps.refl _ _)
    go_enter Tryz.func5, Tryz.ntmps5
    go_wp2_with fail
    refine (HCK.out _).mono ?_
    rintro e w1 ⟨rfl, HK1⟩
    rw [hc.out]
    have HK1 := hid HK1
    clear b0 b1 b2 b3 b4 b5 b6 b7 hwa hpb
    obtain ⟨b0, b1, b2, b3, b4, b5, b6, b7⟩ := HC0.out w1 HK1.out
    go_wp2_with fail
    go_ret
    exact ⟨by rw [hr.out]; rfl, HK.out.fresh HK1.out⟩
  have d0 : decide (p.n ≤ 40) = true := decide_eq_true h0
  clear h0
  by_cases h1 : p.b ≤ 40
  case neg =>
    have d1 : decide (p.b ≤ 40) = false := decide_eq_false h1
    have hr := hid (show small23 p L M = false by rw [hr0.out, d1]; simp)
    clear h1
    obtain ⟨b0, b1, b2, b3, b4, b5, b6, b7⟩ := HC0.out wa (Keeps.refl _ _)
    go_enter Tryz.func5, Tryz.ntmps5
    go_wp2_with fail
    refine (HCK.out _).mono ?_
    rintro e w1 ⟨rfl, HK1⟩
    rw [hc.out]
    have HK1 := hid HK1
    clear b0 b1 b2 b3 b4 b5 b6 b7 hwa hpb
    obtain ⟨b0, b1, b2, b3, b4, b5, b6, b7⟩ := HC0.out w1 HK1.out
    go_wp2_with fail
    go_ret
    exact ⟨by rw [hr.out]; rfl, HK.out.fresh HK1.out⟩
  have d1 : decide (p.b ≤ 40) = true := decide_eq_true h1
  clear h1
  by_cases h2 : p.f ≤ 200
  case neg =>
    have d2 : decide (p.f ≤ 200) = false := decide_eq_false h2
    have hr := hid (show small23 p L M = false by rw [hr0.out, d2]; simp)
    clear h2
    obtain ⟨b0, b1, b2, b3, b4, b5, b6, b7⟩ := HC0.out wa (Keeps.refl _ _)
    go_enter Tryz.func5, Tryz.ntmps5
    go_wp2_with fail
    refine (HCK.out _).mono ?_
    rintro e w1 ⟨rfl, HK1⟩
    rw [hc.out]
    have HK1 := hid HK1
    clear b0 b1 b2 b3 b4 b5 b6 b7 hwa hpb
    obtain ⟨b0, b1, b2, b3, b4, b5, b6, b7⟩ := HC0.out w1 HK1.out
    go_wp2_with fail
    go_ret
    exact ⟨by rw [hr.out]; rfl, HK.out.fresh HK1.out⟩
  have d2 : decide (p.f ≤ 200) = true := decide_eq_true h2
  clear h2
  by_cases h3 : (L : Int) ≤ (Q : Int)
  case neg =>
    have d3 : decide ((L : Int) ≤ (Q : Int)) = false := decide_eq_false h3
    have hr := hid (show small23 p L M = false by rw [hr0.out, d3]; simp)
    have d3n : decide (L ≤ Q) = false := decide_eq_false (by omega)
    have hNBi := HNBI.out
    have hw1 : wrap64 (Q : Int) = (Q : Int) := IntWalk.wrap64_in _ ⟨by omega, by have := HQ.out; omega⟩
    clear h3
    obtain ⟨b0, b1, b2, b3, b4, b5, b6, b7⟩ := HC0.out wa (Keeps.refl _ _)
    go_enter Tryz.func5, Tryz.ntmps5
    go_wp2_with fail
    refine (HCK.out _).mono ?_
    rintro e w1 ⟨rfl, HK1⟩
    rw [hc.out]
    have HK1 := hid HK1
    clear b0 b1 b2 b3 b4 b5 b6 b7 hwa hpb
    obtain ⟨b0, b1, b2, b3, b4, b5, b6, b7⟩ := HC0.out w1 HK1.out
    go_wp2_with fail
    go_ret
    exact ⟨by rw [hr.out]; rfl, HK.out.fresh HK1.out⟩
  have d3 : decide ((L : Int) ≤ (Q : Int)) = true := decide_eq_true h3
  have d3n : decide (L ≤ Q) = true := decide_eq_true (by omega)
  clear h3
  by_cases h4 : M ≤ 20
  case neg =>
    have d4 : decide (M ≤ 20) = false := decide_eq_false h4
    have hr := hid (show small23 p L M = false by rw [hr0.out, d4]; simp)
    have d4n : decide ((M : Int) ≤ 20) = false := decide_eq_false (by omega)
    have hNBi := HNBI.out
    have hw1 : wrap64 (Q : Int) = (Q : Int) := IntWalk.wrap64_in _ ⟨by omega, by have := HQ.out; omega⟩
    clear h4
    obtain ⟨b0, b1, b2, b3, b4, b5, b6, b7⟩ := HC0.out wa (Keeps.refl _ _)
    go_enter Tryz.func5, Tryz.ntmps5
    go_wp2_with fail
    refine (HCK.out _).mono ?_
    rintro e w1 ⟨rfl, HK1⟩
    rw [hc.out]
    have HK1 := hid HK1
    clear b0 b1 b2 b3 b4 b5 b6 b7 hwa hpb
    obtain ⟨b0, b1, b2, b3, b4, b5, b6, b7⟩ := HC0.out w1 HK1.out
    go_wp2_with fail
    go_ret
    exact ⟨by rw [hr.out]; rfl, HK.out.fresh HK1.out⟩
  have d4 : decide (M ≤ 20) = true := decide_eq_true h4
  have d4n : decide ((M : Int) ≤ 20) = true := decide_eq_true (by omega)
  clear h4
  have hr := hid (show small23 p L M = true by rw [hr0.out, d0, d1, d2, d3, d4]; rfl)
  have hNBi := HNBI.out
  have hw1 : wrap64 (Q : Int) = (Q : Int) := IntWalk.wrap64_in _ ⟨by omega, by have := HQ.out; omega⟩
  obtain ⟨b0, b1, b2, b3, b4, b5, b6, b7⟩ := HC0.out wa (Keeps.refl _ _)
  go_enter Tryz.func5, Tryz.ntmps5
  go_wp2_with fail
  refine (HCK.out _).mono ?_
  rintro e w1 ⟨rfl, HK1⟩
  rw [hc.out]
  have HK1 := hid HK1
  clear b0 b1 b2 b3 b4 b5 b6 b7 hwa hpb
  obtain ⟨b0, b1, b2, b3, b4, b5, b6, b7⟩ := HC0.out w1 HK1.out
  go_wp2_with fail
  go_ret
  exact ⟨by rw [hr.out]; rfl, HK.out.fresh HK1.out⟩
end Go.Proofs.YtnnkfopopanfjaaGreat
