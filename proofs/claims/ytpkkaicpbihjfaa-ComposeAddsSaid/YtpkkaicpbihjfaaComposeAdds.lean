/- Composite blocks of two objects, put upon each other: the walk of the law ComposeAdds. Conditions: numbers are of their kinds. -/
import Derived.Test.YtpkkaicpbihjfaaAddsMath
import Derived.Test.YtpkkaicpbihjfaaG2
import Derived.Test.YtpkkaicpbihjfaaG3
import Derived.BigQuiet
set_option linter.unusedVariables false
set_option linter.unusedSimpArgs false
namespace Go.Proofs.Ytpkkaicpbihjfaa
open Go.RowKit
attribute [local go_sem ↓] Go.wp_at_zero Go.wp_at_succ

theorem cells2 {w : World} {b : Nat} {x0 x1 : Value} {T : TypeId} {fr : Nat × Nat} (h : w.heap[b]? = some (.cells #[x0, x1] T fr)) : w.cell? ⟨b, 0, none⟩ = some x0 ∧ w.cell? ⟨b, 1, none⟩ = some x1 := by
  simp [World.cell?, h]
theorem sum2_calls (n : Nat) (a b : List UInt8) (V1 V2 : Option Addr) (d1 d2 g : Nat) (T : TypeId) (fr : Nat × Nat) (w : World) (hg : w.heap[g]? = some (.cells #[.slice V1 n d1, .slice V2 n d2] T fr)) (k1 : RowIn (fun _ => True) w (.slice V1 n d1) a) (k2 : RowIn (fun _ => True) w (.slice V2 n d2) b) (ha : a.length = n) (hb : b.length = n) (hn : n ≤ 1073741824) :
    Calls Try.prog 18 #[.int .i64 (n : Int), .slice (some ⟨g, 0, none⟩) 2 2] w fun e w' => ∃ v, e = .returned v ∧ OwnB w' w.heap.size v (sumB n [a, b]) ∧ Keeps NoB w w' := by
  refine rsum_calls n [a, b] (some ⟨g, 0, none⟩) 2 (fun _ => True) _ hn (RowsIn.ofBlock [.slice V1 n d1, .slice V2 n d2] [a, b] (by exact hg) rfl (by simp) trivial ?_) (by simp [fitB, ha, hb])
  intro j u hu
  rcases j with _ | _ | j
  · obtain rfl := Option.some.inj hu; exact k1
  · obtain rfl := Option.some.inj hu; exact k2
  · exact absurd hu (by simp)
set_option maxHeartbeats 4000000 in
set_option maxRecDepth 20000 in
theorem composeAdds_walk (p : Par) (session : Nat) (o1 o2 : List UInt8) (A1 A2 : Option Addr) (c1 c2 : Nat) (w : World) (hwf : p.wf) (hs : session < 18446744073709551616) (ho1 : BytesIn (fun _ => True) w A1 o1) (hcap1 : o1.length ≤ c1) (ho2 : BytesIn (fun _ => True) w A2 o2) (hcap2 : o2.length ≤ c2) (hA1 : A1 = none → c1 = 0) (hA2 : A2 = none → c2 = 0) :
    Calls Try.prog 4 #[p.val, .int .u64 (session : Int), .agg #[.slice A1 o1.length c1, .slice A2 o2.length c2]] w fun e w' => e = .returned (.bool true) ∧ Keeps NoB w w' := by
  have hu := Try.underlying23
  have HO1 := hid ho1
  have HO2 := hid ho2
  have HA1 := hid hA1
  have HA2 := hid hA2
  have HWF := hid hwf
  have hlen1 := ho1.len
  have hlen2 := ho2.len
  obtain ⟨L1, hL1⟩ : ∃ L1, o1.length = L1 := ⟨_, rfl⟩
  obtain ⟨L2, hL2⟩ : ∃ L2, o2.length = L2 := ⟨_, rfl⟩
  have HL1 := hid hL1
  have HL2 := hid hL2
  rw [hL1] at hcap1 hlen1 ⊢
  rw [hL2] at hcap2 hlen2 ⊢
  obtain ⟨q, hq⟩ : ∃ q, min L1 L2 = q := ⟨_, rfl⟩
  have hq1 : q ≤ L1 := by omega
  have hq2 : q ≤ L2 := by omega
  have hmin : min (L1 : Int) (L2 : Int) = (q : Int) := by omega
  have hmin2 : min L1 L2 = q := hq
  have la := hid (show (o1.take q).length = q by rw [List.length_take, HL1.out]; omega)
  have lb := hid (show (o2.take q).length = q by rw [List.length_take, HL2.out]; omega)
  clear ho1 ho2 hwf hL1 hL2 hA1 hA2
  have hb0 := hid (((Keeps.refl NoB (w.alloc (.cells #[.int .i64 p.n, .int .i64 p.b, .int .i64 p.q, .int .i64 p.eps, .int .i64 p.f] 23))).alloc (.cells #[.slice A1 L1 c1, .slice A2 L2 c2] 37)).heap (heap_alloc_new w (.cells #[.int .i64 p.n, .int .i64 p.b, .int .i64 p.q, .int .i64 p.eps, .int .i64 p.f] 23)) (fun h => h))
  have hb1 := hid (heap_alloc2_new w (.cells #[.int .i64 p.n, .int .i64 p.b, .int .i64 p.q, .int .i64 p.eps, .int .i64 p.f] 23) (.cells #[.slice A1 L1 c1, .slice A2 L2 c2] 37))
  have hS := hid (fun w' (hk : Keeps NoB ((w.alloc (.cells #[.int .i64 p.n, .int .i64 p.b, .int .i64 p.q, .int .i64 p.eps, .int .i64 p.f] 23)).alloc (.cells #[.slice A1 L1 c1, .slice A2 L2 c2] 37)) w') => And.intro (cells5 (hk.heap hb0.out (fun h => h))) (cells2 (hk.heap hb1.out (fun h => h))))
  have HKa := hid (((Keeps.refl NoB w).alloc (.cells #[.int .i64 p.n, .int .i64 p.b, .int .i64 p.q, .int .i64 p.eps, .int .i64 p.f] 23)).alloc (.cells #[.slice A1 L1 c1, .slice A2 L2 c2] 37))
  generalize hwa : (w.alloc (.cells #[.int .i64 p.n, .int .i64 p.b, .int .i64 p.q, .int .i64 p.eps, .int .i64 p.f] 23)).alloc (.cells #[.slice A1 L1 c1, .slice A2 L2 c2] 37) = wa at *
  obtain ⟨pb, hpb⟩ : ∃ pb, w.heap.size = pb := ⟨_, rfl⟩
  rw [hpb] at hS
  have hbig := hid (fun w' => big13_calls p w')
  have hmay := hid (fun w' => may_calls p w')
  clear hb0 hb1
  by_cases hbg : bigN p = true
  · rw [hbg] at hbig
    unfold Par.val at hbig ⊢
    clear hbg
    go_enter Try.func4, Try.ntmps4
    go_wp2_with fail
    refine (speaks13_calls _).mono ?_
    rintro e w1 ⟨rfl, HK1⟩
    obtain ⟨⟨b0, b1, b2, b3, b4⟩, t0, t1⟩ := hS.out _ HK1
    have HK1 := hid HK1
    go_wp2_with fail
    refine (hbig.out _).mono ?_
    rintro e w2 ⟨rfl, HK2⟩
    have HK2 := hid (HK1.out.fresh HK2)
    clear b0 b1 b2 b3 b4 t0 t1
    obtain ⟨⟨b0, b1, b2, b3, b4⟩, t0, t1⟩ := hS.out _ HK2.out
    go_wp2_with fail
    go_ret
    exact ⟨rfl, HKa.out.fresh HK2.out⟩
  · have hbg : bigN p = false := by simpa using hbg
    rw [hbg] at hbig
    have hsml : p.n ≤ 60 ∧ p.b ≤ 60 := by have := of_decide_eq_false hbg; omega
    clear hbg
    by_cases hm : p.may
    · have hmb := mayB_true hm
      rw [hmb] at hmay
      obtain ⟨N, B, hpn, hpb', hpn2, hpb2, hN1, hN2, hB1, hB2, hNB, hNB2⟩ := par_sizes hm
      obtain ⟨M, hM⟩ : ∃ M, N * B = M := ⟨_, rfl⟩
      rw [hM] at hNB hNB2
      have hMi : (N : Int) * (B : Int) = (M : Int) := by rw [← hM]; exact (Int.natCast_mul N B).symm
      have hM60 : M ≤ 3600 := by rw [← hM]; exact Nat.mul_le_mul (by omega : N ≤ 60) (by omega : B ≤ 60)
      clear hsml
      have hwm : IntKind.i64.wrap (M : Int) = (M : Int) := IntWalk.i64_in _ (by omega)
      by_cases hlg : M < q
      · have d5 : decide ((M : Int) < (q : Int)) = true := decide_eq_true (by omega)
        have d5n : decide (M < q) = true := decide_eq_true hlg
        unfold Par.val at hbig hmay ⊢
        rw [hpn, hpb'] at hS hbig hmay ⊢
        rw [hpn, hpb'] at hwa
        clear hm hmb hpn hpb' hpn2 hpb2 hNB hM hlg
        go_enter Try.func4, Try.ntmps4
        go_wp2_with fail
        refine (speaks13_calls _).mono ?_
        rintro e w1 ⟨rfl, HK1⟩
        obtain ⟨⟨b0, b1, b2, b3, b4⟩, t0, t1⟩ := hS.out _ HK1
        have HK1 := hid HK1
        go_wp2_with fail
        refine (hbig.out _).mono ?_
        rintro e w2 ⟨rfl, HK2⟩
        have HK2 := hid (HK1.out.fresh HK2)
        clear b0 b1 b2 b3 b4 t0 t1
        obtain ⟨⟨b0, b1, b2, b3, b4⟩, t0, t1⟩ := hS.out _ HK2.out
        go_wp2_with fail
        refine (hmay.out _).mono ?_
        rintro e w3 ⟨rfl, HK3⟩
        have HK3 := hid (HK2.out.fresh HK3)
        clear b0 b1 b2 b3 b4 t0 t1
        obtain ⟨⟨b0, b1, b2, b3, b4⟩, t0, t1⟩ := hS.out _ HK3.out
        go_wp2_with fail
        go_ret
        exact ⟨rfl, HKa.out.fresh HK3.out⟩
      · have d5 : decide ((M : Int) < (q : Int)) = false := decide_eq_false (by omega)
        have d5n : decide (M < q) = false := decide_eq_false hlg
        have hle : (q : Int) ≤ p.n * p.b := by rw [hNB]; omega
        have ha1 := hid ((HO1.out.kept HKa.out).take q)
        have ha2 := hid ((HO2.out.kept HKa.out).take q)
        have lx := hid ((xorL_length (a := o1.take q) (b := o2.take q) (by rw [la.out, lb.out])).trans la.out)
        have hxx := comp_xor hm session (o1.take q) (o2.take q) (by rw [la.out, lb.out])
        have hs2 := hid (sum_two (n := q) (b := o2.take q) la.out)
        have hcl : ∀ o, (compN p session o).length = p.n.toNat + (auxN p).toNat := fun o => by unfold compN; rw [compK_length]
        generalize o1.take q = a at *
        generalize o2.take q = b at *
        generalize xorL a b = x at *
        have hc1 := hid (fun w' (hk : Keeps NoB wa w') => comp_yes p session a A1 c1 _ w' hm hs (ha1.out.kept hk) (by rw [la.out]; omega) (by rw [la.out]; exact hle))
        have hc2 := hid (fun w' (hk : Keeps NoB wa w') => comp_yes p session b A2 c2 _ w' hm hs (ha2.out.kept hk) (by rw [lb.out]; omega) (by rw [lb.out]; exact hle))
        have hc3 := hid (fun w' (V : Option Addr) (cv : Nat) (R : Nat → Prop) (h : BytesIn R w' V x) (hc : q ≤ cv) => comp_yes p session x V cv R w' hm hs h (by rw [lx.out]; exact hc) (by rw [lx.out]; exact hle))
        have hr1 := hid (fun w' (hk : Keeps NoB wa w') => (show RowIn (fun _ => True) w' (.slice A1 q c1) a from ⟨A1, c1, by rw [la.out], by rw [la.out]; omega, HA1.out, ha1.out.kept hk⟩))
        have hr2 := hid (fun w' (hk : Keeps NoB wa w') => (show RowIn (fun _ => True) w' (.slice A2 q c2) b from ⟨A2, c2, by rw [lb.out], by rw [lb.out]; omega, HA2.out, ha2.out.kept hk⟩))
        have hsm := hid (fun (w' : World) (g : Nat) (T : TypeId) (fr : Nat × Nat) (hg : w'.heap[g]? = some (.cells #[.slice A1 q c1, .slice A2 q c2] T fr)) (hk : Keeps NoB wa w') => sum2_calls q a b A1 A2 c1 c2 g T fr w' hg (RowIn.mono (hr1.out _ hk) (fun _ _ _ => trivial)) (RowIn.mono (hr2.out _ hk) (fun _ _ _ => trivial)) la.out lb.out (by omega))
        rw [hs2.out] at hsm
        rw [la.out] at hc1
        rw [lb.out] at hc2
        rw [lx.out] at hc3
        have hab := auxN_bounds hm
        have h1l := hcl a
        have h2l := hcl b
        have h3l := hcl x
        generalize compN p session a = W1 at *
        generalize compN p session b = W2 at *
        generalize compN p session x = W3 at *
        obtain ⟨m, hm3⟩ : ∃ m, p.n.toNat + (auxN p).toNat = m := ⟨_, rfl⟩
        have hmb2 : m ≤ 6000000 := by omega
        rw [hm3] at h1l h2l h3l hxx
        rw [hpb2] at hxx
        have H1L := hid h1l
        have H2L := hid h2l
        have H3L := hid h3l
        have hxx := hid hxx
        unfold Par.val at hbig hmay hc1 hc2 hc3 ⊢
        rw [hpn] at hS hbig hmay hc1 hc2 hc3 ⊢
        rw [hpb'] at hS hbig hmay hc1 hc2 hc3 ⊢
        rw [hpn, hpb'] at hwa
        have e0 : (0 : Int) ≤ (q : Int) := by omega
        have e1 : (q : Int) ≤ (c1 : Int) := by omega
        have e2 : (q : Int) ≤ (c2 : Int) := by omega
        have e3 : (q : Int) ≤ (L1 : Int) := by omega
        have e4 : (q : Int) ≤ (L2 : Int) := by omega
        clear hm hmb hpn hpb' hpn2 hpb2 hNB hM hlg hle hab h1l h2l h3l hm3 hcl hq
        go_enter Try.func4, Try.ntmps4
        go_wp2_with fail
        refine (speaks13_calls _).mono ?_
        rintro e w1 ⟨rfl, HK1⟩
        obtain ⟨⟨b0, b1, b2, b3, b4⟩, t0, t1⟩ := hS.out _ HK1
        have HK1 := hid HK1
        go_wp2_with fail
        refine (hbig.out _).mono ?_
        rintro e w2 ⟨rfl, HK2⟩
        have HK2 := hid (HK1.out.fresh HK2)
        clear b0 b1 b2 b3 b4 t0 t1
        obtain ⟨⟨b0, b1, b2, b3, b4⟩, t0, t1⟩ := hS.out _ HK2.out
        go_wp2_with fail
        refine (hmay.out _).mono ?_
        rintro e w3 ⟨rfl, HK3⟩
        have HK3 := hid (HK2.out.fresh HK3)
        clear b0 b1 b2 b3 b4 t0 t1
        obtain ⟨⟨b0, b1, b2, b3, b4⟩, t0, t1⟩ := hS.out _ HK3.out
        go_wp2_with fail
        have HKr := hid HK3.out
        go_region_held3 (fun w' => (w'.cell? ⟨pb, 0, none⟩ = some (.int .i64 (N : Int)) ∧ w'.cell? ⟨pb, 1, none⟩ = some (.int .i64 (B : Int)) ∧ w'.cell? ⟨pb, 2, none⟩ = some (.int .i64 p.q) ∧ w'.cell? ⟨pb, 3, none⟩ = some (.int .i64 p.eps) ∧ w'.cell? ⟨pb, 4, none⟩ = some (.int .i64 p.f)) ∧ w'.cell? ⟨pb + 1, 0, none⟩ = some (.slice A1 L1 c1) ∧ w'.cell? ⟨pb + 1, 1, none⟩ = some (.slice A2 L2 c2)) (first | (exact hS.out _ HKr.out) | (exact hS.out _ HKr.out.drew) | (exact hS.out _ (HKr.out.alloc _)) | go_keep) ((go_at_call 17; refine (hc1.out _ (by first | exact HKr.out | exact HKr.out.drew)).mono ?_; rintro e w4 ⟨v4, rfl, hown4, HK4⟩; have HK34 := hid HK4; have HKr := hid (show Keeps NoB wa w4 by first | exact HKr.out.fresh HK4 | exact HKr.out.drew.fresh HK4)))
        obtain ⟨V4, k4, hv4, hk4, _, hb4⟩ := hown4.reads
        rw [H1L.out] at hv4 hk4
        subst hv4
        have HB4 := hid hb4
        have HK4 := hid HKr.out
        clear b0 b1 b2 b3 b4 t0 t1 hown4 hb4 HKr
        have HKr := hid HK4.out
        obtain ⟨⟨b0, b1, b2, b3, b4⟩, t0, t1⟩ := hS.out _ HKr.out
        have HK45 := hid (Keeps.refl NoB w4)
        go_wp2_with fail
        go_region_held3 (fun w' => (w'.cell? ⟨pb, 0, none⟩ = some (.int .i64 (N : Int)) ∧ w'.cell? ⟨pb, 1, none⟩ = some (.int .i64 (B : Int)) ∧ w'.cell? ⟨pb, 2, none⟩ = some (.int .i64 p.q) ∧ w'.cell? ⟨pb, 3, none⟩ = some (.int .i64 p.eps) ∧ w'.cell? ⟨pb, 4, none⟩ = some (.int .i64 p.f)) ∧ w'.cell? ⟨pb + 1, 0, none⟩ = some (.slice A1 L1 c1) ∧ w'.cell? ⟨pb + 1, 1, none⟩ = some (.slice A2 L2 c2)) (first | (exact hS.out _ HKr.out) | (exact hS.out _ HKr.out.drew) | (exact hS.out _ (HKr.out.alloc _)) | go_keep) ((go_at_call 17; refine (hc2.out _ (by first | exact HKr.out | exact HKr.out.drew)).mono ?_; rintro e w5 ⟨v5, rfl, hown5, HK5⟩; have HK45 := hid (show Keeps NoB w4 w5 by first | exact HK45.out.fresh HK5 | exact HK45.out.drew.fresh HK5); have HKr := hid (show Keeps NoB wa w5 by first | exact HKr.out.fresh HK5 | exact HKr.out.drew.fresh HK5)))
        obtain ⟨V5, k5, hv5, hk5, _, hb5⟩ := hown5.reads
        rw [H2L.out] at hv5 hk5
        subst hv5
        have HB45 := hid (HB4.out.kept HK45.out)
        have HB5 := hid hb5
        have HK5 := hid HKr.out
        clear b0 b1 b2 b3 b4 t0 t1 hown5 hb5 HKr HB4
        have HKr := hid HK5.out
        obtain ⟨⟨b0, b1, b2, b3, b4⟩, t0, t1⟩ := hS.out _ HKr.out
        have HK56 := hid (Keeps.refl NoB w5)
        go_wp2_with fail
        go_region_held3 (fun w' => (w'.cell? ⟨pb, 0, none⟩ = some (.int .i64 (N : Int)) ∧ w'.cell? ⟨pb, 1, none⟩ = some (.int .i64 (B : Int)) ∧ w'.cell? ⟨pb, 2, none⟩ = some (.int .i64 p.q) ∧ w'.cell? ⟨pb, 3, none⟩ = some (.int .i64 p.eps) ∧ w'.cell? ⟨pb, 4, none⟩ = some (.int .i64 p.f)) ∧ w'.cell? ⟨pb + 1, 0, none⟩ = some (.slice A1 L1 c1) ∧ w'.cell? ⟨pb + 1, 1, none⟩ = some (.slice A2 L2 c2)) (first | (exact hS.out _ HKr.out) | (exact hS.out _ HKr.out.drew) | (exact hS.out _ (HKr.out.alloc _)) | go_keep) (first
          | (go_at_call 18; refine (hsm.out (w5.alloc (.cells #[.slice A1 q c1, .slice A2 q c2] 25)).drew w5.heap.size 25 (0, 0) (by exact heap_alloc_new w5 _) (HKr.out.alloc _).drew).mono ?_; rintro e w6 ⟨v6, rfl, hown6, HK6⟩; obtain ⟨V6, k6, hv6, hk6, _, hb6⟩ := hown6.reads; rw [lx.out] at hv6 hk6; subst hv6; have HB6 := hid hb6; have HK56 := hid ((HK56.out.alloc _).drew.fresh HK6); have HKr := hid ((HKr.out.alloc _).drew.fresh HK6); clear hown6 hb6)
          | (go_at_call 17; refine (hc3.out _ V6 k6 _ HB6.out hk6).mono ?_; rintro e w7 ⟨v7, rfl, hown7, HK7⟩; have HK56 := hid (HK56.out.fresh HK7); have HKr := hid (HKr.out.fresh HK7)))
        obtain ⟨V7, k7, hv7, hk7, _, hb7⟩ := hown7.reads
        rw [H3L.out] at hv7 hk7
        subst hv7
        have HR1 := hid (HB45.out.kept HK56.out)
        have HR2 := hid (HB5.out.kept HK56.out)
        have HR3 := hid hb7
        have HK7 := hid HKr.out
        have dmm : ((m : Int) != (m : Int)) = false := by simp
        clear b0 b1 b2 b3 b4 t0 t1 hown7 hb7 HKr HB45 HB5 HK56 HK45
        go_wp2_with fail
        go_loopw [103] (fun v103 wr => ∃ k : Nat, k ≤ m ∧ v103 = .int .i64 (k : Int) ∧ Hid (Keeps NoB w7 wr)) (fun v103 _ => m - (intOf v103).toNat)
        case atStart => exact ⟨0, Nat.zero_le _, rfl, Keeps.refl _ _⟩
        case round =>
          obtain ⟨k, hk, rfl, HK⟩ := hrel
          by_cases hlt : k < m
          · obtain ⟨g1, o1', rfl, _, hcA⟩ := HR1.out.2 (by rw [H1L.out]; omega)
            obtain ⟨u1, y1, B1, d1, rfl, hd1, hz1, r1⟩ := hcA k (by rw [H1L.out]; exact hlt)
            obtain ⟨g2, o2', rfl, _, hcB⟩ := HR2.out.2 (by rw [H2L.out]; omega)
            obtain ⟨u2, y2, B2, d2, rfl, hd2, hz2, r2⟩ := hcB k (by rw [H2L.out]; exact hlt)
            obtain ⟨g3, o3', rfl, _, hcC⟩ := HR3.out.2 (by rw [H3L.out]; omega)
            obtain ⟨u3, y3, B3, d3, rfl, hd3, hz3, r3⟩ := hcC k (by rw [H3L.out]; exact hlt)
            obtain ⟨x1, x2, x3⟩ := hxx.out k hlt
            have q0 : (0 : Int) ≤ (k : Int) := by omega
            have q1 : (k : Int) < (m : Int) := by omega
            generalize gr W1 k = l1 at *
            generalize gr W2 k = l2 at *
            generalize gr W3 k = l3 at *
            rw [x1] at y1 hd1
            rw [x2] at y2 hd2
            have hy1 := hid (fun w' (hk : Keeps NoB w7 w') => (show RowIn (fun _ => True) w' (.slice B1 B d1) l1 from ⟨B1, d1, by rw [x1], by rw [x1]; exact hd1, hz1, (r1.kept hk).mono (fun _ _ _ => trivial)⟩))
            have hy2 := hid (fun w' (hk : Keeps NoB w7 w') => (show RowIn (fun _ => True) w' (.slice B2 B d2) l2 from ⟨B2, d2, by rw [x2], by rw [x2]; exact hd2, hz2, (r2.kept hk).mono (fun _ _ _ => trivial)⟩))
            have hsk := hid (fun (w' : World) (g : Nat) (T : TypeId) (fr : Nat × Nat) (hg : w'.heap[g]? = some (.cells #[.slice B1 B d1, .slice B2 B d2] T fr)) (hk : Keeps NoB w7 w') => sum2_calls B l1 l2 B1 B2 d1 d2 g T fr w' hg (hy1.out _ hk) (hy2.out _ hk) x1 x2 (by omega))
            rw [x3] at hsk
            have hrows := hid (fun w' (hk : Keeps NoB w7 w') => (And.intro (hk.cell y1 (fun h => h)) (And.intro (hk.cell y2 (fun h => h)) (And.intro (hk.cell y3 (fun h => h)) (And.intro (hS.out _ (HK7.out.fresh hk)).1.2.1 (conv_run 25 9 Try.underlying25 Try.underlying9 (r3.kept hk) d3))))))
            generalize hL3 : l3.length = z3 at *
            have dB : ((B : Int) != (B : Int)) = false := by simp
            have dl : ((strOf l3).toList != (strOf l3).toList) = false := by simp
            have HKr := hid HK.out
            obtain ⟨a1, a2, a3, a4, a5⟩ := hrows.out _ HKr.out
            clear r1 r2 r3 y1 y2 y3 hcA hcB hcC x1 x2 x3 hz1 hz2 hz3
            go_wp2_with fail
            have HL3 := hid hL3
            have HKd := hid ((Keeps.refl NoB wr).drew)
            clear HKr a1 a2 a3 a4 a5
            refine wp_region_list [([], [106], []), ([], [107], []), ([0, 1], [108], [106, 107]), ([0, 1, 2], [109], [106, 107, 108]), ([0, 1, 2, 3], [110], [106, 107, 108, 109]), ([], [111], []), ([5], [112], [111]), ([0, 1, 2, 3, 4, 5, 6], [113], [106, 107, 108, 109, 110, 111, 112]), ([0, 1, 2, 3, 4, 5, 6, 7], [114], [106, 107, 108, 109, 110, 111, 112, 113]), ([0, 1, 2, 3, 4, 5, 6, 7, 8], [115], [106, 107, 108, 109, 110, 111, 112, 113, 114]), ([0, 1, 2, 3, 4, 5, 6, 7, 8], [116], [106, 107, 108, 109, 110, 111, 112, 113, 114]), ([0, 1, 2, 3, 4, 5, 6, 7, 8, 9, 10], [117], [106, 107, 108, 109, 110, 111, 112, 113, 114, 115, 116]), ([0, 1, 2, 3, 4, 5, 6, 7, 8, 9, 10, 11], [118], [106, 107, 108, 109, 110, 111, 112, 113, 114, 115, 116, 117]), ([0, 1, 2, 3, 4, 5, 6, 7, 8, 9, 10, 11, 12], [119], [106, 107, 108, 109, 110, 111, 112, 113, 114, 115, 116, 117, 118]), ([0, 1, 2, 3, 4, 5, 6, 7, 8], [120], [106, 107, 108, 109, 110, 111, 112, 113, 114]), ([0, 1, 2, 3, 4, 5, 6, 7, 8, 14], [121], [106, 107, 108, 109, 110, 111, 112, 113, 114, 120]), ([0, 1, 2, 3, 4, 5, 6, 7, 8, 9, 10, 11, 12, 13, 14, 15], [122], [106, 107, 108, 109, 110, 111, 112, 113, 114, 115, 116, 117, 118, 119, 120, 121]), ([0, 1, 2, 3, 4, 5, 6, 7, 8, 9, 10, 11, 12, 13, 14, 15, 16], [123], [106, 107, 108, 109, 110, 111, 112, 113, 114, 115, 116, 117, 118, 119, 120, 121, 122]), ([0, 1, 2, 3, 4, 5, 6, 7, 8, 9, 10, 11, 12, 13, 14, 15, 16, 17], [124], [106, 107, 108, 109, 110, 111, 112, 113, 114, 115, 116, 117, 118, 119, 120, 121, 122, 123]), ([0, 1, 2, 3, 4, 5, 6, 7, 8, 9, 10, 11, 12, 13, 14, 15, 16, 17, 18], [125], [106, 107, 108, 109, 110, 111, 112, 113, 114, 115, 116, 117, 118, 119, 120, 121, 122, 123, 124]), ([0, 1, 2, 3, 4, 5, 6, 7, 8, 9, 10, 11, 12, 13, 14, 15, 16, 17, 18, 19], [126], [106, 107, 108, 109, 110, 111, 112, 113, 114, 115, 116, 117, 118, 119, 120, 121, 122, 123, 124, 125]), ([0, 1, 2, 3, 4, 5, 6, 7, 8, 9, 10, 11, 12, 13, 14, 15, 16, 17, 18], [127], [106, 107, 108, 109, 110, 111, 112, 113, 114, 115, 116, 117, 118, 119, 120, 121, 122, 123, 124]), ([0, 1, 2, 3, 4, 5, 6, 7, 8, 9, 10, 11, 12, 13, 14, 15, 16, 17, 18], [128], [106, 107, 108, 109, 110, 111, 112, 113, 114, 115, 116, 117, 118, 119, 120, 121, 122, 123, 124]), ([0, 1, 2, 3, 4, 5, 6, 7, 8, 9, 10, 11, 12, 13, 14, 15, 16, 17, 18, 21, 22], [129], [106, 107, 108, 109, 110, 111, 112, 113, 114, 115, 116, 117, 118, 119, 120, 121, 122, 123, 124, 127, 128]), ([0, 1, 2, 3, 4, 5, 6, 7, 8, 9, 10, 11, 12, 13, 14, 15, 16, 17, 18, 21, 22, 23], [130], [106, 107, 108, 109, 110, 111, 112, 113, 114, 115, 116, 117, 118, 119, 120, 121, 122, 123, 124, 127, 128, 129]), ([0, 1, 2, 3, 4, 5, 6, 7, 8, 9, 10, 11, 12, 13, 14, 15, 16, 17, 18], [131], [106, 107, 108, 109, 110, 111, 112, 113, 114, 115, 116, 117, 118, 119, 120, 121, 122, 123, 124]), ([0, 1, 2, 3, 4, 5, 6, 7, 8, 9, 10, 11, 12, 13, 14, 15, 16, 17, 18], [132], [106, 107, 108, 109, 110, 111, 112, 113, 114, 115, 116, 117, 118, 119, 120, 121, 122, 123, 124]), ([0, 1, 2, 3, 4, 5, 6, 7, 8, 9, 10, 11, 12, 13, 14, 15, 16, 17, 18, 25, 26], [133], [106, 107, 108, 109, 110, 111, 112, 113, 114, 115, 116, 117, 118, 119, 120, 121, 122, 123, 124, 131, 132]), ([0, 1, 2, 3, 4, 5, 6, 7, 8, 9, 10, 11, 12, 13, 14, 15, 16, 17, 18, 25, 26, 27], [134], [106, 107, 108, 109, 110, 111, 112, 113, 114, 115, 116, 117, 118, 119, 120, 121, 122, 123, 124, 131, 132, 133]), ([0, 1, 2, 3, 4, 5, 6, 7, 8, 9, 10, 11, 12, 13, 14, 15, 16, 17, 18, 21, 22, 23, 24, 25, 26, 27, 28], [135], [106, 107, 108, 109, 110, 111, 112, 113, 114, 115, 116, 117, 118, 119, 120, 121, 122, 123, 124, 127, 128, 129, 130, 131, 132, 133, 134]), ([0, 1, 2, 3, 4, 5, 6, 7, 8, 9, 10, 11, 12, 13, 14, 15, 16, 17, 18, 19, 20, 21, 22, 23, 24, 25, 26, 27, 28, 29], [136], [106, 107, 108, 109, 110, 111, 112, 113, 114, 115, 116, 117, 118, 119, 120, 121, 122, 123, 124, 125, 126, 127, 128, 129, 130, 131, 132, 133, 134, 135]), ([0, 1, 2, 3, 4, 5, 6, 7, 8, 9, 10, 11, 12, 13, 14, 15, 16, 17, 18, 19, 20, 21, 22, 23, 24, 25, 26, 27, 28, 29, 30], [137], [106, 107, 108, 109, 110, 111, 112, 113, 114, 115, 116, 117, 118, 119, 120, 121, 122, 123, 124, 125, 126, 127, 128, 129, 130, 131, 132, 133, 134, 135, 136]), ([0, 1, 2, 3, 4, 5, 6, 7, 8, 9, 10, 11, 12, 13, 14, 15, 16, 17, 18], [138], [106, 107, 108, 109, 110, 111, 112, 113, 114, 115, 116, 117, 118, 119, 120, 121, 122, 123, 124]), ([0, 1, 2, 3, 4, 5, 6, 7, 8, 9, 10, 11, 12, 13, 14, 15, 16, 17, 18], [139], [106, 107, 108, 109, 110, 111, 112, 113, 114, 115, 116, 117, 118, 119, 120, 121, 122, 123, 124]), ([0, 1, 2, 3, 4, 5, 6, 7, 8, 9, 10, 11, 12, 13, 14, 15, 16, 17, 18, 32, 33], [140], [106, 107, 108, 109, 110, 111, 112, 113, 114, 115, 116, 117, 118, 119, 120, 121, 122, 123, 124, 138, 139]), ([0, 1, 2, 3, 4, 5, 6, 7, 8, 9, 10, 11, 12, 13, 14, 15, 16, 17, 18, 32, 33, 34], [141], [106, 107, 108, 109, 110, 111, 112, 113, 114, 115, 116, 117, 118, 119, 120, 121, 122, 123, 124, 138, 139, 140]), ([0, 1, 2, 3, 4, 5, 6, 7, 8, 9, 10, 11, 12, 13, 14, 15, 16, 17, 18, 32, 33, 34, 35], [142], [106, 107, 108, 109, 110, 111, 112, 113, 114, 115, 116, 117, 118, 119, 120, 121, 122, 123, 124, 138, 139, 140, 141]), ([0, 1, 2, 3, 4, 5, 6, 7, 8, 9, 10, 11, 12, 13, 14, 15, 16, 17, 18, 19, 20, 21, 22, 23, 24, 25, 26, 27, 28, 29, 30, 31, 32, 33, 34, 35, 36], [143], [106, 107, 108, 109, 110, 111, 112, 113, 114, 115, 116, 117, 118, 119, 120, 121, 122, 123, 124, 125, 126, 127, 128, 129, 130, 131, 132, 133, 134, 135, 136, 137, 138, 139, 140, 141, 142]), ([0, 1, 2, 3, 4, 5, 6, 7, 8, 9, 10, 11, 12, 13, 14, 15, 16, 17, 18, 19, 20, 21, 22, 23, 24, 25, 26, 27, 28, 29, 30, 31, 32, 33, 34, 35, 36, 37], [144], [106, 107, 108, 109, 110, 111, 112, 113, 114, 115, 116, 117, 118, 119, 120, 121, 122, 123, 124, 125, 126, 127, 128, 129, 130, 131, 132, 133, 134, 135, 136, 137, 138, 139, 140, 141, 142, 143])] [106, 107, 108, 109, 110, 111, 112, 113, 114, 115, 116, 117, 118, 119, 120, 121, 122, 123, 124, 125, 126, 127, 128, 129, 130, 131, 132, 133, 134, 135, 136, 137, 138, 139, 140, 141, 142, 143, 144] (Keeps NoB) (fun (i : Nat) => ([(fun rs__ U => (rs__.getD 0 undef) = Value.slice (some ⟨g1, o1', none⟩) m k4), (fun rs__ U => (rs__.getD 0 undef) = Value.int .i64 (k : Int)), (fun rs__ U => (rs__.getD 0 undef) = Value.pointer (some ⟨g1, o1' + k, none⟩)), (fun rs__ U => (rs__.getD 0 undef) = Value.slice B1 B d1), (fun rs__ U => (rs__.getD 0 undef) = Value.int .i64 (B : Int)), (fun rs__ U => (rs__.getD 0 undef) = Value.pointer (some ⟨pb, 1, none⟩)), (fun rs__ U => (rs__.getD 0 undef) = Value.int .i64 (B : Int)), (fun rs__ U => (rs__.getD 0 undef) = Value.bool false), (fun rs__ U => (rs__.getD 0 undef) = Value.bool false), (fun rs__ U => (rs__.getD 0 undef) = Value.slice (some ⟨g2, o2', none⟩) m k5), (fun rs__ U => (rs__.getD 0 undef) = Value.int .i64 (k : Int)), (fun rs__ U => (rs__.getD 0 undef) = Value.pointer (some ⟨g2, o2' + k, none⟩)), (fun rs__ U => (rs__.getD 0 undef) = Value.slice B2 B d2), (fun rs__ U => (rs__.getD 0 undef) = Value.int .i64 (B : Int)), (fun rs__ U => (rs__.getD 0 undef) = Value.pointer (some ⟨pb, 1, none⟩)), (fun rs__ U => (rs__.getD 0 undef) = Value.int .i64 (B : Int)), (fun rs__ U => (rs__.getD 0 undef) = Value.bool false), (fun rs__ U => (rs__.getD 0 undef) = Value.bool false), (fun rs__ U => (rs__.getD 0 undef) = Value.bool false), (fun rs__ U => (rs__.getD 0 undef) = Value.pointer (some ⟨pb, 1, none⟩)), (fun rs__ U => (rs__.getD 0 undef) = Value.int .i64 (B : Int)), (fun rs__ U => (rs__.getD 0 undef) = Value.slice (some ⟨g1, o1', none⟩) m k4), (fun rs__ U => (rs__.getD 0 undef) = Value.int .i64 (k : Int)), (fun rs__ U => (rs__.getD 0 undef) = Value.pointer (some ⟨g1, o1' + k, none⟩)), (fun rs__ U => (rs__.getD 0 undef) = Value.slice B1 B d1), (fun rs__ U => (rs__.getD 0 undef) = Value.slice (some ⟨g2, o2', none⟩) m k5), (fun rs__ U => (rs__.getD 0 undef) = Value.int .i64 (k : Int)), (fun rs__ U => (rs__.getD 0 undef) = Value.pointer (some ⟨g2, o2' + k, none⟩)), (fun rs__ U => (rs__.getD 0 undef) = Value.slice B2 B d2), (fun rs__ U => ∃ g, (rs__.getD 0 undef) = Value.slice (some ⟨g, 0, none⟩) 2 2 ∧ Hid (U.heap[g]? = some (.cells #[.slice B1 B d1, .slice B2 B d2] 25 (0, 0)))), (fun rs__ U => ∃ A9 c9, (rs__.getD 0 undef) = Value.slice A9 z3 c9 ∧ Hid (BytesIn (fun _ => True) U A9 l3)), (fun rs__ U => (rs__.getD 0 undef) = Value.string (strOf l3)), (fun rs__ U => (rs__.getD 0 undef) = Value.slice (some ⟨g3, o3', none⟩) m k7), (fun rs__ U => (rs__.getD 0 undef) = Value.int .i64 (k : Int)), (fun rs__ U => (rs__.getD 0 undef) = Value.pointer (some ⟨g3, o3' + k, none⟩)), (fun rs__ U => (rs__.getD 0 undef) = Value.slice B3 z3 d3), (fun rs__ U => (rs__.getD 0 undef) = Value.string (strOf l3)), (fun rs__ U => (rs__.getD 0 undef) = Value.bool false), (fun rs__ U => (rs__.getD 0 undef) = Value.bool false)] : List (List Value → World → Prop)).getD i (fun _ _ => True)) (by kernel_rfl) (by kernel_rfl) (by kernel_rfl) (fun _ _ _ h1 h2 => h1.fresh h2) (fun _ => Keeps.refl _ _) (RL.cons ?s0 (RL.cons ?s1 (RL.cons ?s2 (RL.cons ?s3 (RL.cons ?s4 (RL.cons ?s5 (RL.cons ?s6 (RL.cons ?s7 (RL.cons ?s8 (RL.cons ?s9 (RL.cons ?s10 (RL.cons ?s11 (RL.cons ?s12 (RL.cons ?s13 (RL.cons ?s14 (RL.cons ?s15 (RL.cons ?s16 (RL.cons ?s17 (RL.cons ?s18 (RL.cons ?s19 (RL.cons ?s20 (RL.cons ?s21 (RL.cons ?s22 (RL.cons ?s23 (RL.cons ?s24 (RL.cons ?s25 (RL.cons ?s26 (RL.cons ?s27 (RL.cons ?s28 (RL.cons ?s29 (RL.cons ?s30 (RL.cons ?s31 (RL.cons ?s32 (RL.cons ?s33 (RL.cons ?s34 (RL.cons ?s35 (RL.cons ?s36 (RL.cons ?s37 (RL.cons ?s38 (RL.nil _ _)))))))))))))))))))))))))))))))))))))))) ?fin
            case s0 =>
              intro V wx hE hd
              clear hd
              intro K hK
              simp only [rput, List.foldl_cons, List.foldl_nil, Act.put, List.setIfInBounds_toArray, List.set_cons_zero, List.set_cons_succ]
              go_simp; (with_reducible refine hK.out _ _ ?_ ?_); exact rfl; exact ⟨Keeps.refl _ _, rfl⟩
            case s1 =>
              intro V wx hE hd
              clear hd
              intro K hK
              simp only [rput, List.foldl_cons, List.foldl_nil, Act.put, List.setIfInBounds_toArray, List.set_cons_zero, List.set_cons_succ]
              go_simp; (with_reducible refine hK.out _ _ ?_ ?_); exact rfl; exact ⟨Keeps.refl _ _, rfl⟩
            case s2 =>
              intro V wx hE hd
              obtain ⟨u0, hb0, hu0, p0⟩ : ∃ U, Keeps NoB wr.drew U ∧ Keeps NoB U wx ∧ ((V 106) = Value.slice (some ⟨g1, o1', none⟩) m k4) := hd 0 (by decide)
              obtain ⟨u1, hb1, hu1, p1⟩ : ∃ U, Keeps NoB wr.drew U ∧ Keeps NoB U wx ∧ ((V 107) = Value.int .i64 (k : Int)) := hd 1 (by decide)
              clear hd
              clear hb0 hu0
              clear hb1 hu1
              intro K hK
              simp only [rput, List.foldl_cons, List.foldl_nil, Act.put, List.setIfInBounds_toArray, List.set_cons_zero, List.set_cons_succ, p0, p1]
              go_simp; (with_reducible refine hK.out _ _ ?_ ?_); exact rfl; exact ⟨Keeps.refl _ _, rfl⟩
            case s3 =>
              intro V wx hE hd
              obtain ⟨u2, hb2, hu2, p2⟩ : ∃ U, Keeps NoB wr.drew U ∧ Keeps NoB U wx ∧ ((V 108) = Value.pointer (some ⟨g1, o1' + k, none⟩)) := hd 2 (by decide)
              clear hd
              clear hb2 hu2
              intro K hK
              simp only [rput, List.foldl_cons, List.foldl_nil, Act.put, List.setIfInBounds_toArray, List.set_cons_zero, List.set_cons_succ, p2]
              obtain ⟨a1, a2, a3, a4, a5⟩ := hrows.out wx (HK.out.fresh (HKd.out.fresh hE)); go_simp; (with_reducible refine hK.out _ _ ?_ ?_); exact rfl; exact ⟨Keeps.refl _ _, rfl⟩
            case s4 =>
              intro V wx hE hd
              obtain ⟨u3, hb3, hu3, p3⟩ : ∃ U, Keeps NoB wr.drew U ∧ Keeps NoB U wx ∧ ((V 109) = Value.slice B1 B d1) := hd 3 (by decide)
              clear hd
              clear hb3 hu3
              intro K hK
              simp only [rput, List.foldl_cons, List.foldl_nil, Act.put, List.setIfInBounds_toArray, List.set_cons_zero, List.set_cons_succ, p3]
              go_simp; (with_reducible refine hK.out _ _ ?_ ?_); exact rfl; exact ⟨Keeps.refl _ _, rfl⟩
            case s5 =>
              intro V wx hE hd
              clear hd
              intro K hK
              simp only [rput, List.foldl_cons, List.foldl_nil, Act.put, List.setIfInBounds_toArray, List.set_cons_zero, List.set_cons_succ]
              go_simp; (with_reducible refine hK.out _ _ ?_ ?_); exact rfl; exact ⟨Keeps.refl _ _, rfl⟩
            case s6 =>
              intro V wx hE hd
              obtain ⟨u5, hb5, hu5, p5⟩ : ∃ U, Keeps NoB wr.drew U ∧ Keeps NoB U wx ∧ ((V 111) = Value.pointer (some ⟨pb, 1, none⟩)) := hd 5 (by decide)
              clear hd
              clear hb5 hu5
              intro K hK
              simp only [rput, List.foldl_cons, List.foldl_nil, Act.put, List.setIfInBounds_toArray, List.set_cons_zero, List.set_cons_succ, p5]
              obtain ⟨a1, a2, a3, a4, a5⟩ := hrows.out wx (HK.out.fresh (HKd.out.fresh hE)); go_simp; (with_reducible refine hK.out _ _ ?_ ?_); exact rfl; exact ⟨Keeps.refl _ _, rfl⟩
            case s7 =>
              intro V wx hE hd
              obtain ⟨u4, hb4, hu4, p4⟩ : ∃ U, Keeps NoB wr.drew U ∧ Keeps NoB U wx ∧ ((V 110) = Value.int .i64 (B : Int)) := hd 4 (by decide)
              obtain ⟨u6, hb6, hu6, p6⟩ : ∃ U, Keeps NoB wr.drew U ∧ Keeps NoB U wx ∧ ((V 112) = Value.int .i64 (B : Int)) := hd 6 (by decide)
              clear hd
              clear hb4 hu4
              clear hb6 hu6
              intro K hK
              simp only [rput, List.foldl_cons, List.foldl_nil, Act.put, List.setIfInBounds_toArray, List.set_cons_zero, List.set_cons_succ, p4, p6]
              go_simp; (with_reducible refine hK.out _ _ ?_ ?_); exact rfl; exact ⟨Keeps.refl _ _, rfl⟩
            case s8 =>
              intro V wx hE hd
              obtain ⟨u7, hb7, hu7, p7⟩ : ∃ U, Keeps NoB wr.drew U ∧ Keeps NoB U wx ∧ ((V 113) = Value.bool false) := hd 7 (by decide)
              clear hd
              clear hb7 hu7
              intro K hK
              simp only [rput, List.foldl_cons, List.foldl_nil, Act.put, List.setIfInBounds_toArray, List.set_cons_zero, List.set_cons_succ, p7]
              go_simp; (with_reducible refine hK.out _ _ ?_ ?_); exact rfl; exact ⟨Keeps.refl _ _, rfl⟩
            case s9 =>
              intro V wx hE hd
              obtain ⟨u8, hb8, hu8, p8⟩ : ∃ U, Keeps NoB wr.drew U ∧ Keeps NoB U wx ∧ ((V 114) = Value.bool false) := hd 8 (by decide)
              clear hd
              clear hb8 hu8
              intro K hK
              simp only [rput, List.foldl_cons, List.foldl_nil, Act.put, List.setIfInBounds_toArray, List.set_cons_zero, List.set_cons_succ, p8]
              go_simp; (with_reducible refine hK.out _ _ ?_ ?_); exact rfl; exact ⟨Keeps.refl _ _, rfl⟩
            case s10 =>
              intro V wx hE hd
              obtain ⟨u8, hb8, hu8, p8⟩ : ∃ U, Keeps NoB wr.drew U ∧ Keeps NoB U wx ∧ ((V 114) = Value.bool false) := hd 8 (by decide)
              clear hd
              clear hb8 hu8
              intro K hK
              simp only [rput, List.foldl_cons, List.foldl_nil, Act.put, List.setIfInBounds_toArray, List.set_cons_zero, List.set_cons_succ, p8]
              go_simp; (with_reducible refine hK.out _ _ ?_ ?_); exact rfl; exact ⟨Keeps.refl _ _, rfl⟩
            case s11 =>
              intro V wx hE hd
              obtain ⟨u8, hb8, hu8, p8⟩ : ∃ U, Keeps NoB wr.drew U ∧ Keeps NoB U wx ∧ ((V 114) = Value.bool false) := hd 8 (by decide)
              obtain ⟨u9, hb9, hu9, p9⟩ : ∃ U, Keeps NoB wr.drew U ∧ Keeps NoB U wx ∧ ((V 115) = Value.slice (some ⟨g2, o2', none⟩) m k5) := hd 9 (by decide)
              obtain ⟨u10, hb10, hu10, p10⟩ : ∃ U, Keeps NoB wr.drew U ∧ Keeps NoB U wx ∧ ((V 116) = Value.int .i64 (k : Int)) := hd 10 (by decide)
              clear hd
              clear hb8 hu8
              clear hb9 hu9
              clear hb10 hu10
              intro K hK
              simp only [rput, List.foldl_cons, List.foldl_nil, Act.put, List.setIfInBounds_toArray, List.set_cons_zero, List.set_cons_succ, p8, p9, p10]
              go_simp; (with_reducible refine hK.out _ _ ?_ ?_); exact rfl; exact ⟨Keeps.refl _ _, rfl⟩
            case s12 =>
              intro V wx hE hd
              obtain ⟨u8, hb8, hu8, p8⟩ : ∃ U, Keeps NoB wr.drew U ∧ Keeps NoB U wx ∧ ((V 114) = Value.bool false) := hd 8 (by decide)
              obtain ⟨u11, hb11, hu11, p11⟩ : ∃ U, Keeps NoB wr.drew U ∧ Keeps NoB U wx ∧ ((V 117) = Value.pointer (some ⟨g2, o2' + k, none⟩)) := hd 11 (by decide)
              clear hd
              clear hb8 hu8
              clear hb11 hu11
              intro K hK
              simp only [rput, List.foldl_cons, List.foldl_nil, Act.put, List.setIfInBounds_toArray, List.set_cons_zero, List.set_cons_succ, p8, p11]
              obtain ⟨a1, a2, a3, a4, a5⟩ := hrows.out wx (HK.out.fresh (HKd.out.fresh hE)); go_simp; (with_reducible refine hK.out _ _ ?_ ?_); exact rfl; exact ⟨Keeps.refl _ _, rfl⟩
            case s13 =>
              intro V wx hE hd
              obtain ⟨u8, hb8, hu8, p8⟩ : ∃ U, Keeps NoB wr.drew U ∧ Keeps NoB U wx ∧ ((V 114) = Value.bool false) := hd 8 (by decide)
              obtain ⟨u12, hb12, hu12, p12⟩ : ∃ U, Keeps NoB wr.drew U ∧ Keeps NoB U wx ∧ ((V 118) = Value.slice B2 B d2) := hd 12 (by decide)
              clear hd
              clear hb8 hu8
              clear hb12 hu12
              intro K hK
              simp only [rput, List.foldl_cons, List.foldl_nil, Act.put, List.setIfInBounds_toArray, List.set_cons_zero, List.set_cons_succ, p8, p12]
              go_simp; (with_reducible refine hK.out _ _ ?_ ?_); exact rfl; exact ⟨Keeps.refl _ _, rfl⟩
            case s14 =>
              intro V wx hE hd
              obtain ⟨u8, hb8, hu8, p8⟩ : ∃ U, Keeps NoB wr.drew U ∧ Keeps NoB U wx ∧ ((V 114) = Value.bool false) := hd 8 (by decide)
              clear hd
              clear hb8 hu8
              intro K hK
              simp only [rput, List.foldl_cons, List.foldl_nil, Act.put, List.setIfInBounds_toArray, List.set_cons_zero, List.set_cons_succ, p8]
              go_simp; (with_reducible refine hK.out _ _ ?_ ?_); exact rfl; exact ⟨Keeps.refl _ _, rfl⟩
            case s15 =>
              intro V wx hE hd
              obtain ⟨u8, hb8, hu8, p8⟩ : ∃ U, Keeps NoB wr.drew U ∧ Keeps NoB U wx ∧ ((V 114) = Value.bool false) := hd 8 (by decide)
              obtain ⟨u14, hb14, hu14, p14⟩ : ∃ U, Keeps NoB wr.drew U ∧ Keeps NoB U wx ∧ ((V 120) = Value.pointer (some ⟨pb, 1, none⟩)) := hd 14 (by decide)
              clear hd
              clear hb8 hu8
              clear hb14 hu14
              intro K hK
              simp only [rput, List.foldl_cons, List.foldl_nil, Act.put, List.setIfInBounds_toArray, List.set_cons_zero, List.set_cons_succ, p8, p14]
              obtain ⟨a1, a2, a3, a4, a5⟩ := hrows.out wx (HK.out.fresh (HKd.out.fresh hE)); go_simp; (with_reducible refine hK.out _ _ ?_ ?_); exact rfl; exact ⟨Keeps.refl _ _, rfl⟩
            case s16 =>
              intro V wx hE hd
              obtain ⟨u8, hb8, hu8, p8⟩ : ∃ U, Keeps NoB wr.drew U ∧ Keeps NoB U wx ∧ ((V 114) = Value.bool false) := hd 8 (by decide)
              obtain ⟨u13, hb13, hu13, p13⟩ : ∃ U, Keeps NoB wr.drew U ∧ Keeps NoB U wx ∧ ((V 119) = Value.int .i64 (B : Int)) := hd 13 (by decide)
              obtain ⟨u15, hb15, hu15, p15⟩ : ∃ U, Keeps NoB wr.drew U ∧ Keeps NoB U wx ∧ ((V 121) = Value.int .i64 (B : Int)) := hd 15 (by decide)
              clear hd
              clear hb8 hu8
              clear hb13 hu13
              clear hb15 hu15
              intro K hK
              simp only [rput, List.foldl_cons, List.foldl_nil, Act.put, List.setIfInBounds_toArray, List.set_cons_zero, List.set_cons_succ, p8, p13, p15]
              go_simp; (with_reducible refine hK.out _ _ ?_ ?_); exact rfl; exact ⟨Keeps.refl _ _, rfl⟩
            case s17 =>
              intro V wx hE hd
              obtain ⟨u8, hb8, hu8, p8⟩ : ∃ U, Keeps NoB wr.drew U ∧ Keeps NoB U wx ∧ ((V 114) = Value.bool false) := hd 8 (by decide)
              obtain ⟨u16, hb16, hu16, p16⟩ : ∃ U, Keeps NoB wr.drew U ∧ Keeps NoB U wx ∧ ((V 122) = Value.bool false) := hd 16 (by decide)
              clear hd
              clear hb8 hu8
              clear hb16 hu16
              intro K hK
              simp only [rput, List.foldl_cons, List.foldl_nil, Act.put, List.setIfInBounds_toArray, List.set_cons_zero, List.set_cons_succ, p8, p16]
              go_simp; (with_reducible refine hK.out _ _ ?_ ?_); exact rfl; exact ⟨Keeps.refl _ _, rfl⟩
            case s18 =>
              intro V wx hE hd
              obtain ⟨u17, hb17, hu17, p17⟩ : ∃ U, Keeps NoB wr.drew U ∧ Keeps NoB U wx ∧ ((V 123) = Value.bool false) := hd 17 (by decide)
              clear hd
              clear hb17 hu17
              intro K hK
              simp only [rput, List.foldl_cons, List.foldl_nil, Act.put, List.setIfInBounds_toArray, List.set_cons_zero, List.set_cons_succ, p17]
              go_simp; (with_reducible refine hK.out _ _ ?_ ?_); exact rfl; exact ⟨Keeps.refl _ _, rfl⟩
            case s19 =>
              intro V wx hE hd
              obtain ⟨u18, hb18, hu18, p18⟩ : ∃ U, Keeps NoB wr.drew U ∧ Keeps NoB U wx ∧ ((V 124) = Value.bool false) := hd 18 (by decide)
              clear hd
              clear hb18 hu18
              intro K hK
              simp only [rput, List.foldl_cons, List.foldl_nil, Act.put, List.setIfInBounds_toArray, List.set_cons_zero, List.set_cons_succ, p18]
              go_simp; (with_reducible refine hK.out _ _ ?_ ?_); exact rfl; exact ⟨Keeps.refl _ _, rfl⟩
            case s20 =>
              intro V wx hE hd
              obtain ⟨u18, hb18, hu18, p18⟩ : ∃ U, Keeps NoB wr.drew U ∧ Keeps NoB U wx ∧ ((V 124) = Value.bool false) := hd 18 (by decide)
              obtain ⟨u19, hb19, hu19, p19⟩ : ∃ U, Keeps NoB wr.drew U ∧ Keeps NoB U wx ∧ ((V 125) = Value.pointer (some ⟨pb, 1, none⟩)) := hd 19 (by decide)
              clear hd
              clear hb18 hu18
              clear hb19 hu19
              intro K hK
              simp only [rput, List.foldl_cons, List.foldl_nil, Act.put, List.setIfInBounds_toArray, List.set_cons_zero, List.set_cons_succ, p18, p19]
              obtain ⟨a1, a2, a3, a4, a5⟩ := hrows.out wx (HK.out.fresh (HKd.out.fresh hE)); go_simp; (with_reducible refine hK.out _ _ ?_ ?_); exact rfl; exact ⟨Keeps.refl _ _, rfl⟩
            case s21 =>
              intro V wx hE hd
              obtain ⟨u18, hb18, hu18, p18⟩ : ∃ U, Keeps NoB wr.drew U ∧ Keeps NoB U wx ∧ ((V 124) = Value.bool false) := hd 18 (by decide)
              clear hd
              clear hb18 hu18
              intro K hK
              simp only [rput, List.foldl_cons, List.foldl_nil, Act.put, List.setIfInBounds_toArray, List.set_cons_zero, List.set_cons_succ, p18]
              go_simp; (with_reducible refine hK.out _ _ ?_ ?_); exact rfl; exact ⟨Keeps.refl _ _, rfl⟩
            case s22 =>
              intro V wx hE hd
              obtain ⟨u18, hb18, hu18, p18⟩ : ∃ U, Keeps NoB wr.drew U ∧ Keeps NoB U wx ∧ ((V 124) = Value.bool false) := hd 18 (by decide)
              clear hd
              clear hb18 hu18
              intro K hK
              simp only [rput, List.foldl_cons, List.foldl_nil, Act.put, List.setIfInBounds_toArray, List.set_cons_zero, List.set_cons_succ, p18]
              go_simp; (with_reducible refine hK.out _ _ ?_ ?_); exact rfl; exact ⟨Keeps.refl _ _, rfl⟩
            case s23 =>
              intro V wx hE hd
              obtain ⟨u18, hb18, hu18, p18⟩ : ∃ U, Keeps NoB wr.drew U ∧ Keeps NoB U wx ∧ ((V 124) = Value.bool false) := hd 18 (by decide)
              obtain ⟨u21, hb21, hu21, p21⟩ : ∃ U, Keeps NoB wr.drew U ∧ Keeps NoB U wx ∧ ((V 127) = Value.slice (some ⟨g1, o1', none⟩) m k4) := hd 21 (by decide)
              obtain ⟨u22, hb22, hu22, p22⟩ : ∃ U, Keeps NoB wr.drew U ∧ Keeps NoB U wx ∧ ((V 128) = Value.int .i64 (k : Int)) := hd 22 (by decide)
              clear hd
              clear hb18 hu18
              clear hb21 hu21
              clear hb22 hu22
              intro K hK
              simp only [rput, List.foldl_cons, List.foldl_nil, Act.put, List.setIfInBounds_toArray, List.set_cons_zero, List.set_cons_succ, p18, p21, p22]
              go_simp; (with_reducible refine hK.out _ _ ?_ ?_); exact rfl; exact ⟨Keeps.refl _ _, rfl⟩
            case s24 =>
              intro V wx hE hd
              obtain ⟨u18, hb18, hu18, p18⟩ : ∃ U, Keeps NoB wr.drew U ∧ Keeps NoB U wx ∧ ((V 124) = Value.bool false) := hd 18 (by decide)
              obtain ⟨u23, hb23, hu23, p23⟩ : ∃ U, Keeps NoB wr.drew U ∧ Keeps NoB U wx ∧ ((V 129) = Value.pointer (some ⟨g1, o1' + k, none⟩)) := hd 23 (by decide)
              clear hd
              clear hb18 hu18
              clear hb23 hu23
              intro K hK
              simp only [rput, List.foldl_cons, List.foldl_nil, Act.put, List.setIfInBounds_toArray, List.set_cons_zero, List.set_cons_succ, p18, p23]
              obtain ⟨a1, a2, a3, a4, a5⟩ := hrows.out wx (HK.out.fresh (HKd.out.fresh hE)); go_simp; (with_reducible refine hK.out _ _ ?_ ?_); exact rfl; exact ⟨Keeps.refl _ _, rfl⟩
            case s25 =>
              intro V wx hE hd
              obtain ⟨u18, hb18, hu18, p18⟩ : ∃ U, Keeps NoB wr.drew U ∧ Keeps NoB U wx ∧ ((V 124) = Value.bool false) := hd 18 (by decide)
              clear hd
              clear hb18 hu18
              intro K hK
              simp only [rput, List.foldl_cons, List.foldl_nil, Act.put, List.setIfInBounds_toArray, List.set_cons_zero, List.set_cons_succ, p18]
              go_simp; (with_reducible refine hK.out _ _ ?_ ?_); exact rfl; exact ⟨Keeps.refl _ _, rfl⟩
            case s26 =>
              intro V wx hE hd
              obtain ⟨u18, hb18, hu18, p18⟩ : ∃ U, Keeps NoB wr.drew U ∧ Keeps NoB U wx ∧ ((V 124) = Value.bool false) := hd 18 (by decide)
              clear hd
              clear hb18 hu18
              intro K hK
              simp only [rput, List.foldl_cons, List.foldl_nil, Act.put, List.setIfInBounds_toArray, List.set_cons_zero, List.set_cons_succ, p18]
              go_simp; (with_reducible refine hK.out _ _ ?_ ?_); exact rfl; exact ⟨Keeps.refl _ _, rfl⟩
            case s27 =>
              intro V wx hE hd
              obtain ⟨u18, hb18, hu18, p18⟩ : ∃ U, Keeps NoB wr.drew U ∧ Keeps NoB U wx ∧ ((V 124) = Value.bool false) := hd 18 (by decide)
              obtain ⟨u25, hb25, hu25, p25⟩ : ∃ U, Keeps NoB wr.drew U ∧ Keeps NoB U wx ∧ ((V 131) = Value.slice (some ⟨g2, o2', none⟩) m k5) := hd 25 (by decide)
              obtain ⟨u26, hb26, hu26, p26⟩ : ∃ U, Keeps NoB wr.drew U ∧ Keeps NoB U wx ∧ ((V 132) = Value.int .i64 (k : Int)) := hd 26 (by decide)
              clear hd
              clear hb18 hu18
              clear hb25 hu25
              clear hb26 hu26
              intro K hK
              simp only [rput, List.foldl_cons, List.foldl_nil, Act.put, List.setIfInBounds_toArray, List.set_cons_zero, List.set_cons_succ, p18, p25, p26]
              go_simp; (with_reducible refine hK.out _ _ ?_ ?_); exact rfl; exact ⟨Keeps.refl _ _, rfl⟩
            case s28 =>
              intro V wx hE hd
              obtain ⟨u18, hb18, hu18, p18⟩ : ∃ U, Keeps NoB wr.drew U ∧ Keeps NoB U wx ∧ ((V 124) = Value.bool false) := hd 18 (by decide)
              obtain ⟨u27, hb27, hu27, p27⟩ : ∃ U, Keeps NoB wr.drew U ∧ Keeps NoB U wx ∧ ((V 133) = Value.pointer (some ⟨g2, o2' + k, none⟩)) := hd 27 (by decide)
              clear hd
              clear hb18 hu18
              clear hb27 hu27
              intro K hK
              simp only [rput, List.foldl_cons, List.foldl_nil, Act.put, List.setIfInBounds_toArray, List.set_cons_zero, List.set_cons_succ, p18, p27]
              obtain ⟨a1, a2, a3, a4, a5⟩ := hrows.out wx (HK.out.fresh (HKd.out.fresh hE)); go_simp; (with_reducible refine hK.out _ _ ?_ ?_); exact rfl; exact ⟨Keeps.refl _ _, rfl⟩
            case s29 =>
              intro V wx hE hd
              obtain ⟨u18, hb18, hu18, p18⟩ : ∃ U, Keeps NoB wr.drew U ∧ Keeps NoB U wx ∧ ((V 124) = Value.bool false) := hd 18 (by decide)
              obtain ⟨u24, hb24, hu24, p24⟩ : ∃ U, Keeps NoB wr.drew U ∧ Keeps NoB U wx ∧ ((V 130) = Value.slice B1 B d1) := hd 24 (by decide)
              obtain ⟨u28, hb28, hu28, p28⟩ : ∃ U, Keeps NoB wr.drew U ∧ Keeps NoB U wx ∧ ((V 134) = Value.slice B2 B d2) := hd 28 (by decide)
              clear hd
              clear hb18 hu18
              clear hb24 hu24
              clear hb28 hu28
              intro K hK
              simp only [rput, List.foldl_cons, List.foldl_nil, Act.put, List.setIfInBounds_toArray, List.set_cons_zero, List.set_cons_succ, p18, p24, p28]
              go_simp; (with_reducible refine hK.out _ _ ?_ ?_); exact rfl; exact ⟨(Keeps.refl _ _).alloc _, _, rfl, hid (heap_alloc_new _ _)⟩
            case s30 =>
              intro V wx hE hd
              obtain ⟨u18, hb18, hu18, p18⟩ : ∃ U, Keeps NoB wr.drew U ∧ Keeps NoB U wx ∧ ((V 124) = Value.bool false) := hd 18 (by decide)
              obtain ⟨u20, hb20, hu20, p20⟩ : ∃ U, Keeps NoB wr.drew U ∧ Keeps NoB U wx ∧ ((V 126) = Value.int .i64 (B : Int)) := hd 20 (by decide)
              obtain ⟨u29, hb29, hu29, p29⟩ : ∃ U, Keeps NoB wr.drew U ∧ Keeps NoB U wx ∧ (∃ g, (V 135) = Value.slice (some ⟨g, 0, none⟩) 2 2 ∧ Hid (U.heap[g]? = some (.cells #[.slice B1 B d1, .slice B2 B d2] 25 (0, 0)))) := hd 29 (by decide)
              clear hd
              clear hb18 hu18
              clear hb20 hu20
              obtain ⟨g, q29, hgg⟩ := p29
              intro K hK
              simp only [rput, List.foldl_cons, List.foldl_nil, Act.put, List.setIfInBounds_toArray, List.set_cons_zero, List.set_cons_succ, p18, p20, q29]
              go_simp; refine (hsk.out wx g _ _ (hu29.heap hgg.out (fun h => h)) (HK.out.fresh (HKd.out.fresh hE))).mono ?_; rintro e w8 ⟨v8, rfl, ho8, hk8⟩; obtain ⟨A9, c9, hv9, _, _, hb9⟩ := OwnB.reads ho8; rw [HL3.out] at hv9; subst hv9; (with_reducible refine hK.out _ _ ?_ ?_); exact rfl; exact ⟨hk8, A9, c9, rfl, hid (hb9.mono (fun _ _ _ => trivial))⟩
            case s31 =>
              intro V wx hE hd
              obtain ⟨u18, hb18, hu18, p18⟩ : ∃ U, Keeps NoB wr.drew U ∧ Keeps NoB U wx ∧ ((V 124) = Value.bool false) := hd 18 (by decide)
              obtain ⟨u30, hb30, hu30, p30⟩ : ∃ U, Keeps NoB wr.drew U ∧ Keeps NoB U wx ∧ (∃ A9 c9, (V 136) = Value.slice A9 z3 c9 ∧ Hid (BytesIn (fun _ => True) U A9 l3)) := hd 30 (by decide)
              clear hd
              clear hb18 hu18
              obtain ⟨A9, c9, q30, hby⟩ := p30
              intro K hK
              simp only [rput, List.foldl_cons, List.foldl_nil, Act.put, List.setIfInBounds_toArray, List.set_cons_zero, List.set_cons_succ, p18, q30]
              have hcv := conv_run 25 9 Try.underlying25 Try.underlying9 (hby.out.kept hu30) c9; rw [HL3.out] at hcv; go_simp; (with_reducible refine hK.out _ _ ?_ ?_); exact rfl; exact ⟨Keeps.refl _ _, rfl⟩
            case s32 =>
              intro V wx hE hd
              obtain ⟨u18, hb18, hu18, p18⟩ : ∃ U, Keeps NoB wr.drew U ∧ Keeps NoB U wx ∧ ((V 124) = Value.bool false) := hd 18 (by decide)
              clear hd
              clear hb18 hu18
              intro K hK
              simp only [rput, List.foldl_cons, List.foldl_nil, Act.put, List.setIfInBounds_toArray, List.set_cons_zero, List.set_cons_succ, p18]
              go_simp; (with_reducible refine hK.out _ _ ?_ ?_); exact rfl; exact ⟨Keeps.refl _ _, rfl⟩
            case s33 =>
              intro V wx hE hd
              obtain ⟨u18, hb18, hu18, p18⟩ : ∃ U, Keeps NoB wr.drew U ∧ Keeps NoB U wx ∧ ((V 124) = Value.bool false) := hd 18 (by decide)
              clear hd
              clear hb18 hu18
              intro K hK
              simp only [rput, List.foldl_cons, List.foldl_nil, Act.put, List.setIfInBounds_toArray, List.set_cons_zero, List.set_cons_succ, p18]
              go_simp; (with_reducible refine hK.out _ _ ?_ ?_); exact rfl; exact ⟨Keeps.refl _ _, rfl⟩
            case s34 =>
              intro V wx hE hd
              obtain ⟨u18, hb18, hu18, p18⟩ : ∃ U, Keeps NoB wr.drew U ∧ Keeps NoB U wx ∧ ((V 124) = Value.bool false) := hd 18 (by decide)
              obtain ⟨u32, hb32, hu32, p32⟩ : ∃ U, Keeps NoB wr.drew U ∧ Keeps NoB U wx ∧ ((V 138) = Value.slice (some ⟨g3, o3', none⟩) m k7) := hd 32 (by decide)
              obtain ⟨u33, hb33, hu33, p33⟩ : ∃ U, Keeps NoB wr.drew U ∧ Keeps NoB U wx ∧ ((V 139) = Value.int .i64 (k : Int)) := hd 33 (by decide)
              clear hd
              clear hb18 hu18
              clear hb32 hu32
              clear hb33 hu33
              intro K hK
              simp only [rput, List.foldl_cons, List.foldl_nil, Act.put, List.setIfInBounds_toArray, List.set_cons_zero, List.set_cons_succ, p18, p32, p33]
              go_simp; (with_reducible refine hK.out _ _ ?_ ?_); exact rfl; exact ⟨Keeps.refl _ _, rfl⟩
            case s35 =>
              intro V wx hE hd
              obtain ⟨u18, hb18, hu18, p18⟩ : ∃ U, Keeps NoB wr.drew U ∧ Keeps NoB U wx ∧ ((V 124) = Value.bool false) := hd 18 (by decide)
              obtain ⟨u34, hb34, hu34, p34⟩ : ∃ U, Keeps NoB wr.drew U ∧ Keeps NoB U wx ∧ ((V 140) = Value.pointer (some ⟨g3, o3' + k, none⟩)) := hd 34 (by decide)
              clear hd
              clear hb18 hu18
              clear hb34 hu34
              intro K hK
              simp only [rput, List.foldl_cons, List.foldl_nil, Act.put, List.setIfInBounds_toArray, List.set_cons_zero, List.set_cons_succ, p18, p34]
              obtain ⟨a1, a2, a3, a4, a5⟩ := hrows.out wx (HK.out.fresh (HKd.out.fresh hE)); go_simp; (with_reducible refine hK.out _ _ ?_ ?_); exact rfl; exact ⟨Keeps.refl _ _, rfl⟩
            case s36 =>
              intro V wx hE hd
              obtain ⟨u18, hb18, hu18, p18⟩ : ∃ U, Keeps NoB wr.drew U ∧ Keeps NoB U wx ∧ ((V 124) = Value.bool false) := hd 18 (by decide)
              obtain ⟨u35, hb35, hu35, p35⟩ : ∃ U, Keeps NoB wr.drew U ∧ Keeps NoB U wx ∧ ((V 141) = Value.slice B3 z3 d3) := hd 35 (by decide)
              clear hd
              clear hb18 hu18
              clear hb35 hu35
              intro K hK
              simp only [rput, List.foldl_cons, List.foldl_nil, Act.put, List.setIfInBounds_toArray, List.set_cons_zero, List.set_cons_succ, p18, p35]
              obtain ⟨a1, a2, a3, a4, a5⟩ := hrows.out wx (HK.out.fresh (HKd.out.fresh hE)); go_simp; (with_reducible refine hK.out _ _ ?_ ?_); exact rfl; exact ⟨Keeps.refl _ _, rfl⟩
            case s37 =>
              intro V wx hE hd
              obtain ⟨u18, hb18, hu18, p18⟩ : ∃ U, Keeps NoB wr.drew U ∧ Keeps NoB U wx ∧ ((V 124) = Value.bool false) := hd 18 (by decide)
              obtain ⟨u31, hb31, hu31, p31⟩ : ∃ U, Keeps NoB wr.drew U ∧ Keeps NoB U wx ∧ ((V 137) = Value.string (strOf l3)) := hd 31 (by decide)
              obtain ⟨u36, hb36, hu36, p36⟩ : ∃ U, Keeps NoB wr.drew U ∧ Keeps NoB U wx ∧ ((V 142) = Value.string (strOf l3)) := hd 36 (by decide)
              clear hd
              clear hb18 hu18
              clear hb31 hu31
              clear hb36 hu36
              intro K hK
              simp only [rput, List.foldl_cons, List.foldl_nil, Act.put, List.setIfInBounds_toArray, List.set_cons_zero, List.set_cons_succ, p18, p31, p36]
              go_simp; (with_reducible refine hK.out _ _ ?_ ?_); exact rfl; exact ⟨Keeps.refl _ _, rfl⟩
            case s38 =>
              intro V wx hE hd
              obtain ⟨u18, hb18, hu18, p18⟩ : ∃ U, Keeps NoB wr.drew U ∧ Keeps NoB U wx ∧ ((V 124) = Value.bool false) := hd 18 (by decide)
              obtain ⟨u37, hb37, hu37, p37⟩ : ∃ U, Keeps NoB wr.drew U ∧ Keeps NoB U wx ∧ ((V 143) = Value.bool false) := hd 37 (by decide)
              clear hd
              clear hb18 hu18
              clear hb37 hu37
              intro K hK
              simp only [rput, List.foldl_cons, List.foldl_nil, Act.put, List.setIfInBounds_toArray, List.set_cons_zero, List.set_cons_succ, p18, p37]
              go_simp; (with_reducible refine hK.out _ _ ?_ ?_); exact rfl; exact ⟨Keeps.refl _ _, rfl⟩
            case fin =>
              intro V wz hE hd
              obtain ⟨u38, hb38, hu38, p38⟩ : ∃ U, Keeps NoB wr.drew U ∧ Keeps NoB U wz ∧ ((V 144) = Value.bool false) := hd 38 (by decide)
              clear hd
              clear hb38 hu38
              simp only [rput, List.foldl_cons, List.foldl_nil, Act.put, List.setIfInBounds_toArray, List.set_cons_zero, List.set_cons_succ, p38]
              clear p38
              go_wp2_with fail
              go_roundw
              case rel => exact ⟨k + 1, by omega, by go_num, hid (HK.out.fresh (HKd.out.fresh hE))⟩
              case measure => simp [intOf]; omega
          · obtain rfl : k = m := by omega
            go_wp2_with fail
            go_ret
            exact ⟨rfl, HKa.out.fresh (HK7.out.fresh HK.out)⟩
    · have hmb := mayB_false hm
      rw [hmb] at hmay
      unfold Par.val at hbig hmay ⊢
      clear hm hmb
      go_enter Try.func4, Try.ntmps4
      go_wp2_with fail
      refine (speaks13_calls _).mono ?_
      rintro e w1 ⟨rfl, HK1⟩
      obtain ⟨⟨b0, b1, b2, b3, b4⟩, t0, t1⟩ := hS.out _ HK1
      have HK1 := hid HK1
      go_wp2_with fail
      refine (hbig.out _).mono ?_
      rintro e w2 ⟨rfl, HK2⟩
      have HK2 := hid (HK1.out.fresh HK2)
      clear b0 b1 b2 b3 b4 t0 t1
      obtain ⟨⟨b0, b1, b2, b3, b4⟩, t0, t1⟩ := hS.out _ HK2.out
      go_wp2_with fail
      refine (hmay.out _).mono ?_
      rintro e w3 ⟨rfl, HK3⟩
      have HK3 := hid (HK2.out.fresh HK3)
      clear b0 b1 b2 b3 b4 t0 t1
      obtain ⟨⟨b0, b1, b2, b3, b4⟩, t0, t1⟩ := hS.out _ HK3.out
      go_wp2_with fail
      go_ret
      exact ⟨rfl, HKa.out.fresh HK3.out⟩
end Go.Proofs.Ytpkkaicpbihjfaa
