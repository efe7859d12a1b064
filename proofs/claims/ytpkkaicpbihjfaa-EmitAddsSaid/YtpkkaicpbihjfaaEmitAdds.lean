/- The payloads of two objects and of both: the walk of the law EmitAdds. Conditions: numbers are of their kinds. -/
import Derived.Test.YtpkkaicpbihjfaaLaw14
import Derived.Test.YtpkkaicpbihjfaaAdds14
import Derived.Test.YtpkkaicpbihjfaaG2
import Derived.Test.YtpkkaicpbihjfaaG3
import Derived.BigQuiet
set_option linter.unusedVariables false
set_option linter.unusedSimpArgs false
namespace Go.Proofs.Ytpkkaicpbihjfaa
open Go.RowKit
attribute [local go_sem ↓] Go.wp_at_zero Go.wp_at_succ

theorem rows_of2 {n : Nat} {a b : List UInt8} {V1 V2 : Option Addr} {d1 d2 g : Nat} {T : TypeId} {fr : Nat × Nat} {w : World} (hg : w.heap[g]? = some (.cells #[.slice V1 n d1, .slice V2 n d2] T fr)) (k1 : RowIn (fun _ => True) w (.slice V1 n d1) a) (k2 : RowIn (fun _ => True) w (.slice V2 n d2) b) :
    RowsIn (fun _ => True) w (some ⟨g, 0, none⟩) [a, b] := by
  refine RowsIn.ofBlock [.slice V1 n d1, .slice V2 n d2] [a, b] (by exact hg) rfl (by simp) trivial ?_
  intro j u hu
  rcases j with _ | _ | j
  · obtain rfl := Option.some.inj hu; exact k1
  · obtain rfl := Option.some.inj hu; exact k2
  · exact absurd hu (by simp)
theorem rows_of3 {n : Nat} {a b x : List UInt8} {V1 V2 V3 : Option Addr} {d1 d2 d3 g : Nat} {T : TypeId} {fr : Nat × Nat} {w : World} (hg : w.heap[g]? = some (.cells #[.slice V1 n d1, .slice V2 n d2, .slice V3 n d3] T fr)) (k1 : RowIn (fun _ => True) w (.slice V1 n d1) a) (k2 : RowIn (fun _ => True) w (.slice V2 n d2) b) (k3 : RowIn (fun _ => True) w (.slice V3 n d3) x) :
    RowsIn (fun _ => True) w (some ⟨g, 0, none⟩) [a, b, x] := by
  refine RowsIn.ofBlock [.slice V1 n d1, .slice V2 n d2, .slice V3 n d3] [a, b, x] (by exact hg) rfl (by simp) trivial ?_
  intro j u hu
  rcases j with _ | _ | _ | j
  · obtain rfl := Option.some.inj hu; exact k1
  · obtain rfl := Option.some.inj hu; exact k2
  · obtain rfl := Option.some.inj hu; exact k3
  · exact absurd hu (by simp)
set_option maxHeartbeats 2000000 in
set_option maxRecDepth 20000 in
theorem emitAdds_walk (p : Par) (session : Nat) (obj : List UInt8) (A : Option Addr) (c : Nat) (ids : List Nat) (D : Option Addr) (d : Nat) (oth : List UInt8) (E : Option Addr) (ce : Nat) (w : World) (hwf : p.wf) (hs : session < 18446744073709551616) (ho : BytesIn (fun _ => True) w A obj) (hcap : obj.length ≤ c) (hA : A = none → c = 0) (hids : NatsAt w D ids) (ho2 : BytesIn (fun _ => True) w E oth) (hcap2 : oth.length ≤ ce) (hE2 : E = none → ce = 0) :
    Calls Try.prog 8 #[.agg #[.int .i64 p.n, .int .i64 p.b, .int .i64 p.q, .int .i64 p.eps, .int .i64 p.f, .int .u64 (session : Int), .slice A obj.length c, .slice D ids.length d], .slice E oth.length ce] w fun e w' => e = .returned (.bool true) ∧ Keeps NoB w w' := by
  have hu := Try.underlying23
  have huh := Try.underlying53
  have hup := Try.underlying55
  have HO := hid ho
  have HO2 := hid ho2
  have HWF := hid hwf
  have HI := hid hids
  have HA := hid hA
  have HE2 := hid hE2
  have hlen := ho.len
  have hlenE := ho2.len
  have hlen2 := hids.1.len
  rw [List.length_map] at hlen2
  obtain ⟨L, hL⟩ : ∃ L, obj.length = L := ⟨_, rfl⟩
  obtain ⟨K, hK⟩ : ∃ K, oth.length = K := ⟨_, rfl⟩
  obtain ⟨M, hM⟩ : ∃ M, ids.length = M := ⟨_, rfl⟩
  have HL := hid hL
  have HKK := hid hK
  have HM := hid hM
  rw [hL] at hcap hlen ⊢
  rw [hK] at hcap2 hlenE ⊢
  rw [hM] at hlen2 ⊢
  clear ho ho2 hwf hids hL hK hM hA hE2
  obtain ⟨q, hq⟩ : ∃ q, min L K = q := ⟨_, rfl⟩
  have hq1 : q ≤ L := by omega
  have hq2 : q ≤ K := by omega
  have hmin : min (L : Int) (K : Int) = (q : Int) := by omega
  have la := hid (show (obj.take q).length = q by rw [List.length_take, HL.out]; omega)
  have lb := hid (show (oth.take q).length = q by rw [List.length_take, HKK.out]; omega)
  have hbox := hid (heap_alloc_new w (.cells #[.int .i64 p.n, .int .i64 p.b, .int .i64 p.q, .int .i64 p.eps, .int .i64 p.f, .int .u64 (session : Int), .slice A L c, .slice D M d] 45))
  have HKa := hid ((Keeps.refl NoB w).alloc (.cells #[.int .i64 p.n, .int .i64 p.b, .int .i64 p.q, .int .i64 p.eps, .int .i64 p.f, .int .u64 (session : Int), .slice A L c, .slice D M d] 45))
  obtain ⟨wa, hwa⟩ : ∃ wa, w.alloc (.cells #[.int .i64 p.n, .int .i64 p.b, .int .i64 p.q, .int .i64 p.eps, .int .i64 p.f, .int .u64 (session : Int), .slice A L c, .slice D M d] 45) = wa := ⟨_, rfl⟩
  rw [hwa] at hbox HKa
  obtain ⟨pb, hpb⟩ : ∃ pb, w.heap.size = pb := ⟨_, rfl⟩
  rw [hpb] at hbox
  go_enter Try.func8, Try.ntmps8
  go_wp2_with fail
  refine (speaks14_calls _).mono ?_
  rintro e w1 ⟨rfl, HK1⟩
  have HCB := hid (fun (W : World) (hW : Keeps NoB w1 W) => cells8' ((HK1.fresh hW).heap hbox.out (fun h => h)))
  have HK1 := hid (HKa.out.fresh HK1)
  clear hbox HKa hwa hpb hq
  have HSM := hid (fun (W : World) => small_calls p A L c W hlen)
  unfold Par.val at HSM
  obtain ⟨b0, b1, b2, b3, b4, b5, b6, b7⟩ := HCB.out w1 (Keeps.refl _ _)
  go_wp2_with fail
  refine (HSM.out _).mono ?_
  rintro e w2 ⟨rfl, HK2⟩
  have HK2 := hid HK2
  have HK12 := hid (HK1.out.fresh HK2.out)
  clear b0 b1 b2 b3 b4 b5 b6 b7 HSM
  obtain ⟨b0, b1, b2, b3, b4, b5, b6, b7⟩ := HCB.out w2 HK2.out
  by_cases hsm : smallN p L = true
  · rw [hsm]
    obtain ⟨hm, hn60, hb60, hf200, hle⟩ := smallN_yes hsm
    by_cases h20 : 20 < M
    · have d0 : decide (20 < M) = true := decide_eq_true h20
      have d0' : decide ((20 : Int) < (M : Int)) = true := decide_eq_true (by omega)
      clear hsm hm hn60 hb60 hf200 hle h20
      go_wp2_with fail
      go_ret
      exact ⟨rfl, HK12.out⟩
    · have d0 : decide (20 < M) = false := decide_eq_false h20
      have d0' : decide ((20 : Int) < (M : Int)) = false := decide_eq_false (by omega)
      have hqb : (q : Int) ≤ p.n * p.b := by omega
      have ha1 := hid (fun (W : World) (hW : Keeps NoB w2 W) => (HO.out.kept (HK12.out.fresh hW)).take q)
      have ha2 := hid (fun (W : World) (hW : Keeps NoB w2 W) => (HO2.out.kept (HK12.out.fresh hW)).take q)
      have lx := hid ((xorL_length (a := obj.take q) (b := oth.take q) (by rw [la.out, lb.out])).trans la.out)
      have HF := hid (fun (id : Nat) => three14_fit hm session (obj.take q) (oth.take q) id)
      have HZ := hid (fun (id : Nat) => three14_sum hm session (obj.take q) (oth.take q) (by rw [la.out, lb.out]) id)
      have hs2 := hid (sum_pair (n := q) (b := oth.take q) la.out)
      have HP1 := hid (fun (id : Nat) => payN_length hm session (obj.take q) id)
      have HP2 := hid (fun (id : Nat) => payN_length hm session (oth.take q) id)
      have HP3 := hid (fun (id : Nat) => payN_length hm session (xorL (obj.take q) (oth.take q)) id)
      unfold three14 at HF HZ
      generalize obj.take q = xa at *
      generalize oth.take q = xb at *
      generalize xorL xa xb = xx at *
      have HN1 := hid (fun (W : World) (hW : Keeps NoB w2 W) => emitNew_yes p session xa A c (fun _ => True) W hm hs (ha1.out W hW) (by rw [la.out]; omega) (by rw [la.out]; exact hqb))
      have HN2 := hid (fun (W : World) (hW : Keeps NoB w2 W) => emitNew_yes p session xb E ce (fun _ => True) W hm hs (ha2.out W hW) (by rw [lb.out]; omega) (by rw [lb.out]; exact hqb))
      have HN3 := hid (fun (W : World) (V : Option Addr) (cv : Nat) (h : BytesIn (fun _ => True) W V xx) (hc : q ≤ cv) => emitNew_yes p session xx V cv (fun _ => True) W hm hs h (by rw [lx.out]; exact hc) (by rw [lx.out]; exact hqb))
      have hr1 := hid (fun (W : World) (hW : Keeps NoB w2 W) => (show RowIn (fun _ => True) W (.slice A q c) xa from ⟨A, c, by rw [la.out], by rw [la.out]; omega, HA.out, ha1.out W hW⟩))
      have hr2 := hid (fun (W : World) (hW : Keeps NoB w2 W) => (show RowIn (fun _ => True) W (.slice E q ce) xb from ⟨E, ce, by rw [lb.out], by rw [lb.out]; omega, HE2.out, ha2.out W hW⟩))
      have hqm : q ≤ 1073741824 := by
        have h1 : p.n * p.b ≤ 60 * 60 := Int.mul_le_mul hn60 hb60 (by have := hm.2.2.1; omega) (by omega)
        omega
      have HS3 := hid (fun (W : World) (g : Nat) (hg : W.heap[g]? = some (.cells #[.slice A q c, .slice E q ce] 25 (0, 0))) (hW : Keeps NoB w2 W) => rsum_calls q [xa, xb] (some ⟨g, 0, none⟩) 2 (fun _ => True) W hqm (rows_of2 hg (hr1.out W hW) (hr2.out W hW)) (by simp [fitB, la.out, lb.out]))
      rw [hs2.out] at HS3
      rw [la.out] at HN1
      rw [lb.out] at HN2
      rw [lx.out] at HN3
      unfold Par.val at HN1 HN2 HN3
      have hb1 : 1 ≤ p.b ∧ p.b ≤ 60 := ⟨hm.2.2.1, hb60⟩
      have HKd := hid ((Keeps.refl NoB w2).drew)
      have LA := hid la.out
      have LB := hid lb.out
      have LX := hid lx.out
      have HMY := hid hm
      have HSS := hid hs
      have HKw2 := hid HK2.out
      have e0 : (0 : Int) ≤ (q : Int) := by omega
      have e1 : (q : Int) ≤ (c : Int) := by omega
      have e2 : (q : Int) ≤ (ce : Int) := by omega
      have e3 : (q : Int) ≤ (L : Int) := by omega
      have e4 : (q : Int) ≤ (K : Int) := by omega
      clear hsm hm hn60 hb60 hf200 hle hqb h20 hs la lb lx hr1 hr2 ha1 ha2 hs2
      go_wp2_with fail
      refine wp_region_list [([], [36], []), ([0], [37], [36]), ([], [38], []), ([2], [39], [38]), ([], [40], []), ([4], [41], [40]), ([], [42], []), ([4, 5, 6], [43], [40, 41, 42]), ([0, 1, 2, 3, 4, 5, 6, 7], [44], [36, 37, 38, 39, 40, 41, 42, 43]), ([0, 1, 2, 3, 4, 5, 6, 7, 8], [35, 44], [36, 37, 38, 39, 40, 41, 42, 43, 44]), ([0, 1, 2, 3, 4, 5, 6, 7, 8, 9], [45], [36, 37, 38, 39, 40, 41, 42, 43, 44, 35]), ([0, 1, 2, 3, 4, 5, 6, 7, 8, 9], [46], [36, 37, 38, 39, 40, 41, 42, 43, 44, 35]), ([0, 1, 2, 3, 4, 5, 6, 7, 8, 9, 10], [6], [36, 37, 38, 39, 40, 41, 42, 43, 44, 35, 45]), ([0, 1, 2, 3, 4, 5, 6, 7, 8, 9, 10, 11, 12], [7], [36, 37, 38, 39, 40, 41, 42, 43, 44, 35, 45, 46, 6])] [36, 37, 38, 39, 40, 41, 42, 43, 44, 35, 45, 46, 6, 7] (Keeps NoB) (fun (i : Nat) => ([(fun rs__ U => (rs__.getD 0 undef) = Value.pointer (some ⟨pb, 0, none⟩)), (fun rs__ U => (rs__.getD 0 undef) = Value.agg #[.int .i64 p.n, .int .i64 p.b, .int .i64 p.q, .int .i64 p.eps, .int .i64 p.f]), (fun rs__ U => (rs__.getD 0 undef) = Value.pointer (some ⟨pb, 5, none⟩)), (fun rs__ U => (rs__.getD 0 undef) = Value.int .u64 (session : Int)), (fun rs__ U => (rs__.getD 0 undef) = Value.pointer (some ⟨pb, 6, none⟩)), (fun rs__ U => (rs__.getD 0 undef) = Value.slice A L c), (fun rs__ U => (rs__.getD 0 undef) = Value.int .i64 (q : Int)), (fun rs__ U => (rs__.getD 0 undef) = Value.slice A q c), (fun rs__ U => ∃ x, (rs__.getD 0 undef) = Value.tuple #[Value.pointer (some ⟨x, 0, none⟩), Value.int .i64 0] ∧ Hid (EncAt U x p session xa)), (fun rs__ U => (rs__.getD 0 undef) = (rs__.getD 1 undef)), (fun rs__ U => ∃ x, (rs__.getD 0 undef) = Value.pointer (some ⟨x, 0, none⟩) ∧ Hid (EncAt U x p session xa)), (fun rs__ U => (rs__.getD 0 undef) = Value.int .i64 0), (fun rs__ U => ∃ x, (rs__.getD 0 undef) = Value.pointer (some ⟨x, 0, none⟩) ∧ Hid (EncAt U x p session xa)), (fun rs__ U => (rs__.getD 0 undef) = Value.int .i64 0)] : List (List Value → World → Prop)).getD i (fun _ _ => True)) (by kernel_rfl) (by kernel_rfl) (by kernel_rfl) (fun _ _ _ h1 h2 => h1.fresh h2) (fun _ => Keeps.refl _ _) (RL.cons ?s0 (RL.cons ?s1 (RL.cons ?s2 (RL.cons ?s3 (RL.cons ?s4 (RL.cons ?s5 (RL.cons ?s6 (RL.cons ?s7 (RL.cons ?s8 (RL.cons ?s9 (RL.cons ?s10 (RL.cons ?s11 (RL.cons ?s12 (RL.cons ?s13 (RL.nil _ _))))))))))))))) ?fin
      case s0 =>
        intro V wx hE hd
        clear hd
        intro K hK
        simp only [rput, List.foldl_cons, List.foldl_nil, Act.put, List.setIfInBounds_toArray, List.set_cons_zero, List.set_cons_succ]
        go_simp; (with_reducible refine hK.out _ _ ?_ ?_); exact rfl; exact ⟨Keeps.refl _ _, rfl⟩
      case s1 =>
        intro V wx hE hd
        obtain ⟨u0, hb0, hu0, p0⟩ : ∃ U, Keeps NoB w2.drew U ∧ Keeps NoB U wx ∧ ((V 36) = Value.pointer (some ⟨pb, 0, none⟩)) := hd 0 (by decide)
        clear hd
        clear hb0 hu0
        intro K hK
        simp only [rput, List.foldl_cons, List.foldl_nil, Act.put, List.setIfInBounds_toArray, List.set_cons_zero, List.set_cons_succ, p0]
        obtain ⟨b0, b1, b2, b3, b4, b5, b6, b7⟩ := HCB.out wx (HKw2.out.fresh (HKd.out.fresh hE)); go_simp; (with_reducible refine hK.out _ _ ?_ ?_); exact rfl; exact ⟨Keeps.refl _ _, rfl⟩
      case s2 =>
        intro V wx hE hd
        clear hd
        intro K hK
        simp only [rput, List.foldl_cons, List.foldl_nil, Act.put, List.setIfInBounds_toArray, List.set_cons_zero, List.set_cons_succ]
        go_simp; (with_reducible refine hK.out _ _ ?_ ?_); exact rfl; exact ⟨Keeps.refl _ _, rfl⟩
      case s3 =>
        intro V wx hE hd
        obtain ⟨u2, hb2, hu2, p2⟩ : ∃ U, Keeps NoB w2.drew U ∧ Keeps NoB U wx ∧ ((V 38) = Value.pointer (some ⟨pb, 5, none⟩)) := hd 2 (by decide)
        clear hd
        clear hb2 hu2
        intro K hK
        simp only [rput, List.foldl_cons, List.foldl_nil, Act.put, List.setIfInBounds_toArray, List.set_cons_zero, List.set_cons_succ, p2]
        obtain ⟨b0, b1, b2, b3, b4, b5, b6, b7⟩ := HCB.out wx (HKw2.out.fresh (HKd.out.fresh hE)); go_simp; (with_reducible refine hK.out _ _ ?_ ?_); exact rfl; exact ⟨Keeps.refl _ _, rfl⟩
      case s4 =>
        intro V wx hE hd
        clear hd
        intro K hK
        simp only [rput, List.foldl_cons, List.foldl_nil, Act.put, List.setIfInBounds_toArray, List.set_cons_zero, List.set_cons_succ]
        go_simp; (with_reducible refine hK.out _ _ ?_ ?_); exact rfl; exact ⟨Keeps.refl _ _, rfl⟩
      case s5 =>
        intro V wx hE hd
        obtain ⟨u4, hb4, hu4, p4⟩ : ∃ U, Keeps NoB w2.drew U ∧ Keeps NoB U wx ∧ ((V 40) = Value.pointer (some ⟨pb, 6, none⟩)) := hd 4 (by decide)
        clear hd
        clear hb4 hu4
        intro K hK
        simp only [rput, List.foldl_cons, List.foldl_nil, Act.put, List.setIfInBounds_toArray, List.set_cons_zero, List.set_cons_succ, p4]
        obtain ⟨b0, b1, b2, b3, b4, b5, b6, b7⟩ := HCB.out wx (HKw2.out.fresh (HKd.out.fresh hE)); go_simp; (with_reducible refine hK.out _ _ ?_ ?_); exact rfl; exact ⟨Keeps.refl _ _, rfl⟩
      case s6 =>
        intro V wx hE hd
        clear hd
        intro K hK
        simp only [rput, List.foldl_cons, List.foldl_nil, Act.put, List.setIfInBounds_toArray, List.set_cons_zero, List.set_cons_succ]
        go_simp; (with_reducible refine hK.out _ _ ?_ ?_); exact rfl; exact ⟨Keeps.refl _ _, rfl⟩
      case s7 =>
        intro V wx hE hd
        obtain ⟨u5, hb5, hu5, p5⟩ : ∃ U, Keeps NoB w2.drew U ∧ Keeps NoB U wx ∧ ((V 41) = Value.slice A L c) := hd 5 (by decide)
        obtain ⟨u6, hb6, hu6, p6⟩ : ∃ U, Keeps NoB w2.drew U ∧ Keeps NoB U wx ∧ ((V 42) = Value.int .i64 (q : Int)) := hd 6 (by decide)
        clear hd
        clear hb5 hu5
        clear hb6 hu6
        intro K hK
        simp only [rput, List.foldl_cons, List.foldl_nil, Act.put, List.setIfInBounds_toArray, List.set_cons_zero, List.set_cons_succ, p5, p6]
        go_simp; (with_reducible refine hK.out _ _ ?_ ?_); exact rfl; exact ⟨Keeps.refl _ _, rfl⟩
      case s8 =>
        intro V wx hE hd
        obtain ⟨u1, hb1, hu1, p1⟩ : ∃ U, Keeps NoB w2.drew U ∧ Keeps NoB U wx ∧ ((V 37) = Value.agg #[.int .i64 p.n, .int .i64 p.b, .int .i64 p.q, .int .i64 p.eps, .int .i64 p.f]) := hd 1 (by decide)
        obtain ⟨u3, hb3, hu3, p3⟩ : ∃ U, Keeps NoB w2.drew U ∧ Keeps NoB U wx ∧ ((V 39) = Value.int .u64 (session : Int)) := hd 3 (by decide)
        obtain ⟨u7, hb7, hu7, p7⟩ : ∃ U, Keeps NoB w2.drew U ∧ Keeps NoB U wx ∧ ((V 43) = Value.slice A q c) := hd 7 (by decide)
        clear hd
        clear hb1 hu1
        clear hb3 hu3
        clear hb7 hu7
        intro K hK
        simp only [rput, List.foldl_cons, List.foldl_nil, Act.put, List.setIfInBounds_toArray, List.set_cons_zero, List.set_cons_succ, p1, p3, p7]
        go_simp; refine (HN1.out wx (HKd.out.fresh hE)).mono ?_; rintro e w9 ⟨x, rfl, hen, hk9⟩; (with_reducible refine hK.out _ _ ?_ ?_); exact rfl; exact ⟨hk9, x, rfl, hid hen⟩
      case s9 =>
        intro V wx hE hd
        obtain ⟨u8, hb8, hu8, p8⟩ : ∃ U, Keeps NoB w2.drew U ∧ Keeps NoB U wx ∧ (∃ x, (V 44) = Value.tuple #[Value.pointer (some ⟨x, 0, none⟩), Value.int .i64 0] ∧ Hid (EncAt U x p session xa)) := hd 8 (by decide)
        clear hd
        obtain ⟨x, q8, hen⟩ := p8
        intro K hK
        simp only [rput, List.foldl_cons, List.foldl_nil, Act.put, List.setIfInBounds_toArray, List.set_cons_zero, List.set_cons_succ, q8]
        go_simp; (with_reducible refine hK.out _ _ ?_ ?_); exact rfl; exact ⟨Keeps.refl _ _, q8.symm⟩
      case s10 =>
        intro V wx hE hd
        obtain ⟨u8, hb8, hu8, p8⟩ : ∃ U, Keeps NoB w2.drew U ∧ Keeps NoB U wx ∧ (∃ x, (V 44) = Value.tuple #[Value.pointer (some ⟨x, 0, none⟩), Value.int .i64 0] ∧ Hid (EncAt U x p session xa)) := hd 8 (by decide)
        obtain ⟨u9, hb9, hu9, p9⟩ : ∃ U, Keeps NoB w2.drew U ∧ Keeps NoB U wx ∧ ((V 35) = (V 44)) := hd 9 (by decide)
        clear hd
        clear hb9 hu9
        obtain ⟨x, q8, hen⟩ := p8
        intro K hK
        simp only [rput, List.foldl_cons, List.foldl_nil, Act.put, List.setIfInBounds_toArray, List.set_cons_zero, List.set_cons_succ, p9, q8]
        go_simp; (with_reducible refine hK.out _ _ ?_ ?_); exact rfl; exact ⟨Keeps.refl _ _, x, rfl, hid (hen.out.kept hu8)⟩
      case s11 =>
        intro V wx hE hd
        obtain ⟨u8, hb8, hu8, p8⟩ : ∃ U, Keeps NoB w2.drew U ∧ Keeps NoB U wx ∧ (∃ x, (V 44) = Value.tuple #[Value.pointer (some ⟨x, 0, none⟩), Value.int .i64 0] ∧ Hid (EncAt U x p session xa)) := hd 8 (by decide)
        obtain ⟨u9, hb9, hu9, p9⟩ : ∃ U, Keeps NoB w2.drew U ∧ Keeps NoB U wx ∧ ((V 35) = (V 44)) := hd 9 (by decide)
        clear hd
        clear hb9 hu9
        obtain ⟨x, q8, hen⟩ := p8
        intro K hK
        simp only [rput, List.foldl_cons, List.foldl_nil, Act.put, List.setIfInBounds_toArray, List.set_cons_zero, List.set_cons_succ, p9, q8]
        go_simp; (with_reducible refine hK.out _ _ ?_ ?_); exact rfl; exact ⟨Keeps.refl _ _, rfl⟩
      case s12 =>
        intro V wx hE hd
        obtain ⟨u10, hb10, hu10, p10⟩ : ∃ U, Keeps NoB w2.drew U ∧ Keeps NoB U wx ∧ (∃ x, (V 45) = Value.pointer (some ⟨x, 0, none⟩) ∧ Hid (EncAt U x p session xa)) := hd 10 (by decide)
        clear hd
        obtain ⟨x, q10, hen⟩ := p10
        intro K hK
        simp only [rput, List.foldl_cons, List.foldl_nil, Act.put, List.setIfInBounds_toArray, List.set_cons_zero, List.set_cons_succ, q10]
        go_simp; (with_reducible refine hK.out _ _ ?_ ?_); exact rfl; exact ⟨Keeps.refl _ _, x, rfl, hid (hen.out.kept hu10)⟩
      case s13 =>
        intro V wx hE hd
        obtain ⟨u11, hb11, hu11, p11⟩ : ∃ U, Keeps NoB w2.drew U ∧ Keeps NoB U wx ∧ ((V 46) = Value.int .i64 0) := hd 11 (by decide)
        clear hd
        clear hb11 hu11
        intro K hK
        simp only [rput, List.foldl_cons, List.foldl_nil, Act.put, List.setIfInBounds_toArray, List.set_cons_zero, List.set_cons_succ, p11]
        go_simp; (with_reducible refine hK.out _ _ ?_ ?_); exact rfl; exact ⟨Keeps.refl _ _, rfl⟩
      case fin =>
        intro V w3 hE hd
        obtain ⟨u12, hb12, hu12, p12⟩ : ∃ U, Keeps NoB w2.drew U ∧ Keeps NoB U w3 ∧ (∃ x, (V 6) = Value.pointer (some ⟨x, 0, none⟩) ∧ Hid (EncAt U x p session xa)) := hd 12 (by decide)
        obtain ⟨u13, hb13, hu13, p13⟩ : ∃ U, Keeps NoB w2.drew U ∧ Keeps NoB U w3 ∧ ((V 7) = Value.int .i64 0) := hd 13 (by decide)
        clear hd
        clear hb13 hu13
        obtain ⟨x, q12, hen⟩ := p12
        simp only [rput, List.foldl_cons, List.foldl_nil, Act.put, List.setIfInBounds_toArray, List.set_cons_zero, List.set_cons_succ, p13, q12]
        clear p13
        have HE1 := hid (hen.out.kept hu12)
        have HK23 := hid (HKd.out.fresh hE)
        have HKw3 := hid (HKw2.out.fresh HK23.out)
        clear hen hu12 hb12 HKd
        have HKd := hid ((Keeps.refl NoB w3).drew)
        obtain ⟨x1, hx1⟩ : ∃ y, y = x := ⟨_, rfl⟩
        rw [← hx1] at HE1 ⊢
        clear b0 b1 b2 b3 b4 b5 b6 b7
        go_wp2_with fail
        refine wp_region_list [([], [48], []), ([0], [49], [48]), ([], [50], []), ([2], [51], [50]), ([], [52], []), ([], [53], []), ([4, 5], [54], [52, 53]), ([0, 1, 2, 3, 4, 5, 6], [55], [48, 49, 50, 51, 52, 53, 54]), ([0, 1, 2, 3, 4, 5, 6, 7], [47, 55], [48, 49, 50, 51, 52, 53, 54, 55]), ([0, 1, 2, 3, 4, 5, 6, 7, 8], [56], [48, 49, 50, 51, 52, 53, 54, 55, 47]), ([0, 1, 2, 3, 4, 5, 6, 7, 8], [57], [48, 49, 50, 51, 52, 53, 54, 55, 47]), ([0, 1, 2, 3, 4, 5, 6, 7, 8, 9], [8], [48, 49, 50, 51, 52, 53, 54, 55, 47, 56]), ([0, 1, 2, 3, 4, 5, 6, 7, 8, 9, 10, 11], [9], [48, 49, 50, 51, 52, 53, 54, 55, 47, 56, 57, 8])] [48, 49, 50, 51, 52, 53, 54, 55, 47, 56, 57, 8, 9] (Keeps NoB) (fun (i : Nat) => ([(fun rs__ U => (rs__.getD 0 undef) = Value.pointer (some ⟨pb, 0, none⟩)), (fun rs__ U => (rs__.getD 0 undef) = Value.agg #[.int .i64 p.n, .int .i64 p.b, .int .i64 p.q, .int .i64 p.eps, .int .i64 p.f]), (fun rs__ U => (rs__.getD 0 undef) = Value.pointer (some ⟨pb, 5, none⟩)), (fun rs__ U => (rs__.getD 0 undef) = Value.int .u64 (session : Int)), (fun rs__ U => (rs__.getD 0 undef) = Value.slice E K ce), (fun rs__ U => (rs__.getD 0 undef) = Value.int .i64 (q : Int)), (fun rs__ U => (rs__.getD 0 undef) = Value.slice E q ce), (fun rs__ U => ∃ x, (rs__.getD 0 undef) = Value.tuple #[Value.pointer (some ⟨x, 0, none⟩), Value.int .i64 0] ∧ Hid (EncAt U x p session xb)), (fun rs__ U => (rs__.getD 0 undef) = (rs__.getD 1 undef)), (fun rs__ U => ∃ x, (rs__.getD 0 undef) = Value.pointer (some ⟨x, 0, none⟩) ∧ Hid (EncAt U x p session xb)), (fun rs__ U => (rs__.getD 0 undef) = Value.int .i64 0), (fun rs__ U => ∃ x, (rs__.getD 0 undef) = Value.pointer (some ⟨x, 0, none⟩) ∧ Hid (EncAt U x p session xb)), (fun rs__ U => (rs__.getD 0 undef) = Value.int .i64 0)] : List (List Value → World → Prop)).getD i (fun _ _ => True)) (by kernel_rfl) (by kernel_rfl) (by kernel_rfl) (fun _ _ _ h1 h2 => h1.fresh h2) (fun _ => Keeps.refl _ _) (RL.cons ?s0 (RL.cons ?s1 (RL.cons ?s2 (RL.cons ?s3 (RL.cons ?s4 (RL.cons ?s5 (RL.cons ?s6 (RL.cons ?s7 (RL.cons ?s8 (RL.cons ?s9 (RL.cons ?s10 (RL.cons ?s11 (RL.cons ?s12 (RL.nil _ _)))))))))))))) ?fin
        case s0 =>
          intro V wx hE hd
          clear hd
          intro K hK
          simp only [rput, List.foldl_cons, List.foldl_nil, Act.put, List.setIfInBounds_toArray, List.set_cons_zero, List.set_cons_succ]
          go_simp; (with_reducible refine hK.out _ _ ?_ ?_); exact rfl; exact ⟨Keeps.refl _ _, rfl⟩
        case s1 =>
          intro V wx hE hd
          obtain ⟨u0, hb0, hu0, p0⟩ : ∃ U, Keeps NoB w3.drew U ∧ Keeps NoB U wx ∧ ((V 48) = Value.pointer (some ⟨pb, 0, none⟩)) := hd 0 (by decide)
          clear hd
          clear hb0 hu0
          intro K hK
          simp only [rput, List.foldl_cons, List.foldl_nil, Act.put, List.setIfInBounds_toArray, List.set_cons_zero, List.set_cons_succ, p0]
          obtain ⟨b0, b1, b2, b3, b4, b5, b6, b7⟩ := HCB.out wx (HKw3.out.fresh (HKd.out.fresh hE)); go_simp; (with_reducible refine hK.out _ _ ?_ ?_); exact rfl; exact ⟨Keeps.refl _ _, rfl⟩
        case s2 =>
          intro V wx hE hd
          clear hd
          intro K hK
          simp only [rput, List.foldl_cons, List.foldl_nil, Act.put, List.setIfInBounds_toArray, List.set_cons_zero, List.set_cons_succ]
          go_simp; (with_reducible refine hK.out _ _ ?_ ?_); exact rfl; exact ⟨Keeps.refl _ _, rfl⟩
        case s3 =>
          intro V wx hE hd
          obtain ⟨u2, hb2, hu2, p2⟩ : ∃ U, Keeps NoB w3.drew U ∧ Keeps NoB U wx ∧ ((V 50) = Value.pointer (some ⟨pb, 5, none⟩)) := hd 2 (by decide)
          clear hd
          clear hb2 hu2
          intro K hK
          simp only [rput, List.foldl_cons, List.foldl_nil, Act.put, List.setIfInBounds_toArray, List.set_cons_zero, List.set_cons_succ, p2]
          obtain ⟨b0, b1, b2, b3, b4, b5, b6, b7⟩ := HCB.out wx (HKw3.out.fresh (HKd.out.fresh hE)); go_simp; (with_reducible refine hK.out _ _ ?_ ?_); exact rfl; exact ⟨Keeps.refl _ _, rfl⟩
        case s4 =>
          intro V wx hE hd
          clear hd
          intro K hK
          simp only [rput, List.foldl_cons, List.foldl_nil, Act.put, List.setIfInBounds_toArray, List.set_cons_zero, List.set_cons_succ]
          go_simp; (with_reducible refine hK.out _ _ ?_ ?_); exact rfl; exact ⟨Keeps.refl _ _, rfl⟩
        case s5 =>
          intro V wx hE hd
          clear hd
          intro K hK
          simp only [rput, List.foldl_cons, List.foldl_nil, Act.put, List.setIfInBounds_toArray, List.set_cons_zero, List.set_cons_succ]
          go_simp; (with_reducible refine hK.out _ _ ?_ ?_); exact rfl; exact ⟨Keeps.refl _ _, rfl⟩
        case s6 =>
          intro V wx hE hd
          obtain ⟨u4, hb4, hu4, p4⟩ : ∃ U, Keeps NoB w3.drew U ∧ Keeps NoB U wx ∧ ((V 52) = Value.slice E K ce) := hd 4 (by decide)
          obtain ⟨u5, hb5, hu5, p5⟩ : ∃ U, Keeps NoB w3.drew U ∧ Keeps NoB U wx ∧ ((V 53) = Value.int .i64 (q : Int)) := hd 5 (by decide)
          clear hd
          clear hb4 hu4
          clear hb5 hu5
          intro K hK
          simp only [rput, List.foldl_cons, List.foldl_nil, Act.put, List.setIfInBounds_toArray, List.set_cons_zero, List.set_cons_succ, p4, p5]
          go_simp; (with_reducible refine hK.out _ _ ?_ ?_); exact rfl; exact ⟨Keeps.refl _ _, rfl⟩
        case s7 =>
          intro V wx hE hd
          obtain ⟨u1, hb1, hu1, p1⟩ : ∃ U, Keeps NoB w3.drew U ∧ Keeps NoB U wx ∧ ((V 49) = Value.agg #[.int .i64 p.n, .int .i64 p.b, .int .i64 p.q, .int .i64 p.eps, .int .i64 p.f]) := hd 1 (by decide)
          obtain ⟨u3, hb3, hu3, p3⟩ : ∃ U, Keeps NoB w3.drew U ∧ Keeps NoB U wx ∧ ((V 51) = Value.int .u64 (session : Int)) := hd 3 (by decide)
          obtain ⟨u6, hb6, hu6, p6⟩ : ∃ U, Keeps NoB w3.drew U ∧ Keeps NoB U wx ∧ ((V 54) = Value.slice E q ce) := hd 6 (by decide)
          clear hd
          clear hb1 hu1
          clear hb3 hu3
          clear hb6 hu6
          intro K hK
          simp only [rput, List.foldl_cons, List.foldl_nil, Act.put, List.setIfInBounds_toArray, List.set_cons_zero, List.set_cons_succ, p1, p3, p6]
          go_simp; refine (HN2.out wx (HK23.out.fresh (HKd.out.fresh hE))).mono ?_; rintro e w9 ⟨x, rfl, hen, hk9⟩; (with_reducible refine hK.out _ _ ?_ ?_); exact rfl; exact ⟨hk9, x, rfl, hid hen⟩
        case s8 =>
          intro V wx hE hd
          obtain ⟨u7, hb7, hu7, p7⟩ : ∃ U, Keeps NoB w3.drew U ∧ Keeps NoB U wx ∧ (∃ x, (V 55) = Value.tuple #[Value.pointer (some ⟨x, 0, none⟩), Value.int .i64 0] ∧ Hid (EncAt U x p session xb)) := hd 7 (by decide)
          clear hd
          obtain ⟨x, q7, hen⟩ := p7
          intro K hK
          simp only [rput, List.foldl_cons, List.foldl_nil, Act.put, List.setIfInBounds_toArray, List.set_cons_zero, List.set_cons_succ, q7]
          go_simp; (with_reducible refine hK.out _ _ ?_ ?_); exact rfl; exact ⟨Keeps.refl _ _, q7.symm⟩
        case s9 =>
          intro V wx hE hd
          obtain ⟨u7, hb7, hu7, p7⟩ : ∃ U, Keeps NoB w3.drew U ∧ Keeps NoB U wx ∧ (∃ x, (V 55) = Value.tuple #[Value.pointer (some ⟨x, 0, none⟩), Value.int .i64 0] ∧ Hid (EncAt U x p session xb)) := hd 7 (by decide)
          obtain ⟨u8, hb8, hu8, p8⟩ : ∃ U, Keeps NoB w3.drew U ∧ Keeps NoB U wx ∧ ((V 47) = (V 55)) := hd 8 (by decide)
          clear hd
          clear hb8 hu8
          obtain ⟨x, q7, hen⟩ := p7
          intro K hK
          simp only [rput, List.foldl_cons, List.foldl_nil, Act.put, List.setIfInBounds_toArray, List.set_cons_zero, List.set_cons_succ, p8, q7]
          go_simp; (with_reducible refine hK.out _ _ ?_ ?_); exact rfl; exact ⟨Keeps.refl _ _, x, rfl, hid (hen.out.kept hu7)⟩
        case s10 =>
          intro V wx hE hd
          obtain ⟨u7, hb7, hu7, p7⟩ : ∃ U, Keeps NoB w3.drew U ∧ Keeps NoB U wx ∧ (∃ x, (V 55) = Value.tuple #[Value.pointer (some ⟨x, 0, none⟩), Value.int .i64 0] ∧ Hid (EncAt U x p session xb)) := hd 7 (by decide)
          obtain ⟨u8, hb8, hu8, p8⟩ : ∃ U, Keeps NoB w3.drew U ∧ Keeps NoB U wx ∧ ((V 47) = (V 55)) := hd 8 (by decide)
          clear hd
          clear hb8 hu8
          obtain ⟨x, q7, hen⟩ := p7
          intro K hK
          simp only [rput, List.foldl_cons, List.foldl_nil, Act.put, List.setIfInBounds_toArray, List.set_cons_zero, List.set_cons_succ, p8, q7]
          go_simp; (with_reducible refine hK.out _ _ ?_ ?_); exact rfl; exact ⟨Keeps.refl _ _, rfl⟩
        case s11 =>
          intro V wx hE hd
          obtain ⟨u9, hb9, hu9, p9⟩ : ∃ U, Keeps NoB w3.drew U ∧ Keeps NoB U wx ∧ (∃ x, (V 56) = Value.pointer (some ⟨x, 0, none⟩) ∧ Hid (EncAt U x p session xb)) := hd 9 (by decide)
          clear hd
          obtain ⟨x, q9, hen⟩ := p9
          intro K hK
          simp only [rput, List.foldl_cons, List.foldl_nil, Act.put, List.setIfInBounds_toArray, List.set_cons_zero, List.set_cons_succ, q9]
          go_simp; (with_reducible refine hK.out _ _ ?_ ?_); exact rfl; exact ⟨Keeps.refl _ _, x, rfl, hid (hen.out.kept hu9)⟩
        case s12 =>
          intro V wx hE hd
          obtain ⟨u10, hb10, hu10, p10⟩ : ∃ U, Keeps NoB w3.drew U ∧ Keeps NoB U wx ∧ ((V 57) = Value.int .i64 0) := hd 10 (by decide)
          clear hd
          clear hb10 hu10
          intro K hK
          simp only [rput, List.foldl_cons, List.foldl_nil, Act.put, List.setIfInBounds_toArray, List.set_cons_zero, List.set_cons_succ, p10]
          go_simp; (with_reducible refine hK.out _ _ ?_ ?_); exact rfl; exact ⟨Keeps.refl _ _, rfl⟩
        case fin =>
          intro V w4 hE hd
          obtain ⟨u11, hb11, hu11, p11⟩ : ∃ U, Keeps NoB w3.drew U ∧ Keeps NoB U w4 ∧ (∃ x, (V 8) = Value.pointer (some ⟨x, 0, none⟩) ∧ Hid (EncAt U x p session xb)) := hd 11 (by decide)
          obtain ⟨u12, hb12, hu12, p12⟩ : ∃ U, Keeps NoB w3.drew U ∧ Keeps NoB U w4 ∧ ((V 9) = Value.int .i64 0) := hd 12 (by decide)
          clear hd
          clear hb12 hu12
          obtain ⟨x, q11, hen⟩ := p11
          simp only [rput, List.foldl_cons, List.foldl_nil, Act.put, List.setIfInBounds_toArray, List.set_cons_zero, List.set_cons_succ, p12, q11]
          clear p12
          have HE2x := hid (hen.out.kept hu11)
          have HK34 := hid (HKd.out.fresh hE)
          have HKw4 := hid (HKw3.out.fresh HK34.out)
          have HK24 := hid (HK23.out.fresh HK34.out)
          clear hen hu11 hb11 HKd
          have HKd := hid ((Keeps.refl NoB w4).drew)
          obtain ⟨x2, hx2⟩ : ∃ y, y = x := ⟨_, rfl⟩
          rw [← hx2] at HE2x ⊢
          go_wp2_with fail
          refine wp_region_list [([], [59], []), ([0], [60], [59]), ([], [61], []), ([2], [62], [61]), ([], [63], []), ([], [64], []), ([5], [65], [64]), ([], [66], []), ([5, 6, 7], [67], [64, 65, 66]), ([], [68], []), ([], [69], []), ([9, 10], [70], [68, 69]), ([5, 6, 7, 8, 9, 10, 11], [71], [64, 65, 66, 67, 68, 69, 70]), ([4, 5, 6, 7, 8, 9, 10, 11, 12], [72], [63, 64, 65, 66, 67, 68, 69, 70, 71]), ([0, 1, 2, 3, 4, 5, 6, 7, 8, 9, 10, 11, 12, 13], [73], [59, 60, 61, 62, 63, 64, 65, 66, 67, 68, 69, 70, 71, 72]), ([0, 1, 2, 3, 4, 5, 6, 7, 8, 9, 10, 11, 12, 13, 14], [58, 73], [59, 60, 61, 62, 63, 64, 65, 66, 67, 68, 69, 70, 71, 72, 73]), ([0, 1, 2, 3, 4, 5, 6, 7, 8, 9, 10, 11, 12, 13, 14, 15], [74], [59, 60, 61, 62, 63, 64, 65, 66, 67, 68, 69, 70, 71, 72, 73, 58]), ([0, 1, 2, 3, 4, 5, 6, 7, 8, 9, 10, 11, 12, 13, 14, 15], [75], [59, 60, 61, 62, 63, 64, 65, 66, 67, 68, 69, 70, 71, 72, 73, 58]), ([0, 1, 2, 3, 4, 5, 6, 7, 8, 9, 10, 11, 12, 13, 14, 15, 16], [10], [59, 60, 61, 62, 63, 64, 65, 66, 67, 68, 69, 70, 71, 72, 73, 58, 74]), ([0, 1, 2, 3, 4, 5, 6, 7, 8, 9, 10, 11, 12, 13, 14, 15, 16, 17, 18], [11], [59, 60, 61, 62, 63, 64, 65, 66, 67, 68, 69, 70, 71, 72, 73, 58, 74, 75, 10])] [59, 60, 61, 62, 63, 64, 65, 66, 67, 68, 69, 70, 71, 72, 73, 58, 74, 75, 10, 11] (Keeps NoB) (fun (i : Nat) => ([(fun rs__ U => (rs__.getD 0 undef) = Value.pointer (some ⟨pb, 0, none⟩)), (fun rs__ U => (rs__.getD 0 undef) = Value.agg #[.int .i64 p.n, .int .i64 p.b, .int .i64 p.q, .int .i64 p.eps, .int .i64 p.f]), (fun rs__ U => (rs__.getD 0 undef) = Value.pointer (some ⟨pb, 5, none⟩)), (fun rs__ U => (rs__.getD 0 undef) = Value.int .u64 (session : Int)), (fun rs__ U => (rs__.getD 0 undef) = Value.int .i64 (q : Int)), (fun rs__ U => (rs__.getD 0 undef) = Value.pointer (some ⟨pb, 6, none⟩)), (fun rs__ U => (rs__.getD 0 undef) = Value.slice A L c), (fun rs__ U => (rs__.getD 0 undef) = Value.int .i64 (q : Int)), (fun rs__ U => (rs__.getD 0 undef) = Value.slice A q c), (fun rs__ U => (rs__.getD 0 undef) = Value.slice E K ce), (fun rs__ U => (rs__.getD 0 undef) = Value.int .i64 (q : Int)), (fun rs__ U => (rs__.getD 0 undef) = Value.slice E q ce), (fun rs__ U => ∃ g, (rs__.getD 0 undef) = Value.slice (some ⟨g, 0, none⟩) 2 2 ∧ Hid (U.heap[g]? = some (.cells #[.slice A q c, .slice E q ce] 25 (0, 0)))), (fun rs__ U => ∃ A9 c9, (rs__.getD 0 undef) = Value.slice A9 q c9 ∧ Hid (BytesIn (fun _ => True) U A9 xx ∧ q ≤ c9)), (fun rs__ U => ∃ x, (rs__.getD 0 undef) = Value.tuple #[Value.pointer (some ⟨x, 0, none⟩), Value.int .i64 0] ∧ Hid (EncAt U x p session xx)), (fun rs__ U => (rs__.getD 0 undef) = (rs__.getD 1 undef)), (fun rs__ U => ∃ x, (rs__.getD 0 undef) = Value.pointer (some ⟨x, 0, none⟩) ∧ Hid (EncAt U x p session xx)), (fun rs__ U => (rs__.getD 0 undef) = Value.int .i64 0), (fun rs__ U => ∃ x, (rs__.getD 0 undef) = Value.pointer (some ⟨x, 0, none⟩) ∧ Hid (EncAt U x p session xx)), (fun rs__ U => (rs__.getD 0 undef) = Value.int .i64 0)] : List (List Value → World → Prop)).getD i (fun _ _ => True)) (by kernel_rfl) (by kernel_rfl) (by kernel_rfl) (fun _ _ _ h1 h2 => h1.fresh h2) (fun _ => Keeps.refl _ _) (RL.cons ?s0 (RL.cons ?s1 (RL.cons ?s2 (RL.cons ?s3 (RL.cons ?s4 (RL.cons ?s5 (RL.cons ?s6 (RL.cons ?s7 (RL.cons ?s8 (RL.cons ?s9 (RL.cons ?s10 (RL.cons ?s11 (RL.cons ?s12 (RL.cons ?s13 (RL.cons ?s14 (RL.cons ?s15 (RL.cons ?s16 (RL.cons ?s17 (RL.cons ?s18 (RL.cons ?s19 (RL.nil _ _))))))))))))))))))))) ?fin
          case s0 =>
            intro V wx hE hd
            clear hd
            intro K hK
            simp only [rput, List.foldl_cons, List.foldl_nil, Act.put, List.setIfInBounds_toArray, List.set_cons_zero, List.set_cons_succ]
            go_simp; (with_reducible refine hK.out _ _ ?_ ?_); exact rfl; exact ⟨Keeps.refl _ _, rfl⟩
          case s1 =>
            intro V wx hE hd
            obtain ⟨u0, hb0, hu0, p0⟩ : ∃ U, Keeps NoB w4.drew U ∧ Keeps NoB U wx ∧ ((V 59) = Value.pointer (some ⟨pb, 0, none⟩)) := hd 0 (by decide)
            clear hd
            clear hb0 hu0
            intro K hK
            simp only [rput, List.foldl_cons, List.foldl_nil, Act.put, List.setIfInBounds_toArray, List.set_cons_zero, List.set_cons_succ, p0]
            obtain ⟨b0, b1, b2, b3, b4, b5, b6, b7⟩ := HCB.out wx (HKw4.out.fresh (HKd.out.fresh hE)); go_simp; (with_reducible refine hK.out _ _ ?_ ?_); exact rfl; exact ⟨Keeps.refl _ _, rfl⟩
          case s2 =>
            intro V wx hE hd
            clear hd
            intro K hK
            simp only [rput, List.foldl_cons, List.foldl_nil, Act.put, List.setIfInBounds_toArray, List.set_cons_zero, List.set_cons_succ]
            go_simp; (with_reducible refine hK.out _ _ ?_ ?_); exact rfl; exact ⟨Keeps.refl _ _, rfl⟩
          case s3 =>
            intro V wx hE hd
            obtain ⟨u2, hb2, hu2, p2⟩ : ∃ U, Keeps NoB w4.drew U ∧ Keeps NoB U wx ∧ ((V 61) = Value.pointer (some ⟨pb, 5, none⟩)) := hd 2 (by decide)
            clear hd
            clear hb2 hu2
            intro K hK
            simp only [rput, List.foldl_cons, List.foldl_nil, Act.put, List.setIfInBounds_toArray, List.set_cons_zero, List.set_cons_succ, p2]
            obtain ⟨b0, b1, b2, b3, b4, b5, b6, b7⟩ := HCB.out wx (HKw4.out.fresh (HKd.out.fresh hE)); go_simp; (with_reducible refine hK.out _ _ ?_ ?_); exact rfl; exact ⟨Keeps.refl _ _, rfl⟩
          case s4 =>
            intro V wx hE hd
            clear hd
            intro K hK
            simp only [rput, List.foldl_cons, List.foldl_nil, Act.put, List.setIfInBounds_toArray, List.set_cons_zero, List.set_cons_succ]
            go_simp; (with_reducible refine hK.out _ _ ?_ ?_); exact rfl; exact ⟨Keeps.refl _ _, rfl⟩
          case s5 =>
            intro V wx hE hd
            clear hd
            intro K hK
            simp only [rput, List.foldl_cons, List.foldl_nil, Act.put, List.setIfInBounds_toArray, List.set_cons_zero, List.set_cons_succ]
            go_simp; (with_reducible refine hK.out _ _ ?_ ?_); exact rfl; exact ⟨Keeps.refl _ _, rfl⟩
          case s6 =>
            intro V wx hE hd
            obtain ⟨u5, hb5, hu5, p5⟩ : ∃ U, Keeps NoB w4.drew U ∧ Keeps NoB U wx ∧ ((V 64) = Value.pointer (some ⟨pb, 6, none⟩)) := hd 5 (by decide)
            clear hd
            clear hb5 hu5
            intro K hK
            simp only [rput, List.foldl_cons, List.foldl_nil, Act.put, List.setIfInBounds_toArray, List.set_cons_zero, List.set_cons_succ, p5]
            obtain ⟨b0, b1, b2, b3, b4, b5, b6, b7⟩ := HCB.out wx (HKw4.out.fresh (HKd.out.fresh hE)); go_simp; (with_reducible refine hK.out _ _ ?_ ?_); exact rfl; exact ⟨Keeps.refl _ _, rfl⟩
          case s7 =>
            intro V wx hE hd
            clear hd
            intro K hK
            simp only [rput, List.foldl_cons, List.foldl_nil, Act.put, List.setIfInBounds_toArray, List.set_cons_zero, List.set_cons_succ]
            go_simp; (with_reducible refine hK.out _ _ ?_ ?_); exact rfl; exact ⟨Keeps.refl _ _, rfl⟩
          case s8 =>
            intro V wx hE hd
            obtain ⟨u6, hb6, hu6, p6⟩ : ∃ U, Keeps NoB w4.drew U ∧ Keeps NoB U wx ∧ ((V 65) = Value.slice A L c) := hd 6 (by decide)
            obtain ⟨u7, hb7, hu7, p7⟩ : ∃ U, Keeps NoB w4.drew U ∧ Keeps NoB U wx ∧ ((V 66) = Value.int .i64 (q : Int)) := hd 7 (by decide)
            clear hd
            clear hb6 hu6
            clear hb7 hu7
            intro K hK
            simp only [rput, List.foldl_cons, List.foldl_nil, Act.put, List.setIfInBounds_toArray, List.set_cons_zero, List.set_cons_succ, p6, p7]
            go_simp; (with_reducible refine hK.out _ _ ?_ ?_); exact rfl; exact ⟨Keeps.refl _ _, rfl⟩
          case s9 =>
            intro V wx hE hd
            clear hd
            intro K hK
            simp only [rput, List.foldl_cons, List.foldl_nil, Act.put, List.setIfInBounds_toArray, List.set_cons_zero, List.set_cons_succ]
            go_simp; (with_reducible refine hK.out _ _ ?_ ?_); exact rfl; exact ⟨Keeps.refl _ _, rfl⟩
          case s10 =>
            intro V wx hE hd
            clear hd
            intro K hK
            simp only [rput, List.foldl_cons, List.foldl_nil, Act.put, List.setIfInBounds_toArray, List.set_cons_zero, List.set_cons_succ]
            go_simp; (with_reducible refine hK.out _ _ ?_ ?_); exact rfl; exact ⟨Keeps.refl _ _, rfl⟩
          case s11 =>
            intro V wx hE hd
            obtain ⟨u9, hb9, hu9, p9⟩ : ∃ U, Keeps NoB w4.drew U ∧ Keeps NoB U wx ∧ ((V 68) = Value.slice E K ce) := hd 9 (by decide)
            obtain ⟨u10, hb10, hu10, p10⟩ : ∃ U, Keeps NoB w4.drew U ∧ Keeps NoB U wx ∧ ((V 69) = Value.int .i64 (q : Int)) := hd 10 (by decide)
            clear hd
            clear hb9 hu9
            clear hb10 hu10
            intro K hK
            simp only [rput, List.foldl_cons, List.foldl_nil, Act.put, List.setIfInBounds_toArray, List.set_cons_zero, List.set_cons_succ, p9, p10]
            go_simp; (with_reducible refine hK.out _ _ ?_ ?_); exact rfl; exact ⟨Keeps.refl _ _, rfl⟩
          case s12 =>
            intro V wx hE hd
            obtain ⟨u8, hb8, hu8, p8⟩ : ∃ U, Keeps NoB w4.drew U ∧ Keeps NoB U wx ∧ ((V 67) = Value.slice A q c) := hd 8 (by decide)
            obtain ⟨u11, hb11, hu11, p11⟩ : ∃ U, Keeps NoB w4.drew U ∧ Keeps NoB U wx ∧ ((V 70) = Value.slice E q ce) := hd 11 (by decide)
            clear hd
            clear hb8 hu8
            clear hb11 hu11
            intro K hK
            simp only [rput, List.foldl_cons, List.foldl_nil, Act.put, List.setIfInBounds_toArray, List.set_cons_zero, List.set_cons_succ, p8, p11]
            go_simp; (with_reducible refine hK.out _ _ ?_ ?_); exact rfl; exact ⟨(Keeps.refl _ _).alloc _, _, rfl, hid (heap_alloc_new _ _)⟩
          case s13 =>
            intro V wx hE hd
            obtain ⟨u4, hb4, hu4, p4⟩ : ∃ U, Keeps NoB w4.drew U ∧ Keeps NoB U wx ∧ ((V 63) = Value.int .i64 (q : Int)) := hd 4 (by decide)
            obtain ⟨u12, hb12, hu12, p12⟩ : ∃ U, Keeps NoB w4.drew U ∧ Keeps NoB U wx ∧ (∃ g, (V 71) = Value.slice (some ⟨g, 0, none⟩) 2 2 ∧ Hid (U.heap[g]? = some (.cells #[.slice A q c, .slice E q ce] 25 (0, 0)))) := hd 12 (by decide)
            clear hd
            clear hb4 hu4
            obtain ⟨g, q12, hgg⟩ := p12
            intro K hK
            simp only [rput, List.foldl_cons, List.foldl_nil, Act.put, List.setIfInBounds_toArray, List.set_cons_zero, List.set_cons_succ, p4, q12]
            go_simp; refine (HS3.out wx g (hu12.heap hgg.out (fun h => h)) (HK24.out.fresh (HKd.out.fresh hE))).mono ?_; rintro e w9 ⟨v9, rfl, ho9, hk9⟩; obtain ⟨A9, c9, hv9, hc9, _, hb9⟩ := OwnB.reads ho9; rw [LX.out] at hv9 hc9; subst hv9; (with_reducible refine hK.out _ _ ?_ ?_); exact rfl; exact ⟨hk9, A9, c9, rfl, hid ⟨hb9.mono (fun _ _ _ => trivial), hc9⟩⟩
          case s14 =>
            intro V wx hE hd
            obtain ⟨u1, hb1, hu1, p1⟩ : ∃ U, Keeps NoB w4.drew U ∧ Keeps NoB U wx ∧ ((V 60) = Value.agg #[.int .i64 p.n, .int .i64 p.b, .int .i64 p.q, .int .i64 p.eps, .int .i64 p.f]) := hd 1 (by decide)
            obtain ⟨u3, hb3, hu3, p3⟩ : ∃ U, Keeps NoB w4.drew U ∧ Keeps NoB U wx ∧ ((V 62) = Value.int .u64 (session : Int)) := hd 3 (by decide)
            obtain ⟨u13, hb13, hu13, p13⟩ : ∃ U, Keeps NoB w4.drew U ∧ Keeps NoB U wx ∧ (∃ A9 c9, (V 72) = Value.slice A9 q c9 ∧ Hid (BytesIn (fun _ => True) U A9 xx ∧ q ≤ c9)) := hd 13 (by decide)
            clear hd
            clear hb1 hu1
            clear hb3 hu3
            obtain ⟨A9, c9, q13, hby⟩ := p13
            intro K hK
            simp only [rput, List.foldl_cons, List.foldl_nil, Act.put, List.setIfInBounds_toArray, List.set_cons_zero, List.set_cons_succ, p1, p3, q13]
            go_simp; refine (HN3.out wx A9 c9 (hby.out.1.kept hu13) hby.out.2).mono ?_; rintro e w9 ⟨x, rfl, hen, hk9⟩; (with_reducible refine hK.out _ _ ?_ ?_); exact rfl; exact ⟨hk9, x, rfl, hid hen⟩
          case s15 =>
            intro V wx hE hd
            obtain ⟨u14, hb14, hu14, p14⟩ : ∃ U, Keeps NoB w4.drew U ∧ Keeps NoB U wx ∧ (∃ x, (V 73) = Value.tuple #[Value.pointer (some ⟨x, 0, none⟩), Value.int .i64 0] ∧ Hid (EncAt U x p session xx)) := hd 14 (by decide)
            clear hd
            obtain ⟨x, q14, hen⟩ := p14
            intro K hK
            simp only [rput, List.foldl_cons, List.foldl_nil, Act.put, List.setIfInBounds_toArray, List.set_cons_zero, List.set_cons_succ, q14]
            go_simp; (with_reducible refine hK.out _ _ ?_ ?_); exact rfl; exact ⟨Keeps.refl _ _, q14.symm⟩
          case s16 =>
            intro V wx hE hd
            obtain ⟨u14, hb14, hu14, p14⟩ : ∃ U, Keeps NoB w4.drew U ∧ Keeps NoB U wx ∧ (∃ x, (V 73) = Value.tuple #[Value.pointer (some ⟨x, 0, none⟩), Value.int .i64 0] ∧ Hid (EncAt U x p session xx)) := hd 14 (by decide)
            obtain ⟨u15, hb15, hu15, p15⟩ : ∃ U, Keeps NoB w4.drew U ∧ Keeps NoB U wx ∧ ((V 58) = (V 73)) := hd 15 (by decide)
            clear hd
            clear hb15 hu15
            obtain ⟨x, q14, hen⟩ := p14
            intro K hK
            simp only [rput, List.foldl_cons, List.foldl_nil, Act.put, List.setIfInBounds_toArray, List.set_cons_zero, List.set_cons_succ, p15, q14]
            go_simp; (with_reducible refine hK.out _ _ ?_ ?_); exact rfl; exact ⟨Keeps.refl _ _, x, rfl, hid (hen.out.kept hu14)⟩
          case s17 =>
            intro V wx hE hd
            obtain ⟨u14, hb14, hu14, p14⟩ : ∃ U, Keeps NoB w4.drew U ∧ Keeps NoB U wx ∧ (∃ x, (V 73) = Value.tuple #[Value.pointer (some ⟨x, 0, none⟩), Value.int .i64 0] ∧ Hid (EncAt U x p session xx)) := hd 14 (by decide)
            obtain ⟨u15, hb15, hu15, p15⟩ : ∃ U, Keeps NoB w4.drew U ∧ Keeps NoB U wx ∧ ((V 58) = (V 73)) := hd 15 (by decide)
            clear hd
            clear hb15 hu15
            obtain ⟨x, q14, hen⟩ := p14
            intro K hK
            simp only [rput, List.foldl_cons, List.foldl_nil, Act.put, List.setIfInBounds_toArray, List.set_cons_zero, List.set_cons_succ, p15, q14]
            go_simp; (with_reducible refine hK.out _ _ ?_ ?_); exact rfl; exact ⟨Keeps.refl _ _, rfl⟩
          case s18 =>
            intro V wx hE hd
            obtain ⟨u16, hb16, hu16, p16⟩ : ∃ U, Keeps NoB w4.drew U ∧ Keeps NoB U wx ∧ (∃ x, (V 74) = Value.pointer (some ⟨x, 0, none⟩) ∧ Hid (EncAt U x p session xx)) := hd 16 (by decide)
            clear hd
            obtain ⟨x, q16, hen⟩ := p16
            intro K hK
            simp only [rput, List.foldl_cons, List.foldl_nil, Act.put, List.setIfInBounds_toArray, List.set_cons_zero, List.set_cons_succ, q16]
            go_simp; (with_reducible refine hK.out _ _ ?_ ?_); exact rfl; exact ⟨Keeps.refl _ _, x, rfl, hid (hen.out.kept hu16)⟩
          case s19 =>
            intro V wx hE hd
            obtain ⟨u17, hb17, hu17, p17⟩ : ∃ U, Keeps NoB w4.drew U ∧ Keeps NoB U wx ∧ ((V 75) = Value.int .i64 0) := hd 17 (by decide)
            clear hd
            clear hb17 hu17
            intro K hK
            simp only [rput, List.foldl_cons, List.foldl_nil, Act.put, List.setIfInBounds_toArray, List.set_cons_zero, List.set_cons_succ, p17]
            go_simp; (with_reducible refine hK.out _ _ ?_ ?_); exact rfl; exact ⟨Keeps.refl _ _, rfl⟩
          case fin =>
            intro V w5 hE hd
            obtain ⟨u18, hb18, hu18, p18⟩ : ∃ U, Keeps NoB w4.drew U ∧ Keeps NoB U w5 ∧ (∃ x, (V 10) = Value.pointer (some ⟨x, 0, none⟩) ∧ Hid (EncAt U x p session xx)) := hd 18 (by decide)
            obtain ⟨u19, hb19, hu19, p19⟩ : ∃ U, Keeps NoB w4.drew U ∧ Keeps NoB U w5 ∧ ((V 11) = Value.int .i64 0) := hd 19 (by decide)
            clear hd
            clear hb19 hu19
            obtain ⟨x, q18, hen⟩ := p18
            simp only [rput, List.foldl_cons, List.foldl_nil, Act.put, List.setIfInBounds_toArray, List.set_cons_zero, List.set_cons_succ, p19, q18]
            clear p19
            have HK45 := hid (HKd.out.fresh hE)
            obtain ⟨x3, hx3⟩ : ∃ y, y = x := ⟨_, rfl⟩
            have HPK3 := hid (fun (id : Nat) (W : World) (hi : id < 18446744073709551616) (hW : Keeps NoB w5 W) => packet_calls x3 p session xx id W ((show EncAt w5 x3 p session xx by rw [hx3]; exact hen.out.kept hu18).kept hW) HMY.out HSS.out hi)
            have HPK2 := hid (fun (id : Nat) (W : World) (hi : id < 18446744073709551616) (hW : Keeps NoB w5 W) => packet_calls x2 p session xb id W (HE2x.out.kept (HK45.out.fresh hW)) HMY.out HSS.out hi)
            have HPK1 := hid (fun (id : Nat) (W : World) (hi : id < 18446744073709551616) (hW : Keeps NoB w5 W) => packet_calls x1 p session xa id W (HE1.out.kept (HK34.out.fresh (HK45.out.fresh hW))) HMY.out HSS.out hi)
            rw [LA.out] at HPK1
            rw [LB.out] at HPK2
            rw [LX.out] at HPK3
            rw [← hx3]
            have HK5 := hid (HK12.out.fresh (HK24.out.fresh HK45.out))
            have HCB5 := hid (fun (W : World) (hW : Keeps NoB w5 W) => HCB.out W (HKw4.out.fresh (HK45.out.fresh hW)))
            have HD := hid (show IntsAt w5 .u64 D (ids.map (fun n : Nat => (n : Int))) ∧ ∀ x ∈ ids, x < 18446744073709551616 from ⟨HI.out.1.kept HK5.out, HI.out.2⟩)
            clear hen hu18 hb18 HKd hx1 hx2 hx3 HN1 HN2 HN3 HS3 HE1 HE2x HCB
            generalize payN p session xa = f1 at *
            generalize payN p session xb = f2 at *
            generalize payN p session xx = f3 at *
            obtain ⟨b0, b1, b2, b3, b4, b5, b6, b7⟩ := HCB5.out w5 (Keeps.refl _ _)
            go_wp2_with fail
            go_loopw [101] (fun v101 wr => ∃ k : Nat, k ≤ M ∧ v101 = .int .i64 (k : Int) ∧ Hid (Keeps NoB w5 wr)) (fun v101 _ => M - (intOf v101).toNat)
            case atStart => exact ⟨0, Nat.zero_le _, rfl, Keeps.refl _ _⟩
            case round =>
              obtain ⟨k, hk, rfl, HKr⟩ := hrel
              by_cases hlt : k < M
              · obtain ⟨b, off, rfl, hc⟩ := HD.out.1.get (by rw [List.length_map, HM.out]; omega)
                have hck := HKr.out.cell (hc k (by rw [List.length_map, HM.out]; exact hlt)) (fun h => h)
                rw [gi_map ids k (by rw [HM.out]; exact hlt)] at hck
                have hid64 := HD.out.2 (ids.getD k 0) (getD_mem ids 0 (by rw [HM.out]; exact hlt))
                generalize ids.getD k 0 = id at *
                have HQ1 := hid (HPK1.out id wr hid64 HKr.out)
                have HQ2 := hid (fun (W : World) (hW : Keeps NoB w5 W) => HPK2.out id W hid64 hW)
                have HQ3 := hid (fun (W : World) (hW : Keeps NoB w5 W) => HPK3.out id W hid64 hW)
                clear hc
                go_wp2_with fail
                refine HQ1.out.mono ?_
                rintro e w6 ⟨A1, c1, rfl, ho6, hk6⟩
                have hrow6 := hid (show RowIn (fun _ => True) w6 (.slice A1 p.b.toNat c1) (f1 id) from (OwnB.row ho6).mono (fun _ _ _ => trivial))
                have HK6 := hid (HKr.out.fresh hk6)
                have hpf1 := pay_field w6 (.int .u64 (session : Int)) (.int .i64 p.n) (.int .i64 p.b) (.int .i64 p.q) (.int .i64 p.eps) (.int .i64 p.f) (.int .i64 (q : Int)) (.int .u64 (id : Int)) (.slice A1 p.b.toNat c1)
                clear ho6 hk6
                go_wp2_with fail
                refine (HQ2.out w6 HK6.out).mono ?_
                rintro e w7 ⟨A2, c2, rfl, ho7, hk7⟩
                have hrow7 := hid (show RowIn (fun _ => True) w7 (.slice A2 p.b.toNat c2) (f2 id) from (OwnB.row ho7).mono (fun _ _ _ => trivial))
                have hrow67 := hid (hrow6.out.keeps hk7 (fun _ _ h => h))
                have HK7 := hid (HK6.out.fresh hk7)
                have hpf2 := pay_field w7 (.int .u64 (session : Int)) (.int .i64 p.n) (.int .i64 p.b) (.int .i64 p.q) (.int .i64 p.eps) (.int .i64 p.f) (.int .i64 (q : Int)) (.int .u64 (id : Int)) (.slice A2 p.b.toNat c2)
                clear ho7 hk7 hpf1
                go_wp2_with fail
                refine (HQ3.out w7 HK7.out).mono ?_
                rintro e w8 ⟨A3, c3, rfl, ho8, hk8⟩
                have hpf3 := pay_field w8 (.int .u64 (session : Int)) (.int .i64 p.n) (.int .i64 p.b) (.int .i64 p.q) (.int .i64 p.eps) (.int .i64 p.f) (.int .i64 (q : Int)) (.int .u64 (id : Int)) (.slice A3 p.b.toNat c3)
                have HK8 := hid (HK7.out.fresh hk8)
                have HK9 := hid ((Keeps.refl NoB w8).alloc (.cells #[.slice A1 p.b.toNat c1, .slice A2 p.b.toNat c2, .slice A3 p.b.toNat c3] 25))
                have HRW := hid (rows_of3 (heap_alloc_new w8 (.cells #[.slice A1 p.b.toNat c1, .slice A2 p.b.toNat c2, .slice A3 p.b.toNat c3] 25)) ((hrow67.out.keeps hk8 (fun _ _ h => h)).keeps HK9.out (fun _ _ h => h)) ((hrow7.out.keeps hk8 (fun _ _ h => h)).keeps HK9.out (fun _ _ h => h)) (((OwnB.row ho8).mono (fun _ _ _ => trivial)).keeps HK9.out (fun _ _ h => h)))
                clear ho8 hk8 hpf2 hrow6 hrow7 hrow67
                have HK89 := hid (HK8.out.fresh HK9.out)
                obtain ⟨b0, b1, b2, b3, b4, b5, b6, b7⟩ := HCB5.out _ HK89.out
                have HFIT := hid (HF.out id)
                have HZERO := hid (HZ.out id)
                have hfb : fitB p.b.toNat [f1 id, f2 id, f3 id] = true := by
                  have := HFIT.out
                  unfold fitN at this
                  rw [Bool.and_eq_true] at this
                  exact this.2
                have HFT := hid (rfits_calls p.b [f1 id, f2 id, f3 id] (some ⟨w8.heap.size, 0, none⟩) 3 _ _ HRW.out)
                rw [HFIT.out] at HFT
                have HSR := hid (fun (W : World) (hW : Keeps NoB (w8.alloc (.cells #[.slice A1 p.b.toNat c1, .slice A2 p.b.toNat c2, .slice A3 p.b.toNat c3] 25)) W) => rsum_calls p.b.toNat [f1 id, f2 id, f3 id] (some ⟨w8.heap.size, 0, none⟩) 3 _ W (by omega) (HRW.out.kept hW) hfb)
                rw [show (p.b.toNat : Int) = p.b by omega] at HSR
                have HZR := hid (fun (B7 : Option Addr) (c7 : Nat) (R7 : Nat → Prop) (W : World) (h7 : BytesIn R7 W B7 (sumB p.b.toNat [f1 id, f2 id, f3 id])) => rzero_calls (sumB p.b.toNat [f1 id, f2 id, f3 id]) B7 c7 R7 W h7)
                rw [HZERO.out] at HZR
                generalize sumB p.b.toNat [f1 id, f2 id, f3 id] = sm at *
                clear hfb
                go_wp2_with fail
                refine HFT.out.mono ?_
                rintro e w10 ⟨rfl, hw10⟩
                subst hw10
                go_wp2_with fail
                refine (HSR.out _ (Keeps.refl _ _)).mono ?_
                rintro e w11 ⟨v12, rfl, ho11, hk11⟩
                obtain ⟨A11, c11, hv11, _, _, hb11⟩ := OwnB.reads ho11
                subst hv11
                have HZZ := hid (HZR.out A11 c11 _ w11 hb11)
                have HK11 := hid (HK89.out.fresh hk11)
                clear ho11 hk11 hb11
                go_wp2_with fail
                refine HZZ.out.mono ?_
                rintro e w12 ⟨rfl, hw12⟩
                subst hw12
                go_wp2_with fail
                go_roundw
                case rel => exact ⟨k + 1, by omega, by go_num, HK11⟩
                case measure => simp [intOf]; omega
              · obtain rfl : k = M := by omega
                go_wp2_with fail
                go_ret
                exact ⟨rfl, HK5.out.fresh HKr.out⟩
  · have hsm : smallN p L = false := by simpa using hsm
    rw [hsm]
    clear hsm
    go_wp2_with fail
    go_ret
    exact ⟨rfl, HK12.out⟩
end Go.Proofs.Ytpkkaicpbihjfaa
