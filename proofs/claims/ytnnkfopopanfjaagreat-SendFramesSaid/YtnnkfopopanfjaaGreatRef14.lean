/- Packets and frames by the reference: the walks of almonryref14. Conditions: numbers are of their kinds. -/
import Derived.Test.YtnnkfopopanfjaaGreatRef06
import Derived.Test.YtnnkfopopanfjaaGreatEmitNew
import Derived.Test.YtnnkfopopanfjaaGreatRef13
set_option linter.unusedVariables false
set_option linter.unusedSimpArgs false
namespace Go.Proofs.YtnnkfopopanfjaaGreat
open Go.RowKit

set_option maxHeartbeats 3000000 in
set_option maxRecDepth 20000 in
theorem rpacket_calls (p : Par) (session : Nat) (obj : List UInt8) (A : Option Addr) (cap : Nat) (id : Nat) (R : Nat → Prop) (w : World) (hm : p.may) (hs : session < 18446744073709551616) (hi : id < 18446744073709551616) (ho : BytesIn R w A obj) (hn60 : p.n ≤ 60) :
    Calls Tryz.prog 17 #[p.val, .int .u64 (session : Int), .slice A obj.length cap, .int .u64 (id : Int)] w fun e w' => ∃ (Ap : Option Addr) (cp : Nat), e = .returned (.agg #[.int .u64 (session : Int), .int .i64 p.n, .int .i64 p.b, .int .i64 p.q, .int .i64 p.eps, .int .i64 p.f, .int .i64 (obj.length : Int), .int .u64 (id : Int), .slice Ap p.b.toNat cp]) ∧ OwnB w' w.heap.size (.slice Ap p.b.toNat cp) (payN p session obj id) ∧ Keeps NoB w w' := by
  have hu := Tryz.underlying23
  have huh := Tryz.underlying53
  have hup := Tryz.underlying55
  obtain ⟨N, B, hpn, hpb, hpn2, hpb2, hN1, hN2, hB1, hB2, hNB, hNB2⟩ := par_sizes hm
  have HPL := hid ((payN_length hm session obj id).trans hpb2)
  have hblk := blkN_range hm session id obj
  have hbl : (blkN p session id).length ≤ 1073741824 := by
    have := blkN_length hm session id
    have := all_bounds hm
    omega
  have HRC := hid (fun (W : World) (hW : Keeps NoB w W) => rcomp_calls p session obj A cap R W hm hs (ho.kept hW) hn60)
  have HIB := hid (fun (W : World) => rblocks_calls p session id W hm hs hi)
  have HPC0 := hid (fun (Ab : Option Addr) (cb : Nat) (R2 : Nat → Prop) (W : World) (A4 : Option Addr) (c4 : Nat) (hr : RowsIn R2 W Ab (compN p session obj)) (hat : IntsAt W .i64 A4 (blkN p session id)) => rpick_calls (compN p session obj) (blkN p session id) Ab cb A4 c4 R2 W hr hat hblk hbl)
  have HRS := hid (fun (W : World) (A5 : Option Addr) (c5 : Nat) (hr : RowsIn (fun _ => True) W A5 (pickR (compN p session obj) (blkN p session id))) => rsum_calls B (pickR (compN p session obj) (blkN p session id)) A5 c5 (fun _ => True) W (by omega) hr (by rw [← hpb2]; exact (checkB_yes (comp_checkB hm session id obj)).2.2.2))
  have hpy : sumB B (pickR (compN p session obj) (blkN p session id)) = payN p session obj id := by unfold payN; rw [hpb2]
  have hpkl := pickR_length (compN p session obj) (blkN p session id)
  obtain ⟨nb, hnb⟩ : ∃ nb, (blkN p session id).length = nb := ⟨_, rfl⟩
  obtain ⟨m, hmm⟩ : ∃ m, (compN p session obj).length = m := ⟨_, rfl⟩
  obtain ⟨L, hL⟩ : ∃ L, obj.length = L := ⟨_, rfl⟩
  rw [hnb] at hpkl
  rw [hnb, hmm] at HPC0
  rw [hpy, hpkl] at HRS
  rw [hL] at HRC ⊢
  rw [hpb2]
  unfold Par.val at HRC HIB ⊢
  rw [hpb] at HRC HIB ⊢
  have HNB := hid hnb
  have HPKL := hid hpkl
  have HMM := hid hmm
  generalize pickR (compN p session obj) (blkN p session id) = pk at *
  generalize payN p session obj id = pay at *
  generalize blkN p session id = bl at *
  generalize compN p session obj = comp at *
  clear hpn hpb hpn2 hpb2 hNB hNB2 hblk hbl hnb hmm hL hpy hpkl hs hi hm ho hn60
  have HK1 := hid (((Keeps.refl NoB w).alloc (.cells #[.int .i64 p.n, .int .i64 (B : Int), .int .i64 p.q, .int .i64 p.eps, .int .i64 p.f] 23)).alloc (.cells #[.int .u64 0, .int .i64 0, .int .i64 0, .int .i64 0, .int .i64 0, .int .i64 0, .int .i64 0, .int .u64 0, .slice none 0 0] 55))
  have HB1 := hid (((Keeps.refl NoB (w.alloc (.cells #[.int .i64 p.n, .int .i64 (B : Int), .int .i64 p.q, .int .i64 p.eps, .int .i64 p.f] 23))).alloc (.cells #[.int .u64 0, .int .i64 0, .int .i64 0, .int .i64 0, .int .i64 0, .int .i64 0, .int .i64 0, .int .u64 0, .slice none 0 0] 55)).heap (heap_alloc_new w (.cells #[.int .i64 p.n, .int .i64 (B : Int), .int .i64 p.q, .int .i64 p.eps, .int .i64 p.f] 23)) (fun h => h))
  have HR1 := hid (heap_alloc2_new w (.cells #[.int .i64 p.n, .int .i64 (B : Int), .int .i64 p.q, .int .i64 p.eps, .int .i64 p.f] 23) (.cells #[.int .u64 0, .int .i64 0, .int .i64 0, .int .i64 0, .int .i64 0, .int .i64 0, .int .i64 0, .int .u64 0, .slice none 0 0] 55))
  obtain ⟨w1, hw1⟩ : ∃ w1, (w.alloc (.cells #[.int .i64 p.n, .int .i64 (B : Int), .int .i64 p.q, .int .i64 p.eps, .int .i64 p.f] 23)).alloc (.cells #[.int .u64 0, .int .i64 0, .int .i64 0, .int .i64 0, .int .i64 0, .int .i64 0, .int .i64 0, .int .u64 0, .slice none 0 0] 55) = w1 := ⟨_, rfl⟩
  rw [hw1] at HK1 HB1 HR1
  obtain ⟨pb, hpb⟩ : ∃ pb, w.heap.size = pb := ⟨_, rfl⟩
  rw [hpb] at HB1 HR1
  obtain ⟨rb, hrb⟩ : ∃ rb, pb + 1 = rb := ⟨_, rfl⟩
  rw [hrb] at HR1
  have HPB := hid hpb
  have HRB := hid hrb
  go_enter Tryz.func17, Tryz.ntmps17
  obtain ⟨b0, b1, b2, b3, b4⟩ := cells5 HB1.out
  go_wp2_with fail
  refine (HRC.out _ HK1.out).mono ?_
  rintro e w3 ⟨v3, rfl, hr3, hk3⟩
  clear b0 b1 b2 b3 b4 hw1 hrb
  obtain ⟨Ab, cb, hv3, _, _, hrows⟩ := hr3.reads
  rw [HMM.out] at hv3
  subst hv3
  have HR3 := hid (hk3.heap HR1.out (fun h => h))
  have HB3 := hid (hk3.heap HB1.out (fun h => h))
  have HK3 := hid (HK1.out.fresh hk3)
  have hrows' := hid (hrows.mono (R' := fun _ => True) (fun _ _ _ => trivial))
  have HPC := hid (fun (W : World) (A4 : Option Addr) (c4 : Nat) (hW : Keeps NoB w3 W) (hat : IntsAt W .i64 A4 bl) => HPC0.out Ab cb (fun _ => True) W A4 c4 (hrows'.out.kept hW) hat)
  have HLD := hid (fun (W : World) (hW : Keeps NoB w3 W) => cells5 (hW.heap HB3.out (fun h => h)))
  obtain ⟨z0, hz0⟩ : ∃ z0, w.heap.size = z0 := ⟨_, rfl⟩
  have HZ0 := hid hz0
  have HZ := hid (show z0 ≤ w3.heap.size by have := HK3.out.size; omega)
  have HKd := hid (Keeps.refl NoB w3).drew
  clear hr3 hrows hk3 hz0 HPC0 HRC hpb
  go_wp2_with fail
  refine wp_region_list [([], [15], []), ([0], [16], [15]), ([], [17], []), ([], [18], []), ([], [19], []), ([], [20], []), ([3, 4, 5], [21], [18, 19, 20]), ([2, 3, 4, 5, 6], [22], [17, 18, 19, 20, 21]), ([0, 1, 2, 3, 4, 5, 6, 7], [23], [15, 16, 17, 18, 19, 20, 21, 22]), ([0, 1, 2, 3, 4, 5, 6, 7, 8], [10], [15, 16, 17, 18, 19, 20, 21, 22, 23])] [15, 16, 17, 18, 19, 20, 21, 22, 23, 10] (Keeps NoB) (fun (i : Nat) => ([(fun rs__ U => (rs__.getD 0 undef) = Value.pointer (some ⟨pb, 1, none⟩)), (fun rs__ U => (rs__.getD 0 undef) = Value.int .i64 (B : Int)), (fun rs__ U => (rs__.getD 0 undef) = Value.slice Ab m cb), (fun rs__ U => (rs__.getD 0 undef) = Value.agg #[.int .i64 p.n, .int .i64 (B : Int), .int .i64 p.q, .int .i64 p.eps, .int .i64 p.f]), (fun rs__ U => (rs__.getD 0 undef) = Value.int .u64 (session : Int)), (fun rs__ U => (rs__.getD 0 undef) = Value.int .u64 (id : Int)), (fun rs__ U => ∃ A4 c4, (rs__.getD 0 undef) = Value.slice A4 nb c4 ∧ Hid (IntsAt U .i64 A4 bl)), (fun rs__ U => ∃ A5 c5, (rs__.getD 0 undef) = Value.slice A5 nb c5 ∧ Hid (RowsIn (fun _ => True) U A5 pk)), (fun rs__ U => ∃ A6 c6, (rs__.getD 0 undef) = Value.slice A6 B c6 ∧ Hid (OwnB U z0 (Value.slice A6 B c6) pay)), (fun rs__ U => ∃ A6 c6, (rs__.getD 0 undef) = Value.slice A6 B c6 ∧ Hid (OwnB U z0 (Value.slice A6 B c6) pay))] : List (List Value → World → Prop)).getD i (fun _ _ => True)) (by kernel_rfl) (by kernel_rfl) (by kernel_rfl) (fun _ _ _ h1 h2 => h1.fresh h2) (fun _ => Keeps.refl _ _) (RL.cons ?s0 (RL.cons ?s1 (RL.cons ?s2 (RL.cons ?s3 (RL.cons ?s4 (RL.cons ?s5 (RL.cons ?s6 (RL.cons ?s7 (RL.cons ?s8 (RL.cons ?s9 (RL.nil _ _))))))))))) ?fin
  case s0 =>
    intro V wx hE hd
    clear hd
    intro K hK
    simp only [rput, List.foldl_cons, List.foldl_nil, Act.put, List.setIfInBounds_toArray, List.set_cons_zero, List.set_cons_succ]
    go_simp; (with_reducible refine hK.out _ _ ?_ ?_); exact rfl; exact ⟨Keeps.refl _ _, rfl⟩
  case s1 =>
    intro V wx hE hd
    obtain ⟨u0, hb0, hu0, p0⟩ : ∃ U, Keeps NoB w3.drew U ∧ Keeps NoB U wx ∧ ((V 15) = Value.pointer (some ⟨pb, 1, none⟩)) := hd 0 (by decide)
    clear hd
    clear hb0 hu0
    intro K hK
    simp only [rput, List.foldl_cons, List.foldl_nil, Act.put, List.setIfInBounds_toArray, List.set_cons_zero, List.set_cons_succ, p0]
    obtain ⟨l0, l1, l2, l3, l4⟩ := HLD.out wx (HKd.out.fresh hE); go_simp; (with_reducible refine hK.out _ _ ?_ ?_); exact rfl; exact ⟨Keeps.refl _ _, rfl⟩
  case s2 =>
    intro V wx hE hd
    clear hd
    intro K hK
    simp only [rput, List.foldl_cons, List.foldl_nil, Act.put, List.setIfInBounds_toArray, List.set_cons_zero, List.set_cons_succ]
    go_simp; (with_reducible refine hK.out _ _ ?_ ?_); exact rfl; exact ⟨Keeps.refl _ _, rfl⟩
  case s3 =>
    intro V wx hE hd
    clear hd
    intro K hK
    simp only [rput, List.foldl_cons, List.foldl_nil, Act.put, List.setIfInBounds_toArray, List.set_cons_zero, List.set_cons_succ]
    obtain ⟨l0, l1, l2, l3, l4⟩ := HLD.out wx (HKd.out.fresh hE); go_simp; (with_reducible refine hK.out _ _ ?_ ?_); exact rfl; exact ⟨Keeps.refl _ _, rfl⟩
  case s4 =>
    intro V wx hE hd
    clear hd
    intro K hK
    simp only [rput, List.foldl_cons, List.foldl_nil, Act.put, List.setIfInBounds_toArray, List.set_cons_zero, List.set_cons_succ]
    go_simp; (with_reducible refine hK.out _ _ ?_ ?_); exact rfl; exact ⟨Keeps.refl _ _, rfl⟩
  case s5 =>
    intro V wx hE hd
    clear hd
    intro K hK
    simp only [rput, List.foldl_cons, List.foldl_nil, Act.put, List.setIfInBounds_toArray, List.set_cons_zero, List.set_cons_succ]
    go_simp; (with_reducible refine hK.out _ _ ?_ ?_); exact rfl; exact ⟨Keeps.refl _ _, rfl⟩
  case s6 =>
    intro V wx hE hd
    obtain ⟨u3, hb3, hu3, p3⟩ : ∃ U, Keeps NoB w3.drew U ∧ Keeps NoB U wx ∧ ((V 18) = Value.agg #[.int .i64 p.n, .int .i64 (B : Int), .int .i64 p.q, .int .i64 p.eps, .int .i64 p.f]) := hd 3 (by decide)
    obtain ⟨u4, hb4, hu4, p4⟩ : ∃ U, Keeps NoB w3.drew U ∧ Keeps NoB U wx ∧ ((V 19) = Value.int .u64 (session : Int)) := hd 4 (by decide)
    obtain ⟨u5, hb5, hu5, p5⟩ : ∃ U, Keeps NoB w3.drew U ∧ Keeps NoB U wx ∧ ((V 20) = Value.int .u64 (id : Int)) := hd 5 (by decide)
    clear hd
    clear hb3 hu3
    clear hb4 hu4
    clear hb5 hu5
    intro K hK
    simp only [rput, List.foldl_cons, List.foldl_nil, Act.put, List.setIfInBounds_toArray, List.set_cons_zero, List.set_cons_succ, p3, p4, p5]
    go_simp; refine (HIB.out wx).mono ?_; rintro e w4 ⟨A4, c4, rfl, hat4, hk4⟩; rw [HNB.out]; (with_reducible refine hK.out _ _ ?_ ?_); exact rfl; exact ⟨hk4, A4, c4, rfl, hid hat4⟩
  case s7 =>
    intro V wx hE hd
    obtain ⟨u2, hb2, hu2, p2⟩ : ∃ U, Keeps NoB w3.drew U ∧ Keeps NoB U wx ∧ ((V 17) = Value.slice Ab m cb) := hd 2 (by decide)
    obtain ⟨u6, hb6, hu6, p6⟩ : ∃ U, Keeps NoB w3.drew U ∧ Keeps NoB U wx ∧ (∃ A4 c4, (V 21) = Value.slice A4 nb c4 ∧ Hid (IntsAt U .i64 A4 bl)) := hd 6 (by decide)
    clear hd
    clear hb2 hu2
    obtain ⟨A4, c4, q6, hat4⟩ := p6
    intro K hK
    simp only [rput, List.foldl_cons, List.foldl_nil, Act.put, List.setIfInBounds_toArray, List.set_cons_zero, List.set_cons_succ, p2, q6]
    go_simp; refine (HPC.out wx A4 c4 (HKd.out.fresh hE) (hat4.out.kept hu6)).mono ?_; rintro e w5 ⟨v5, rfl, ho5, hk5⟩; obtain ⟨A5, c5, hv5, _, _, hr5⟩ := ho5.reads; rw [HPKL.out] at hv5; subst hv5; (with_reducible refine hK.out _ _ ?_ ?_); exact rfl; exact ⟨hk5, A5, c5, rfl, hid (hr5.mono (fun _ _ _ => trivial))⟩
  case s8 =>
    intro V wx hE hd
    obtain ⟨u1, hb1, hu1, p1⟩ : ∃ U, Keeps NoB w3.drew U ∧ Keeps NoB U wx ∧ ((V 16) = Value.int .i64 (B : Int)) := hd 1 (by decide)
    obtain ⟨u7, hb7, hu7, p7⟩ : ∃ U, Keeps NoB w3.drew U ∧ Keeps NoB U wx ∧ (∃ A5 c5, (V 22) = Value.slice A5 nb c5 ∧ Hid (RowsIn (fun _ => True) U A5 pk)) := hd 7 (by decide)
    clear hd
    clear hb1 hu1
    obtain ⟨A5, c5, q7, hr5⟩ := p7
    intro K hK
    simp only [rput, List.foldl_cons, List.foldl_nil, Act.put, List.setIfInBounds_toArray, List.set_cons_zero, List.set_cons_succ, p1, q7]
    go_simp; refine (HRS.out wx A5 c5 (hr5.out.kept hu7)).mono ?_; rintro e w6 ⟨v6, rfl, ho6, hk6⟩; obtain ⟨A6, c6, hv6, _⟩ := OwnB.reads ho6; rw [HPL.out] at hv6; subst hv6; (with_reducible refine hK.out _ _ ?_ ?_); exact rfl; exact ⟨hk6, A6, c6, rfl, hid (OwnInts.lower ho6 (Nat.le_trans HZ.out (HKd.out.fresh hE).size))⟩
  case s9 =>
    intro V wx hE hd
    obtain ⟨u8, hb8, hu8, p8⟩ : ∃ U, Keeps NoB w3.drew U ∧ Keeps NoB U wx ∧ (∃ A6 c6, (V 23) = Value.slice A6 B c6 ∧ Hid (OwnB U z0 (Value.slice A6 B c6) pay)) := hd 8 (by decide)
    clear hd
    obtain ⟨A6, c6, q8, ho6⟩ := p8
    intro K hK
    simp only [rput, List.foldl_cons, List.foldl_nil, Act.put, List.setIfInBounds_toArray, List.set_cons_zero, List.set_cons_succ, q8]
    go_simp; (with_reducible refine hK.out _ _ ?_ ?_); exact rfl; exact ⟨Keeps.refl _ _, A6, c6, rfl, hid (OwnInts.kept ho6.out hu8)⟩
  case fin =>
    intro V wz hE hd
    obtain ⟨u9, hb9, hu9, p9⟩ : ∃ U, Keeps NoB w3.drew U ∧ Keeps NoB U wz ∧ (∃ A6 c6, (V 10) = Value.slice A6 B c6 ∧ Hid (OwnB U z0 (Value.slice A6 B c6) pay)) := hd 9 (by decide)
    clear hd
    obtain ⟨A6, c6, q9, ho6⟩ := p9
    simp only [rput, List.foldl_cons, List.foldl_nil, Act.put, List.setIfInBounds_toArray, List.set_cons_zero, List.set_cons_succ, q9]
    have HBz := hid ((HKd.out.fresh hE).heap HB3.out (fun h => h))
    have HRz := hid ((HKd.out.fresh hE).heap HR3.out (fun h => h))
    have HO := hid (OwnInts.kept ho6.out hu9)
    have HKz := hid (HK3.out.fresh (HKd.out.fresh hE))
    obtain ⟨e0, e1, e2, e3, e4⟩ := cells5 HBz.out
    obtain ⟨r0, r1, r2, r3, r4, r5, r6, r7, r8⟩ := cells9 HRz.out
    have f0 : wz.frozen? ⟨rb, 0, none⟩ = false := by simp [World.frozen?, HRz.out]
    have f1 : wz.frozen? ⟨rb, 1, none⟩ = false := by simp [World.frozen?, HRz.out]
    have f2 : wz.frozen? ⟨rb, 2, none⟩ = false := by simp [World.frozen?, HRz.out]
    have f3 : wz.frozen? ⟨rb, 3, none⟩ = false := by simp [World.frozen?, HRz.out]
    have f4 : wz.frozen? ⟨rb, 4, none⟩ = false := by simp [World.frozen?, HRz.out]
    have f5 : wz.frozen? ⟨rb, 5, none⟩ = false := by simp [World.frozen?, HRz.out]
    have f6 : wz.frozen? ⟨rb, 6, none⟩ = false := by simp [World.frozen?, HRz.out]
    have f7 : wz.frozen? ⟨rb, 7, none⟩ = false := by simp [World.frozen?, HRz.out]
    have f8 : wz.frozen? ⟨rb, 8, none⟩ = false := by simp [World.frozen?, HRz.out]
    clear hE HLD HIB HPC HRS ho6 hu9
    go_wp2_with fail
    have hfin := (heap_setAt (heap_setAt (heap_setAt (heap_setAt (heap_setAt (heap_setAt (heap_setAt (heap_setAt (heap_setAt HRz.out 0 (.int .u64 (session : Int))) 1 (.int .i64 p.n)) 2 (.int .i64 (B : Int))) 3 (.int .i64 p.q)) 4 (.int .i64 p.eps)) 5 (.int .i64 p.f)) 6 (.int .i64 (L : Int))) 7 (.int .u64 (id : Int))) 8 (.slice A6 B c6))
    simp only [List.setIfInBounds_toArray, List.set_cons_zero, List.set_cons_succ] at hfin
    have HFN := hid hfin
    have HK9 := hid (show Keeps (· = rb) wz _ from ((((((((((Keeps.refl (· = rb) wz).setCell (p := ⟨rb, 0, none⟩) (fun _ => rfl) (.int .u64 (session : Int))).setCell (p := ⟨rb, 1, none⟩) (fun _ => rfl) (.int .i64 p.n)).setCell (p := ⟨rb, 2, none⟩) (fun _ => rfl) (.int .i64 (B : Int))).setCell (p := ⟨rb, 3, none⟩) (fun _ => rfl) (.int .i64 p.q)).setCell (p := ⟨rb, 4, none⟩) (fun _ => rfl) (.int .i64 p.eps)).setCell (p := ⟨rb, 5, none⟩) (fun _ => rfl) (.int .i64 p.f)).setCell (p := ⟨rb, 6, none⟩) (fun _ => rfl) (.int .i64 (L : Int))).setCell (p := ⟨rb, 7, none⟩) (fun _ => rfl) (.int .u64 (id : Int))).setCell (p := ⟨rb, 8, none⟩) (fun _ => rfl) (.slice A6 B c6)))
    clear hfin r0 r1 r2 r3 r4 r5 r6 r7 r8 e0 e1 e2 e3 e4
    generalize (((((((((wz.setCell ⟨rb, 0, none⟩ (.int .u64 (session : Int))).setCell ⟨rb, 1, none⟩ (.int .i64 p.n)).setCell ⟨rb, 2, none⟩ (.int .i64 (B : Int))).setCell ⟨rb, 3, none⟩ (.int .i64 p.q)).setCell ⟨rb, 4, none⟩ (.int .i64 p.eps)).setCell ⟨rb, 5, none⟩ (.int .i64 p.f)).setCell ⟨rb, 6, none⟩ (.int .i64 (L : Int))).setCell ⟨rb, 7, none⟩ (.int .u64 (id : Int))).setCell ⟨rb, 8, none⟩ (.slice A6 B c6)) = W9 at *
    refine bodyPost_ret (results_cell_row rfl _ _ rb 55 _ (0, 0) _ rfl HFN.out hup rfl (by kernel_rfl)) rfl ?_
    rw [HZ0.out]
    exact ⟨A6, c6, rfl, OwnInts.keeps HO.out HK9.out (fun b hb e => by
      have e : b = rb := e
      rw [e] at hb
      exact own_ne (show wz.ownsRow z0 5 1 _ _ _ from HO.out) HRz.out (by decide) hb), HKz.out.then HK9.out (fun i e hlt => by have := HPB.out; have := HRB.out; have e : i = rb := e; omega)⟩
set_option maxHeartbeats 2000000 in
set_option maxRecDepth 20000 in
theorem rframe_calls (p : Par) (session : Nat) (obj : List UInt8) (A : Option Addr) (cap : Nat) (id : Nat) (R : Nat → Prop) (w : World) (hm : p.may) (hl : (obj.length : Int) ≤ p.n * p.b) (hs : session < 18446744073709551616) (hi : id < 18446744073709551616) (ho : BytesIn R w A obj) (hn60 : p.n ≤ 60) :
    Calls Tryz.prog 8 #[p.val, .int .u64 (session : Int), .slice A obj.length cap, .int .u64 (id : Int)] w fun e w' => ∃ (A5 : Option Addr) (c5 : Nat), e = .returned (.slice A5 (42 + p.b.toNat) c5) ∧ OwnB w' w.heap.size (.slice A5 (42 + p.b.toNat) c5) (frameN p session obj id) ∧ Keeps NoB w w' := by
  have hu := Tryz.underlying23
  have HPK := hid (fun (W : World) (hW : Keeps NoB w W) => rpacket_calls p session obj A cap id R W hm hs hi (ho.kept hW) hn60)
  have HFL := hid (frameN_length hm session obj id)
  have hpl := payN_length hm session obj id
  have hbb : (p.b.toNat : Int) = p.b := by have := hm.2.2.1; omega
  have HEN := hid (fun (W : World) (base : Nat) (Ap : Option Addr) (cp : Nat) (hb : OwnB W base (.slice Ap p.b.toNat cp) (payN p session obj id)) => rencode_calls ⟨session, p, (obj.length : Int), id⟩ (payN p session obj id) Ap cp (fun _ => True) W ⟨hm, by simp, hl⟩ hs hi (by
    obtain ⟨A, c, e, _, _, hb⟩ := hb.reads
    injection e with e1 e2 e3
    subst e1
    exact hb.mono (fun _ _ _ => trivial)) (by rw [hpl]; exact hbb) (by
    obtain ⟨A, c, e, hc, hA, hb⟩ := hb.reads
    injection e with e1 e2 e3
    subst e1 e3
    exact hA) (by
    obtain ⟨A, c, e, hc, hA, hb⟩ := hb.reads
    injection e with e1 e2 e3
    subst e1 e3
    exact hc))
  have hfr : encN ⟨session, p, (obj.length : Int), id⟩ (payN p session obj id) = frameN p session obj id := rfl
  rw [hfr, hpl] at HEN
  obtain ⟨L, hL⟩ : ∃ L, obj.length = L := ⟨_, rfl⟩
  simp only [hL] at HPK HEN
  rw [hL]
  generalize frameN p session obj id = fr at *
  generalize payN p session obj id = pay at *
  generalize p.b.toNat = B at *
  clear hpl hbb hfr hL hl hs hi hm ho hn60
  unfold Par.val at HPK ⊢
  have HB := hid (heap_alloc_new w (.cells #[.int .i64 p.n, .int .i64 p.b, .int .i64 p.q, .int .i64 p.eps, .int .i64 p.f] 23))
  have HK := hid ((Keeps.refl NoB w).alloc (.cells #[.int .i64 p.n, .int .i64 p.b, .int .i64 p.q, .int .i64 p.eps, .int .i64 p.f] 23))
  obtain ⟨wa, hwa⟩ : ∃ wa, w.alloc (.cells #[.int .i64 p.n, .int .i64 p.b, .int .i64 p.q, .int .i64 p.eps, .int .i64 p.f] 23) = wa := ⟨_, rfl⟩
  rw [hwa] at HB HK
  obtain ⟨pb, hpb⟩ : ∃ pb, w.heap.size = pb := ⟨_, rfl⟩
  have HPB := hid hpb
  rw [hpb] at HB
  go_enter Tryz.func8, Tryz.ntmps8
  obtain ⟨b0, b1, b2, b3, b4⟩ := cells5 HB.out
  go_wp2_with fail
  refine (HPK.out _ HK.out).mono ?_
  rintro e w3 ⟨Ap, cp, rfl, ho3, hk3⟩
  clear b0 b1 b2 b3 b4 hwa hpb
  have HK3 := hid (HK.out.fresh hk3)
  have hz := HK.out.size
  go_wp2_with fail
  refine (HEN.out _ _ Ap cp ho3).mono ?_
  rintro e w4 ⟨v4, rfl, ho4, hk4⟩
  obtain ⟨A5, c5, hv5, _⟩ := OwnB.reads ho4
  rw [HFL.out] at hv5
  subst hv5
  have HO4 := hid (OwnInts.lower (base' := w.heap.size) ho4 HK3.out.size)
  have HK4 := hid (HK3.out.fresh hk4)
  clear ho3 ho4 hk3 hk4
  go_wp2_with fail
  go_ret
  exact ⟨A5, c5, rfl, HO4.out, HK4.out⟩
end Go.Proofs.YtnnkfopopanfjaaGreat
