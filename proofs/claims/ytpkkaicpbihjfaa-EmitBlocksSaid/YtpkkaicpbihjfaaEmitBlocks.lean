/- The composite blocks that are told: the walk of the law EmitBlocks. Conditions: numbers are of their kinds. -/
import Derived.Test.YtpkkaicpbihjfaaLaw14
import Derived.Test.YtpkkaicpbihjfaaSums14
import Derived.Test.YtpkkaicpbihjfaaBRows
import Derived.Test.YtpkkaicpbihjfaaRightMath
import Derived.Test.YtpkkaicpbihjfaaG3
import Derived.BigQuiet
set_option linter.unusedVariables false
set_option linter.unusedSimpArgs false
namespace Go.Proofs.Ytpkkaicpbihjfaa
open Go.RowKit
attribute [local go_sem ↓] Go.wp_at_zero Go.wp_at_succ

theorem cmpN_at (ls : List (List UInt8)) (k : Nat) : cmpN ls (k : Int) = gr ls k := by
  unfold cmpN; rw [if_pos (by omega), Int.toNat_natCast]
set_option maxHeartbeats 2000000 in
set_option maxRecDepth 20000 in
theorem emitBlocks_walk (p : Par) (session : Nat) (obj : List UInt8) (A : Option Addr) (c : Nat) (ids : List Nat) (D : Option Addr) (d : Nat) (i : Int) (w : World) (hwf : p.wf) (hs : session < 18446744073709551616) (ho : BytesIn (fun _ => True) w A obj) (hcap : obj.length ≤ c) (hids : NatsAt w D ids) (hi : -9223372036854775808 ≤ i ∧ i ≤ 9223372036854775807) :
    Calls Try.prog 6 #[.agg #[.int .i64 p.n, .int .i64 p.b, .int .i64 p.q, .int .i64 p.eps, .int .i64 p.f, .int .u64 (session : Int), .slice A obj.length c, .slice D ids.length d], .int .i64 i] w fun e w' => e = .returned (.bool true) ∧ Keeps NoB w w' := by
  have hu := Try.underlying23
  have HO := hid ho
  have HWF := hid hwf
  have HI := hid hi
  have hlen := ho.len
  obtain ⟨L, hL⟩ : ∃ L, obj.length = L := ⟨_, rfl⟩
  obtain ⟨M, hM⟩ : ∃ M, ids.length = M := ⟨_, rfl⟩
  have HL := hid hL
  rw [hL] at hcap hlen ⊢
  rw [hM]
  clear ho hwf hids hL hM hi
  have hbox := hid (heap_alloc_new w (.cells #[.int .i64 p.n, .int .i64 p.b, .int .i64 p.q, .int .i64 p.eps, .int .i64 p.f, .int .u64 (session : Int), .slice A L c, .slice D M d] 45))
  have HKa := hid ((Keeps.refl NoB w).alloc (.cells #[.int .i64 p.n, .int .i64 p.b, .int .i64 p.q, .int .i64 p.eps, .int .i64 p.f, .int .u64 (session : Int), .slice A L c, .slice D M d] 45))
  obtain ⟨wa, hwa⟩ : ∃ wa, w.alloc (.cells #[.int .i64 p.n, .int .i64 p.b, .int .i64 p.q, .int .i64 p.eps, .int .i64 p.f, .int .u64 (session : Int), .slice A L c, .slice D M d] 45) = wa := ⟨_, rfl⟩
  rw [hwa] at hbox HKa
  obtain ⟨pb, hpb⟩ : ∃ pb, w.heap.size = pb := ⟨_, rfl⟩
  rw [hpb] at hbox
  go_enter Try.func6, Try.ntmps6
  go_wp2_with fail
  refine (speaks14_calls _).mono ?_
  rintro e w1 ⟨rfl, HK1⟩
  have hbx := hid (HK1.heap hbox.out (fun h => h))
  have HK1 := hid (HKa.out.fresh HK1)
  clear hbox HKa hwa hpb
  obtain ⟨b0, b1, b2, b3, b4, b5, b6, b7⟩ := cells8' hbx.out
  go_wp2_with fail
  have hlt := World.block_lt_of_cell? w1 _ b0
  go_region_held3 (fun w' => w'.cell? ⟨pb, 0, none⟩ = some (.int .i64 p.n) ∧ w'.cell? ⟨pb, 1, none⟩ = some (.int .i64 p.b) ∧ w'.cell? ⟨pb, 2, none⟩ = some (.int .i64 p.q) ∧ w'.cell? ⟨pb, 3, none⟩ = some (.int .i64 p.eps) ∧ w'.cell? ⟨pb, 4, none⟩ = some (.int .i64 p.f) ∧ w'.cell? ⟨pb, 5, none⟩ = some (.int .u64 (session : Int)) ∧ w'.cell? ⟨pb, 6, none⟩ = some (.slice A L c)) (go_keep) (fail)
  have HP3 := hid (((Keeps.refl NoB (w1.alloc (.cells #[.int .i64 p.n, .int .i64 p.b, .int .i64 p.q, .int .i64 p.eps, .int .i64 p.f] 23))).drew).heap (heap_alloc_new w1 (.cells #[.int .i64 p.n, .int .i64 p.b, .int .i64 p.q, .int .i64 p.eps, .int .i64 p.f] 23)) (fun h => h))
  have HK3 := hid (HK1.out.fresh ((Keeps.refl NoB w1).alloc (.cells #[.int .i64 p.n, .int .i64 p.b, .int .i64 p.q, .int .i64 p.eps, .int .i64 p.f] 23)).drew)
  generalize hw3 : (w1.alloc (.cells #[.int .i64 p.n, .int .i64 p.b, .int .i64 p.q, .int .i64 p.eps, .int .i64 p.f] 23)).drew = w3 at *
  obtain ⟨rb, hrb⟩ : ∃ rb, w1.heap.size = rb := ⟨_, rfl⟩
  rw [hrb] at HP3
  have HC5 := hid (fun (W : World) (hW : Keeps NoB w3 W) => cells5 (hW.heap HP3.out (fun h => h)))
  have HSM := hid (fun (W : World) => small_calls p A L c W hlen)
  unfold Par.val at HSM
  obtain ⟨r0, r1, r2, r3, r4⟩ := HC5.out w3 (Keeps.refl _ _)
  go_wp2_with fail
  refine (HSM.out _).mono ?_
  rintro e w4 ⟨rfl, HK4⟩
  have HK4 := hid HK4
  have HK34 := hid (HK3.out.fresh HK4.out)
  clear b0 b1 b2 b3 b4 b5 b6 b7 hlt hbx hw3 hrb r0 r1 r2 r3 r4 HSM
  obtain ⟨r0, r1, r2, r3, r4⟩ := HC5.out w4 HK4.out
  by_cases hsm : smallN p L = true
  · rw [hsm]
    obtain ⟨hm, hn60, hb60, hf200, hle⟩ := smallN_yes hsm
    have HN := hid (fun (W : World) (hW : Keeps NoB w4 W) => emitNew_yes p session obj A c (fun _ => True) W hm hs (HO.out.kept (HK34.out.fresh hW)) (by rw [HL.out]; exact hcap) (by rw [HL.out]; exact hle))
    rw [HL.out] at HN
    unfold Par.val at HN
    go_wp2_with fail
    refine (HN.out _ (Keeps.refl _ _)).mono ?_
    rintro e w5 ⟨en, rfl, hen, hk5⟩
    have HE := hid hen
    have HK5 := hid (HK34.out.fresh hk5)
    have HC := hid (fun (W : World) (hW : Keeps NoB w5 W) => HC5.out W (HK4.out.fresh (hk5.fresh hW)))
    clear hen hk5 r0 r1 r2 r3 r4 HC5 HN HK34 HK4 HK3 HP3
    have HRC := hid (fun (W : World) (hW : Keeps NoB w5 W) => rcomp_calls p session obj A c (fun _ => True) W hm hs (HO.out.kept (HK5.out.fresh hW)) hn60)
    rw [HL.out] at HRC
    unfold Par.val at HRC
    have HCM := hid (fun (j : Int) (W : World) (hW : Keeps NoB w5 W) => composite_calls en p session obj j W (HE.out.kept hW) hm)
    have HCR := hid (fun (k : Nat) (h : k < (compN p session obj).length) => fitB_at (comp_fitB hm session obj) k h)
    have HCO := hid (fun (j : Int) => cmpN_none (compN p session obj) j)
    obtain ⟨B, hB⟩ : ∃ B, p.b.toNat = B := ⟨_, rfl⟩
    have hB1 : 1 ≤ B := by have := hm.2.2.1; omega
    have hB2 : B ≤ 60 := by omega
    rw [hB] at HCR
    have hm2 : (compN p session obj).length ≤ 100000000 := by
      rw [compN_length']
      have := auxN_bounds hm
      omega
    generalize compN p session obj = comp at *
    obtain ⟨m, hmm⟩ : ∃ m, comp.length = m := ⟨_, rfl⟩
    have HMM := hid hmm
    rw [hmm] at HCR HCO hm2
    clear hsm hm hn60 hb60 hf200 hle hB hmm
    obtain ⟨r0, r1, r2, r3, r4⟩ := HC.out w5 (Keeps.refl _ _)
    go_wp2_with fail
    refine (HRC.out _ (Keeps.refl _ _)).mono ?_
    rintro e w6 ⟨v6, rfl, ho6, hk6⟩
    obtain ⟨A6, c6, hv6, _, _, hrows⟩ := ho6.reads
    rw [HMM.out] at hv6
    subst hv6
    have HB := hid hrows
    have HK6 := hid hk6
    have HKW := hid (HK5.out.fresh hk6)
    clear r0 r1 r2 r3 r4 HC HRC ho6 hrows hk6
    go_wp2_with fail
    go_loopw [45] (fun v45 wr => ∃ k : Nat, k ≤ m ∧ v45 = .int .i64 (k : Int) ∧ Hid (Keeps NoB w6 wr)) (fun v45 _ => m - (intOf v45).toNat)
    case atStart => exact ⟨0, Nat.zero_le _, rfl, Keeps.refl _ _⟩
    case round =>
      obtain ⟨k, hk, rfl, HKr⟩ := hrel
      by_cases hlt : k < m
      · obtain ⟨b, off, rfl, _, hc⟩ := (HB.out.kept HKr.out).2 (by rw [HMM.out]; omega)
        obtain ⟨u, hck, Bx, dx, rfl, _, _, r1⟩ := hc k (by rw [HMM.out]; exact hlt)
        have HLB := hid (HCR.out k hlt)
        have HCMk := hid (fun (W : World) (hW : Keeps NoB w6 W) => HCM.out (k : Int) W (HK6.out.fresh hW))
        rw [cmpN_at] at HCMk
        rw [HLB.out] at hck
        have HR1 := hid (fun (W : World) (hW : Keeps NoB wr W) => conv_run 25 9 Try.underlying25 Try.underlying9 (r1.kept hW) dx)
        rw [HLB.out] at HR1
        clear hc r1
        generalize gr comp k = l at *
        have dl : ((strOf l).toList != (strOf l).toList) = false := by simp
        go_wp2_with fail
        refine (HCMk.out wr HKr.out).mono ?_
        rintro e w7 ⟨v7, rfl, ho7, hk7⟩
        obtain ⟨A7, c7, hv7, _, _, hb7⟩ := OwnB.reads ho7
        obtain ⟨g7, cc7, hf7⟩ := OwnInts.form ho7 (by rw [enc8_length, HLB.out]; omega)
        rw [HLB.out] at hv7
        rw [enc8_length, HLB.out] at hf7
        subst hf7
        injection hv7 with e1 e2 e3
        subst e1 e3
        have f1 := HR1.out w7 hk7
        have f7 := conv_run 25 9 Try.underlying25 Try.underlying9 hb7 cc7
        rw [HLB.out] at f7
        have hcell := OwnInts.cell ho7 (j := 0) (by rw [enc8_length, HLB.out]; omega)
        rw [gi_enc8 l 0 (by rw [HLB.out]; omega)] at hcell
        have hfree := OwnInts.free ho7 0
        have hbl := (OwnInts.base_le ho7 g7 rfl).1
        have hx := (gb l 0).toNat_lt
        have p0 : (0 : Int) < (B : Int) := by omega
        generalize (gb l 0).toNat = x at *
        have HK7 := hid hk7
        clear ho7 hk7 hb7
        go_wp2_with fail
        have HKS := hid (HK7.out.setCell (p := ⟨g7, 0, none⟩) (fun h => absurd h (by show ¬ g7 < _; omega)) (.int .u8 (((x : Int) + 1) % 256)))
        obtain ⟨ws, hws⟩ : ∃ ws, w7.setCell ⟨g7, 0, none⟩ (.int .u8 (((x : Int) + 1) % 256)) = ws := ⟨_, rfl⟩
        rw [hws] at HKS ⊢
        have HKd := hid (HKS.out.drew)
        clear f1 f7 hcell hfree hbl hx hck
        refine wp_region_list [([], [63], []), ([], [64], []), ([0, 1], [65], [63, 64]), ([0, 1, 2], [66], [63, 64, 65]), ([], [67], []), ([4], [68], [67]), ([0, 1, 2, 3, 4, 5], [69], [63, 64, 65, 66, 67, 68])] [63, 64, 65, 66, 67, 68, 69] (Keeps NoB) (fun (i : Nat) => ([(fun rs__ U => (rs__.getD 0 undef) = Value.pointer (some ⟨en, 0, none⟩)), (fun rs__ U => (rs__.getD 0 undef) = Value.int .i64 (k : Int)), (fun rs__ U => ∃ A9 c9, (rs__.getD 0 undef) = Value.slice A9 B c9 ∧ Hid (BytesIn (fun _ => True) U A9 l)), (fun rs__ U => (rs__.getD 0 undef) = Value.string (strOf l)), (fun rs__ U => (rs__.getD 0 undef) = Value.slice Bx B dx), (fun rs__ U => (rs__.getD 0 undef) = Value.string (strOf l)), (fun rs__ U => (rs__.getD 0 undef) = Value.bool false)] : List (List Value → World → Prop)).getD i (fun _ _ => True)) (by kernel_rfl) (by kernel_rfl) (by kernel_rfl) (fun _ _ _ h1 h2 => h1.fresh h2) (fun _ => Keeps.refl _ _) (RL.cons ?s0 (RL.cons ?s1 (RL.cons ?s2 (RL.cons ?s3 (RL.cons ?s4 (RL.cons ?s5 (RL.cons ?s6 (RL.nil _ _)))))))) ?fin
        case s0 =>
          intro V wx hE hd
          clear hd
          intro K hK
          simp only [rput, List.foldl_cons, List.foldl_nil, Act.put, List.setIfInBounds_toArray, List.set_cons_zero, List.set_cons_succ]
          go_simp; (with_reducible refine hK.out _ _ ?_ ?_); exact rfl; exact ⟨Keeps.refl _ _, rfl⟩
        case s1 =>
          intro V wx hE hd
          clear hd
          intro K hK
          simp only [rput, List.foldl_cons, List.foldl_nil, Act.put, List.setIfInBounds_toArray, List.set_cons_zero, List.set_cons_succ]
          go_simp; (with_reducible refine hK.out _ _ ?_ ?_); exact rfl; exact ⟨Keeps.refl _ _, rfl⟩
        case s2 =>
          intro V wx hE hd
          obtain ⟨u0, hb0, hu0, p0⟩ : ∃ U, Keeps NoB ws.drew U ∧ Keeps NoB U wx ∧ ((V 63) = Value.pointer (some ⟨en, 0, none⟩)) := hd 0 (by decide)
          obtain ⟨u1, hb1, hu1, p1⟩ : ∃ U, Keeps NoB ws.drew U ∧ Keeps NoB U wx ∧ ((V 64) = Value.int .i64 (k : Int)) := hd 1 (by decide)
          clear hd
          clear hb0 hu0
          clear hb1 hu1
          intro K hK
          simp only [rput, List.foldl_cons, List.foldl_nil, Act.put, List.setIfInBounds_toArray, List.set_cons_zero, List.set_cons_succ, p0, p1]
          go_simp; refine (HCMk.out _ (HKr.out.fresh (HKd.out.fresh hE))).mono ?_; rintro e w9 ⟨v9, rfl, ho9, hk9⟩; obtain ⟨A9, c9, hv9, _, _, hb9⟩ := OwnB.reads ho9; rw [HLB.out] at hv9; subst hv9; (with_reducible refine hK.out _ _ ?_ ?_); exact rfl; exact ⟨hk9, A9, c9, rfl, hid (hb9.mono (fun _ _ _ => trivial))⟩
        case s3 =>
          intro V wx hE hd
          obtain ⟨u2, hb2, hu2, p2⟩ : ∃ U, Keeps NoB ws.drew U ∧ Keeps NoB U wx ∧ (∃ A9 c9, (V 65) = Value.slice A9 B c9 ∧ Hid (BytesIn (fun _ => True) U A9 l)) := hd 2 (by decide)
          clear hd
          obtain ⟨A9, c9, q2, hb2⟩ := p2
          intro K hK
          simp only [rput, List.foldl_cons, List.foldl_nil, Act.put, List.setIfInBounds_toArray, List.set_cons_zero, List.set_cons_succ, q2]
          have hcv := conv_run 25 9 Try.underlying25 Try.underlying9 (hb2.out.kept hu2) c9; rw [HLB.out] at hcv; go_simp; (with_reducible refine hK.out _ _ ?_ ?_); exact rfl; exact ⟨Keeps.refl _ _, rfl⟩
        case s4 =>
          intro V wx hE hd
          clear hd
          intro K hK
          simp only [rput, List.foldl_cons, List.foldl_nil, Act.put, List.setIfInBounds_toArray, List.set_cons_zero, List.set_cons_succ]
          go_simp; (with_reducible refine hK.out _ _ ?_ ?_); exact rfl; exact ⟨Keeps.refl _ _, rfl⟩
        case s5 =>
          intro V wx hE hd
          obtain ⟨u4, hb4, hu4, p4⟩ : ∃ U, Keeps NoB ws.drew U ∧ Keeps NoB U wx ∧ ((V 67) = Value.slice Bx B dx) := hd 4 (by decide)
          clear hd
          clear hb4 hu4
          intro K hK
          simp only [rput, List.foldl_cons, List.foldl_nil, Act.put, List.setIfInBounds_toArray, List.set_cons_zero, List.set_cons_succ, p4]
          have hcv := HR1.out _ (HKd.out.fresh hE); go_simp; (with_reducible refine hK.out _ _ ?_ ?_); exact rfl; exact ⟨Keeps.refl _ _, rfl⟩
        case s6 =>
          intro V wx hE hd
          obtain ⟨u3, hb3, hu3, p3⟩ : ∃ U, Keeps NoB ws.drew U ∧ Keeps NoB U wx ∧ ((V 66) = Value.string (strOf l)) := hd 3 (by decide)
          obtain ⟨u5, hb5, hu5, p5⟩ : ∃ U, Keeps NoB ws.drew U ∧ Keeps NoB U wx ∧ ((V 68) = Value.string (strOf l)) := hd 5 (by decide)
          clear hd
          clear hb3 hu3
          clear hb5 hu5
          intro K hK
          simp only [rput, List.foldl_cons, List.foldl_nil, Act.put, List.setIfInBounds_toArray, List.set_cons_zero, List.set_cons_succ, p3, p5]
          go_simp; (with_reducible refine hK.out _ _ ?_ ?_); exact rfl; exact ⟨Keeps.refl _ _, rfl⟩
        case fin =>
          intro V wz hE hd
          obtain ⟨u6, hb6, hu6, p6⟩ : ∃ U, Keeps NoB ws.drew U ∧ Keeps NoB U wz ∧ ((V 69) = Value.bool false) := hd 6 (by decide)
          clear hd
          clear hb6 hu6
          simp only [rput, List.foldl_cons, List.foldl_nil, Act.put, List.setIfInBounds_toArray, List.set_cons_zero, List.set_cons_succ, p6]
          clear p6
          go_wp2_with fail
          go_roundw
          case rel => exact ⟨k + 1, by omega, by go_num, hid (HKr.out.fresh (HKd.out.fresh hE))⟩
          case measure => simp [intOf]; omega
      · obtain rfl : k = m := by omega
        have HCMi := hid (HCM.out i wr (HK6.out.fresh HKr.out))
        by_cases h0 : 0 ≤ i
        · have d0 : decide (0 ≤ i) = true := decide_eq_true h0
          by_cases h1 : i < (k : Int)
          · have d1 : decide (i < (k : Int)) = true := decide_eq_true h1
            go_wp2_with fail
            go_ret
            exact ⟨rfl, HKW.out.fresh HKr.out⟩
          · have d1 : decide (i < (k : Int)) = false := decide_eq_false h1
            have HNO := hid (HCO.out i (fun h => h1 h.2))
            go_wp2_with fail
            refine HCMi.out.mono ?_
            rintro e w9 ⟨v9, rfl, ho9, hk9⟩
            rw [HNO.out] at ho9
            obtain ⟨A9, c9, rfl, _⟩ := OwnB.reads ho9
            have HK9 := hid hk9
            clear ho9 hk9
            go_wp2_with fail
            go_ret
            exact ⟨rfl, HKW.out.fresh (HKr.out.fresh HK9.out)⟩
        · have d0 : decide (0 ≤ i) = false := decide_eq_false h0
          have HNO := hid (HCO.out i (fun h => h0 h.1))
          go_wp2_with fail
          refine HCMi.out.mono ?_
          rintro e w9 ⟨v9, rfl, ho9, hk9⟩
          rw [HNO.out] at ho9
          obtain ⟨A9, c9, rfl, _⟩ := OwnB.reads ho9
          have HK9 := hid hk9
          clear ho9 hk9
          go_wp2_with fail
          go_ret
          exact ⟨rfl, HKW.out.fresh (HKr.out.fresh HK9.out)⟩
  · have hsm : smallN p L = false := by simpa using hsm
    rw [hsm]
    clear hsm
    go_wp2_with fail
    go_ret
    exact ⟨rfl, HK34.out⟩
end Go.Proofs.Ytpkkaicpbihjfaa
