/- Payloads and their blocks: the walk of the law EmitSums. Conditions: numbers are of their kinds. -/
import Derived.Test.YtpkkaicpbihjfaaLaw14
import Derived.Test.YtpkkaicpbihjfaaSums14
import Derived.Test.YtpkkaicpbihjfaaBRows
import Derived.Test.YtpkkaicpbihjfaaG3
import Derived.BigQuiet
set_option linter.unusedVariables false
set_option linter.unusedSimpArgs false
namespace Go.Proofs.Ytpkkaicpbihjfaa
open Go.RowKit
attribute [local go_sem ↓] Go.wp_at_zero Go.wp_at_succ

set_option maxHeartbeats 2000000 in
set_option maxRecDepth 20000 in
theorem emitSums_walk (p : Par) (session : Nat) (obj : List UInt8) (A : Option Addr) (c : Nat) (ids : List Nat) (D : Option Addr) (d : Nat) (w : World) (hwf : p.wf) (hs : session < 18446744073709551616) (ho : BytesIn (fun _ => True) w A obj) (hcap : obj.length ≤ c) (hids : NatsAt w D ids) :
    Calls Try.prog 7 #[.agg #[.int .i64 p.n, .int .i64 p.b, .int .i64 p.q, .int .i64 p.eps, .int .i64 p.f, .int .u64 (session : Int), .slice A obj.length c, .slice D ids.length d]] w fun e w' => e = .returned (.bool true) ∧ Keeps NoB w w' := by
  have hu := Try.underlying23
  have huh := Try.underlying53
  have hup := Try.underlying55
  have HO := hid ho
  have HWF := hid hwf
  have HI := hid hids
  have hlen := ho.len
  have hlen2 := hids.1.len
  rw [List.length_map] at hlen2
  obtain ⟨L, hL⟩ : ∃ L, obj.length = L := ⟨_, rfl⟩
  obtain ⟨M, hM⟩ : ∃ M, ids.length = M := ⟨_, rfl⟩
  have HL := hid hL
  have HM := hid hM
  rw [hL] at hcap hlen ⊢
  rw [hM] at hlen2 ⊢
  clear ho hwf hids hL hM
  have hbox := hid (heap_alloc_new w (.cells #[.int .i64 p.n, .int .i64 p.b, .int .i64 p.q, .int .i64 p.eps, .int .i64 p.f, .int .u64 (session : Int), .slice A L c, .slice D M d] 45))
  have HKa := hid ((Keeps.refl NoB w).alloc (.cells #[.int .i64 p.n, .int .i64 p.b, .int .i64 p.q, .int .i64 p.eps, .int .i64 p.f, .int .u64 (session : Int), .slice A L c, .slice D M d] 45))
  obtain ⟨wa, hwa⟩ : ∃ wa, w.alloc (.cells #[.int .i64 p.n, .int .i64 p.b, .int .i64 p.q, .int .i64 p.eps, .int .i64 p.f, .int .u64 (session : Int), .slice A L c, .slice D M d] 45) = wa := ⟨_, rfl⟩
  rw [hwa] at hbox HKa
  obtain ⟨pb, hpb⟩ : ∃ pb, w.heap.size = pb := ⟨_, rfl⟩
  rw [hpb] at hbox
  go_enter Try.func7, Try.ntmps7
  go_wp2_with fail
  refine (speaks14_calls _).mono ?_
  rintro e w1 ⟨rfl, HK1⟩
  have hbx := hid (HK1.heap hbox.out (fun h => h))
  have HK1 := hid (HKa.out.fresh HK1)
  clear hbox HKa hwa hpb
  obtain ⟨b0, b1, b2, b3, b4, b5, b6, b7⟩ := cells8' hbx.out
  go_wp2_with fail
  have hlt := World.block_lt_of_cell? w1 _ b0
  go_region_held3 (fun w' => w'.cell? ⟨pb, 0, none⟩ = some (.int .i64 p.n) ∧ w'.cell? ⟨pb, 1, none⟩ = some (.int .i64 p.b) ∧ w'.cell? ⟨pb, 2, none⟩ = some (.int .i64 p.q) ∧ w'.cell? ⟨pb, 3, none⟩ = some (.int .i64 p.eps) ∧ w'.cell? ⟨pb, 4, none⟩ = some (.int .i64 p.f) ∧ w'.cell? ⟨pb, 5, none⟩ = some (.int .u64 (session : Int)) ∧ w'.cell? ⟨pb, 6, none⟩ = some (.slice A L c) ∧ w'.cell? ⟨pb, 7, none⟩ = some (.slice D M d)) (go_keep) (fail)
  have HP3 := hid (((Keeps.refl NoB (w1.alloc (.cells #[.int .i64 p.n, .int .i64 p.b, .int .i64 p.q, .int .i64 p.eps, .int .i64 p.f] 23))).drew).heap (heap_alloc_new w1 (.cells #[.int .i64 p.n, .int .i64 p.b, .int .i64 p.q, .int .i64 p.eps, .int .i64 p.f] 23)) (fun h => h))
  have HK3 := hid (HK1.out.fresh ((Keeps.refl NoB w1).alloc (.cells #[.int .i64 p.n, .int .i64 p.b, .int .i64 p.q, .int .i64 p.eps, .int .i64 p.f] 23)).drew)
  generalize hw3 : (w1.alloc (.cells #[.int .i64 p.n, .int .i64 p.b, .int .i64 p.q, .int .i64 p.eps, .int .i64 p.f] 23)).drew = w3 at *
  obtain ⟨rb, hrb⟩ : ∃ rb, w1.heap.size = rb := ⟨_, rfl⟩
  rw [hrb] at HP3
  have HC5 := hid (fun (W : World) (hW : Keeps NoB w3 W) => cells5 (hW.heap HP3.out (fun h => h)))
  have HSM := hid (fun (W : World) => small_calls p A L c W hlen)
  unfold Par.val at HSM
  obtain ⟨r0, r1, r2, r3, r4⟩ := HC5.out w3 (Keeps.refl _ _)
  go_wp2_with fail
  refine (HSM.out _).mono ?_
  rintro e w4 ⟨rfl, HK4⟩
  have HK4 := hid HK4
  have HK34 := hid (HK3.out.fresh HK4.out)
  clear b0 b1 b2 b3 b4 b5 b6 b7 hlt hbx hw3 hrb r0 r1 r2 r3 r4 HSM
  obtain ⟨r0, r1, r2, r3, r4⟩ := HC5.out w4 HK4.out
  by_cases hsm : smallN p L = true
  · rw [hsm]
    obtain ⟨hm, hn60, hb60, hf200, hle⟩ := smallN_yes hsm
    by_cases h50 : 50 < M
    · have d0 : decide (50 < M) = true := decide_eq_true h50
      have d0' : decide ((50 : Int) < (M : Int)) = true := decide_eq_true (by omega)
      clear hsm hm hn60 hb60 hf200 hle h50
      go_wp2_with fail
      go_ret
      exact ⟨rfl, HK34.out⟩
    · have d0 : decide (50 < M) = false := decide_eq_false h50
      have d0' : decide ((50 : Int) < (M : Int)) = false := decide_eq_false (by omega)
      have HN := hid (fun (W : World) (hW : Keeps NoB w4 W) => emitNew_yes p session obj A c (fun _ => True) W hm hs (HO.out.kept (HK34.out.fresh hW)) (by rw [HL.out]; exact hcap) (by rw [HL.out]; exact hle))
      rw [HL.out] at HN
      unfold Par.val at HN
      go_wp2_with fail
      refine (HN.out _ (Keeps.refl _ _)).mono ?_
      rintro e w5 ⟨en, rfl, hen, hk5⟩
      have HE := hid hen
      have HK5 := hid (HK34.out.fresh hk5)
      have HC := hid (fun (W : World) (hW : Keeps NoB w5 W) => HC5.out W (HK4.out.fresh (hk5.fresh hW)))
      clear hen hk5 r0 r1 r2 r3 r4 HC5 HN HK34 HK4 HK3 HP3
      have hus := Try.underlying32
      have HD := hid (show IntsAt w5 .u64 D (ids.map (fun n : Nat => (n : Int))) ∧ ∀ x ∈ ids, x < 18446744073709551616 from ⟨HI.out.1.kept HK5.out, HI.out.2⟩)
      have HPK := hid (fun (id : Nat) (W : World) (hi : id < 18446744073709551616) (hW : Keeps NoB w5 W) => packet_calls en p session obj id W (HE.out.kept hW) hm hs hi)
      rw [HL.out] at HPK
      have HBL := hid (fun (id : Nat) (W : World) (hi : id < 18446744073709551616) => rblocks_calls p session id W hm hs hi)
      unfold Par.val at HBL
      have HCM := hid (fun (i : Int) (W : World) (hW : Keeps NoB w5 W) => composite_calls en p session obj i W (HE.out.kept hW) hm)
      have HPL := hid (fun (id : Nat) => payN_length hm session obj id)
      have HBN := hid (fun (id : Nat) => show (blkN p session id).length ≤ 100000000 by
        have := blkN_length hm session id
        have := all_bounds hm
        omega)
      have HR0 := hid (fun (id : Nat) => rows14_zero p session obj id)
      have HRL := hid (fun (id k : Nat) (h : k ≤ (blkN p session id).length) => rows14_length p session obj id k h)
      have HRS := hid (fun (id k : Nat) (h : k < (blkN p session id).length) => rows14_succ hm session obj id k h)
      have HRF := hid (fun (id : Nat) => rows14_fit hm session obj id)
      have HRZ := hid (fun (id : Nat) => rows14_sum hm session obj id)
      have hb1 : 1 ≤ p.b ∧ p.b ≤ 60 := ⟨hm.2.2.1, hb60⟩
      generalize hrowsd : rows14 p session obj = rows at *
      generalize hpayd : payN p session obj = pay at *
      generalize hblkd : blkN p session = blk at *
      generalize hcompd : compN p session obj = comp at *
      clear hsm hm hn60 hb60 hf200 hle h50 hrowsd hpayd hblkd hcompd
      go_wp2_with fail
      go_loopw [48] (fun v48 wr => ∃ k : Nat, k ≤ M ∧ v48 = .int .i64 (k : Int) ∧ Hid (Keeps NoB w5 wr)) (fun v48 _ => M - (intOf v48).toNat)
      case atStart => exact ⟨0, Nat.zero_le _, rfl, Keeps.refl _ _⟩
      case round =>
        obtain ⟨k, hk, rfl, HKr⟩ := hrel
        by_cases hlt : k < M
        · obtain ⟨b, off, rfl, hc⟩ := HD.out.1.get (by rw [List.length_map, HM.out]; omega)
          have hck := HKr.out.cell (hc k (by rw [List.length_map, HM.out]; exact hlt)) (fun h => h)
          rw [gi_map ids k (by rw [HM.out]; exact hlt)] at hck
          have hid64 := HD.out.2 (ids.getD k 0) (getD_mem ids 0 (by rw [HM.out]; exact hlt))
          generalize ids.getD k 0 = id at *
          have HPKi := hid (HPK.out id wr hid64 HKr.out)
          have HBLi := hid (fun (W : World) => HBL.out id W hid64)
          obtain ⟨nb, hnb⟩ : ∃ nb, (blk id).length = nb := ⟨_, rfl⟩
          have HNB := hid hnb
          have hnbb : nb ≤ 100000000 := by rw [← hnb]; exact HBN.out id
          clear hc hnb
          go_wp2_with fail
          refine HPKi.out.mono ?_
          rintro e w6 ⟨Ap, cp, rfl, ho6, hk6⟩
          have hsz6 := hk6.size
          have HK6 := hid (HKr.out.fresh hk6)
          have hrow6 : RowIn (fun b => wr.heap.size ≤ b ∧ b < w6.heap.size) w6 (.slice Ap p.b.toNat cp) (pay id) := (OwnB.row ho6).mono (fun b _ hb => OwnInts.base_le ho6 b hb)
          obtain ⟨z0, hz0⟩ : ∃ z0, wr.heap.size = z0 := ⟨_, rfl⟩
          rw [hz0] at hrow6
          have HR6 := hid (show OwnRows (fun b => z0 ≤ b) (w6.alloc (.cells #[.slice Ap p.b.toNat cp] 25)) w6.heap.size (.slice (some ⟨w6.heap.size, 0, none⟩) 1 1) (rows id 0) by
            rw [HR0.out id]
            exact (OwnRows.lit1 hrow6 (fun b h => h.2) (Nat.le_refl _)).mono (fun b _ h => h.1))
          have HK6a := hid ((Keeps.refl NoB w6).alloc (.cells #[.slice Ap p.b.toNat cp] 25))
          obtain ⟨r0, r1, r2, r3, r4⟩ := HC.out _ (HK6.out.fresh HK6a.out)
          clear ho6 hrow6 hk6
          have hpf := pay_field w6 (.int .u64 (session : Int)) (.int .i64 p.n) (.int .i64 p.b) (.int .i64 p.q) (.int .i64 p.eps) (.int .i64 p.f) (.int .i64 (L : Int)) (.int .u64 (id : Int)) (.slice Ap p.b.toNat cp)
          go_wp2_with fail
          refine (HBLi.out _).mono ?_
          rintro e w7 ⟨A4, c4, rfl, hat4, hk7⟩
          rw [HNB.out]
          have HAT := hid hat4
          have HK67 := hid (HK6a.out.fresh hk7)
          have HR7 := hid (HR6.out.kept hk7)
          have HB7 := hid (hk7.heap (heap_alloc_new w6 (.cells #[.slice Ap p.b.toNat cp] 25)) (fun h => h))
          clear r0 r1 r2 r3 r4 hat4 hk7 HR6 HK6a
          have HNE := hid (fun (b o : Nat) (x : Int) (h : w7.cell? ⟨b, o, none⟩ = some (.int .i64 x)) (e : b = w6.heap.size) => show False by
            subst e
            simp only [World.cell?, HB7.out] at h
            cases o with
            | zero => simp at h
            | succ o => simp at h)
          clear HB7
          go_wp2_with fail
          go_loopw [11, 62] (fun v11 v62 wr => ∃ j : Nat, j ≤ nb ∧ v62 = .int .i64 (j : Int) ∧ Hid (OwnRows (fun b => z0 ≤ b) wr w6.heap.size v11 (rows id j)) ∧ Hid (Keeps NoB w6 wr) ∧ Hid (Keeps (fun b => b = w6.heap.size) w7 wr) ∧ Hid (∀ b, v11.ownBlock = some b → b = w6.heap.size ∨ w7.heap.size ≤ b)) (fun _ v62 _ => nb - (intOf v62).toNat)
          case atStart => exact ⟨0, Nat.zero_le _, rfl, HR7.out, HK67.out, Keeps.refl _ _, fun b e => .inl (by simpa [Value.ownBlock] using e.symm)⟩
          case round =>
            obtain ⟨j, hj, rfl, HRW, HKz, HAZ, HOB⟩ := hrel
            by_cases hltj : j < nb
            · obtain ⟨b4, o4, rfl, hc4⟩ := HAT.out.get (by rw [HNB.out]; omega)
              have hcj := HAZ.out.cell (hc4 j (by rw [HNB.out]; exact hltj)) (fun e => HNE.out _ _ _ (hc4 j (by rw [HNB.out]; exact hltj)) e)
              have HCMj := hid (HCM.out (gi (blk id) j) wr (HK6.out.fresh HKz.out))
              have HRSj := hid (HRS.out id j (by rw [HNB.out]; exact hltj))
              have HRLj := hid (HRL.out id j (by rw [HNB.out]; omega))
              clear hc4
              generalize gi (blk id) j = ix at *
              go_wp2_with fail
              refine HCMj.out.mono ?_
              rintro e w8 ⟨v8, rfl, ho8, hk8⟩
              have hsz8 := hk8.size
              have hszz := HKz.out.size
              have hrow8 : RowIn (fun b => wr.heap.size ≤ b ∧ b < w8.heap.size) w8 v8 (cmpN comp ix) := (OwnB.row ho8).mono (fun b _ hb => OwnInts.base_le ho8 b hb)
              obtain ⟨A8, c8, hv8, _⟩ := OwnB.reads ho8
              generalize cmpN comp ix = cb at *
              subst hv8
              have HO8 := hid (HRW.out.kept hk8)
              have HKA := hid ((Keeps.refl NoB w8).alloc (.cells #[.slice A8 cb.length c8] 25))
              have HRA := hid (show RowIn (fun b => z0 ≤ b ∧ u11.ownBlock ≠ some b) (w8.alloc (.cells #[.slice A8 cb.length c8] 25)) (.slice A8 cb.length c8) cb from (hrow8.keeps HKA.out (fun _ _ h => h)).mono (fun b _ hb => ⟨by omega, fun e => by have := (HRW.out.base_le b e).2; omega⟩))
              have HK8 := hid (HKz.out.fresh hk8)
              have HAZ8 := hid (HAZ.out.then hk8 (fun i e _ => e.elim))
              clear ho8 hrow8 hk8 hcj
              go_wp2_with (at_builtin; go_must (refine wpList_app1RowB rfl _ _ 32 (fun b => z0 ≤ b) rfl w6.heap.size hus _ (rows id j) rfl (HO8.out.kept HKA.out) _ _ (.slice A8 cb.length c8) cb rfl (cell_one _ _ _) HRA.out (by rw [HRLj.out]; omega) (by simp; omega) ?_); intro v9 w9 hown9 hgr9 hat9)
              have HK9 := hid ((HK8.out.fresh HKA.out).grown hgr9 (fun i e hi => by have := (HO8.out.base_le i e.symm).1; omega))
              have HO9 := hid (show OwnRows (fun b => z0 ≤ b) w9 w6.heap.size v9 (rows id (j + 1)) by rw [HRSj.out]; exact hown9)
              have HAZ9 := hid ((HAZ8.out.then HKA.out (fun i e _ => e.elim)).then (Keeps.ofGrown hgr9) (fun i e hlt => by
                rcases HOB.out i (show u11.ownBlock = some i from e.symm) with h | h
                · exact h
                · omega))
              have HOB9 := hid (fun (b : Nat) (e : v9.ownBlock = some b) => show b = w6.heap.size ∨ w7.heap.size ≤ b by
                rcases hat9 with h | h
                · exact HOB.out b ((show u11.ownBlock = some b from h.symm.trans e))
                · have h1 := Option.some.inj (h.symm.trans e)
                  have h2 := HAZ8.out.size
                  have h3 := HKA.out.size
                  exact .inr (by omega))
              go_roundw
              case rel => exact ⟨j + 1, by omega, by go_num, HO9, HK9, HAZ9, HOB9⟩
              case measure => simp [intOf]; omega
            · obtain rfl : j = nb := by omega
              obtain ⟨Ar, cr, rfl, _, _, hrows⟩ := HRW.out.reads
              have HFIT := hid (show fitN p.b (rows id j) = true by rw [← HNB.out]; exact HRF.out id)
              have HZERO := hid (show zeroB (sumB p.b.toNat (rows id j)) = true by rw [← HNB.out]; exact HRZ.out id)
              have hfb : fitB p.b.toNat (rows id j) = true := by
                have := HFIT.out
                unfold fitN at this
                rw [Bool.and_eq_true] at this
                exact this.2
              have HFT := hid (rfits_calls p.b (rows id j) Ar cr _ wr hrows)
              rw [HFIT.out] at HFT
              have HSR := hid (rsum_calls p.b.toNat (rows id j) Ar cr _ wr (by omega) hrows hfb)
              rw [show (p.b.toNat : Int) = p.b by omega] at HSR
              have HZR := hid (fun (B7 : Option Addr) (c7 : Nat) (R7 : Nat → Prop) (W : World) (h7 : BytesIn R7 W B7 (sumB p.b.toNat (rows id j))) => rzero_calls (sumB p.b.toNat (rows id j)) B7 c7 R7 W h7)
              rw [HZERO.out] at HZR
              clear hrows hfb
              obtain ⟨r0, r1, r2, r3, r4⟩ := HC.out wr (HK6.out.fresh HKz.out)
              go_wp2_with fail
              refine HFT.out.mono ?_
              rintro e w10 ⟨rfl, hw10⟩
              subst hw10
              go_wp2_with fail
              refine HSR.out.mono ?_
              rintro e w11 ⟨v12, rfl, ho11, hk11⟩
              obtain ⟨A11, c11, hv11, _, _, hb11⟩ := OwnB.reads ho11
              subst hv11
              have HZZ := hid (HZR.out A11 c11 _ w11 hb11)
              have HK11 := hid hk11
              clear ho11 hk11 hb11
              go_wp2_with fail
              refine HZZ.out.mono ?_
              rintro e w12 ⟨rfl, hw12⟩
              subst hw12
              go_wp2_with fail
              go_roundw
              case rel => exact ⟨k + 1, by omega, by go_num, hid (HK6.out.fresh (HKz.out.fresh HK11.out))⟩
              case measure => simp [intOf]; omega
        · obtain rfl : k = M := by omega
          go_wp2_with fail
          go_ret
          exact ⟨rfl, HK5.out.fresh HKr.out⟩
  · have hsm : smallN p L = false := by simpa using hsm
    rw [hsm]
    clear hsm
    go_wp2_with fail
    go_ret
    exact ⟨rfl, HK34.out⟩
end Go.Proofs.Ytpkkaicpbihjfaa
