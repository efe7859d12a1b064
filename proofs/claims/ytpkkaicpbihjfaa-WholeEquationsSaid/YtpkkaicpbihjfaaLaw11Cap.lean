/- What is drawn, and the blocks of a check block, by the document: the lists lie in blocks of the call's own. Conditions: numbers are of their kinds; parameters that may be. -/
import Derived.Test.YtpkkaicpbihjfaaLaw11
import Derived.Test.YtpkkaicpbihjfaaEqAdd
set_option linter.unusedVariables false
namespace Go.Proofs.Ytpkkaicpbihjfaa
open Go.RowKit
attribute [local go_sem ↓] Go.wp_at_zero Go.wp_at_succ

set_option maxHeartbeats 800000 in
theorem rsome_fresh (s : Nat) (below many' : Int) (cnt lo : Nat) (many : Int) (w : World) (hs : s < 18446744073709551616) (hb : below ≤ 1073741824) (hb' : -9223372036854775808 ≤ below) (hm0 : -9223372036854775808 ≤ many') (hm1 : many' ≤ below)
    (hmm : (if many > below then below else many) = many') (hc : cnt = many'.toNat) (hl : lo = below.toNat - cnt) :
    Calls Try.prog 56 #[.int .u64 (s : Int), .int .i64 below, .int .i64 many] w fun e w' => ∃ A c, e = .returned (.tuple #[.int .u64 ((drawN s lo cnt).1 : Nat), .slice A cnt c]) ∧ cnt ≤ c ∧ IntsIn (fun b => w.heap.size ≤ b) w' A (srt (drawN s lo cnt).2) ∧ Keeps NoB w w' := by
  have HC := hid hc
  have HL := hid hl
  clear hc hl
  by_cases hgt : many > below
  · obtain rfl : below = many' := by rw [if_pos hgt] at hmm; exact hmm
    have hd : decide (below < many) = true := decide_eq_true hgt
    clear hmm
    go_enter Try.func56, Try.ntmps56
    go_wp2_with fail
    go_loopw [0, 8, 9] (fun v0 v8 v9 wr => ∃ (i : Nat) (st : Nat) (l : List Int) (A : Option Addr) (c : Nat), i ≤ below.toNat ∧ v9 = .int .i64 i ∧ v0 = .int .u64 st ∧ v8 = .slice A l.length c ∧ l.length ≤ i ∧ l.length ≤ c ∧ Hid (drawN s lo i = (st, (drawN s lo i).2)) ∧ Hid (l = srt (drawN s lo i).2) ∧ Hid (IntsIn (fun b => w.heap.size ≤ b) wr A l) ∧ Hid (Keeps NoB w wr)) (fun _ _ v9 _ => below.toNat - (intOf v9).toNat)
    case atStart =>
      obtain ⟨A, c, e, h1, h2⟩ := (OwnInts.empty w w.heap.size .i64 3 (Nat.le_refl _)).reads
      exact ⟨0, s, [], A, c, Nat.zero_le _, rfl, rfl, e, Nat.le_refl _, h1, rfl, rfl, hid ⟨h2, fun _ _ _ h0 => absurd h0 (by simp)⟩, (Keeps.refl _ w).alloc _⟩
    case round =>
      obtain ⟨i, st, l, A, c, hi, rfl, rfl, rfl, hli, hlc, HS, HLL, HAT, HK⟩ := hrel
      have hst := hid (show st < 18446744073709551616 by have h1 := congrArg Prod.fst HS.out; have h2 := drawN_lt s lo hs i; rw [h1] at h2; exact h2)
      by_cases hlt : (i : Int) < below
      · have hj1 := hid (show (i : Int) + 1 = ((lo + i + 1 : Nat) : Int) by have := HL.out; have := HC.out; omega)
        have hj0 := hid (show (i : Int) = ((lo + i : Nat) : Int) by have := HL.out; have := HC.out; omega)
        have hn9 := hid (show lo + i + 1 ≤ 9223372036854775807 by have := HL.out; have := HC.out; omega)
        go_wp2_with fail
        rw [hj1.out]
        refine (rbelow_calls st (lo + i + 1) _ hn9.out).mono ?_
        rintro e w1 ⟨rfl, HK1⟩
        have HK1 := hid HK1
        have hx := hid (show drawN s lo (i + 1) = ((belowN st (lo + i + 1)).1, (drawN s lo i).2 ++ [pickN (drawN s lo i).2 (lo + i) (belowN st (lo + i + 1)).2]) by
          show ((belowN (drawN s lo i).1 (lo + i + 1)).1, (drawN s lo i).2 ++ [pickN (drawN s lo i).2 (lo + i) (belowN (drawN s lo i).1 (lo + i + 1)).2]) = _
          rw [congrArg Prod.fst HS.out])
        generalize hB : belowN st (lo + i + 1) = B at *
        obtain ⟨st1, x⟩ := B
        clear hB
        go_wp2_with fail
        refine (has_calls l (x : Int) A c _ (HAT.out.1.kept HK1.out)).mono ?_
        rintro e w2 ⟨rfl, HK2⟩
        have HK2 := hid HK2
        by_cases hin : (x : Int) ∈ l
        · have hd : decide ((x : Int) ∈ l) = true := decide_eq_true hin
          have hp := hid (show pickN (drawN s lo i).2 (lo + i) x = (i : Int) by rw [hj0.out]; unfold pickN; rw [if_pos ((mem_srt _ _).1 (HLL.out ▸ hin))])
          go_wp2_with fail
          refine (insert_calls l ((i : Int)) A c _ ((HAT.out.1.kept HK1.out).kept HK2.out) (by have := hli; omega)).mono ?_
          rintro e w3 ⟨v, rfl, hown, HK3⟩
          have hnew := hid (show ins ((i : Int)) l = srt (drawN s lo (i + 1)).2 by rw [hx.out]; rw [srt_snoc, hp.out, ← HLL.out])
          have hst1 := hid (show drawN s lo (i + 1) = (st1, (drawN s lo (i + 1)).2) by rw [hx.out])
          have hfr := hown.base_le
          obtain ⟨A1, c1, rfl, hc1, hat1⟩ := hown.reads
          have hat1 := hid (show IntsIn (fun b => w.heap.size ≤ b) w3 A1 _ from ⟨hat1, fun b off e h0 => by subst e; have h1 := (hfr b rfl).1; have h2 := ((HK.out.fresh HK1.out).fresh HK2.out).size; omega⟩)
          clear hfr
          have HK3 := hid HK3
          clear hown
          have hlen := hid (ins_length ((i : Int)) l)
          go_wp2_with fail
          go_roundw
          case rel => exact ⟨i + 1, st1, ins ((i : Int)) l, A1, c1, by omega, by go_num, rfl, rfl, by rw [hlen.out]; omega, hc1, hst1, hnew, hat1, ((HK.out.fresh HK1.out).fresh HK2.out).fresh HK3.out⟩
          case measure => simp [intOf]; omega
        · have hd : decide ((x : Int) ∈ l) = false := decide_eq_false hin
          have hp := hid (show pickN (drawN s lo i).2 (lo + i) x = (x : Int) by unfold pickN; rw [if_neg (fun h => hin (HLL.out ▸ (mem_srt _ _).2 h))])
          go_wp2_with fail
          refine (insert_calls l (x : Int) A c _ ((HAT.out.1.kept HK1.out).kept HK2.out) (by have := hli; omega)).mono ?_
          rintro e w3 ⟨v, rfl, hown, HK3⟩
          have hnew := hid (show ins (x : Int) l = srt (drawN s lo (i + 1)).2 by rw [hx.out]; rw [srt_snoc, hp.out, ← HLL.out])
          have hst1 := hid (show drawN s lo (i + 1) = (st1, (drawN s lo (i + 1)).2) by rw [hx.out])
          have hfr := hown.base_le
          obtain ⟨A1, c1, rfl, hc1, hat1⟩ := hown.reads
          have hat1 := hid (show IntsIn (fun b => w.heap.size ≤ b) w3 A1 _ from ⟨hat1, fun b off e h0 => by subst e; have h1 := (hfr b rfl).1; have h2 := ((HK.out.fresh HK1.out).fresh HK2.out).size; omega⟩)
          clear hfr
          have HK3 := hid HK3
          clear hown
          have hlen := hid (ins_length (x : Int) l)
          go_wp2_with fail
          go_roundw
          case rel => exact ⟨i + 1, st1, ins (x : Int) l, A1, c1, by omega, by go_num, rfl, rfl, by rw [hlen.out]; omega, hc1, hst1, hnew, hat1, ((HK.out.fresh HK1.out).fresh HK2.out).fresh HK3.out⟩
          case measure => simp [intOf]; omega
      · have hic : i = cnt := by have := HC.out; omega
        subst hic
        go_wp2_with fail
        go_ret2
        have hlen : l.length = i := by rw [HLL.out, srt_length, drawN_length]
        refine ⟨A, c, ?_, by omega, by rw [← HLL.out]; exact HAT.out, HK.out⟩
        rw [congrArg Prod.fst HS.out, ← hlen]
        rfl
  · obtain rfl : many = many' := by rw [if_neg hgt] at hmm; exact hmm
    have hd : decide (below < many) = false := decide_eq_false hgt
    clear hmm
    go_enter Try.func56, Try.ntmps56
    go_wp2_with fail
    go_loopw [0, 8, 9] (fun v0 v8 v9 wr => ∃ (i : Nat) (st : Nat) (l : List Int) (A : Option Addr) (c : Nat), i ≤ many.toNat ∧ v9 = .int .i64 i ∧ v0 = .int .u64 st ∧ v8 = .slice A l.length c ∧ l.length ≤ i ∧ l.length ≤ c ∧ Hid (drawN s lo i = (st, (drawN s lo i).2)) ∧ Hid (l = srt (drawN s lo i).2) ∧ Hid (IntsIn (fun b => w.heap.size ≤ b) wr A l) ∧ Hid (Keeps NoB w wr)) (fun _ _ v9 _ => many.toNat - (intOf v9).toNat)
    case atStart =>
      obtain ⟨A, c, e, h1, h2⟩ := (OwnInts.empty w w.heap.size .i64 3 (Nat.le_refl _)).reads
      exact ⟨0, s, [], A, c, Nat.zero_le _, rfl, rfl, e, Nat.le_refl _, h1, rfl, rfl, hid ⟨h2, fun _ _ _ h0 => absurd h0 (by simp)⟩, (Keeps.refl _ w).alloc _⟩
    case round =>
      obtain ⟨i, st, l, A, c, hi, rfl, rfl, rfl, hli, hlc, HS, HLL, HAT, HK⟩ := hrel
      have hst := hid (show st < 18446744073709551616 by have h1 := congrArg Prod.fst HS.out; have h2 := drawN_lt s lo hs i; rw [h1] at h2; exact h2)
      by_cases hlt : (i : Int) < many
      · have hj1 := hid (show below - many + (i : Int) + 1 = ((lo + i + 1 : Nat) : Int) by have := HL.out; have := HC.out; omega)
        have hj0 := hid (show below - many + (i : Int) = ((lo + i : Nat) : Int) by have := HL.out; have := HC.out; omega)
        have hn9 := hid (show lo + i + 1 ≤ 9223372036854775807 by have := HL.out; have := HC.out; omega)
        go_wp2_with fail
        rw [hj1.out]
        refine (rbelow_calls st (lo + i + 1) _ hn9.out).mono ?_
        rintro e w1 ⟨rfl, HK1⟩
        have HK1 := hid HK1
        have hx := hid (show drawN s lo (i + 1) = ((belowN st (lo + i + 1)).1, (drawN s lo i).2 ++ [pickN (drawN s lo i).2 (lo + i) (belowN st (lo + i + 1)).2]) by
          show ((belowN (drawN s lo i).1 (lo + i + 1)).1, (drawN s lo i).2 ++ [pickN (drawN s lo i).2 (lo + i) (belowN (drawN s lo i).1 (lo + i + 1)).2]) = _
          rw [congrArg Prod.fst HS.out])
        generalize hB : belowN st (lo + i + 1) = B at *
        obtain ⟨st1, x⟩ := B
        clear hB
        go_wp2_with fail
        refine (has_calls l (x : Int) A c _ (HAT.out.1.kept HK1.out)).mono ?_
        rintro e w2 ⟨rfl, HK2⟩
        have HK2 := hid HK2
        by_cases hin : (x : Int) ∈ l
        · have hd : decide ((x : Int) ∈ l) = true := decide_eq_true hin
          have hp := hid (show pickN (drawN s lo i).2 (lo + i) x = below - many + (i : Int) by rw [hj0.out]; unfold pickN; rw [if_pos ((mem_srt _ _).1 (HLL.out ▸ hin))])
          go_wp2_with fail
          refine (insert_calls l (below - many + (i : Int)) A c _ ((HAT.out.1.kept HK1.out).kept HK2.out) (by have := hli; omega)).mono ?_
          rintro e w3 ⟨v, rfl, hown, HK3⟩
          have hnew := hid (show ins (below - many + (i : Int)) l = srt (drawN s lo (i + 1)).2 by rw [hx.out]; rw [srt_snoc, hp.out, ← HLL.out])
          have hst1 := hid (show drawN s lo (i + 1) = (st1, (drawN s lo (i + 1)).2) by rw [hx.out])
          have hfr := hown.base_le
          obtain ⟨A1, c1, rfl, hc1, hat1⟩ := hown.reads
          have hat1 := hid (show IntsIn (fun b => w.heap.size ≤ b) w3 A1 _ from ⟨hat1, fun b off e h0 => by subst e; have h1 := (hfr b rfl).1; have h2 := ((HK.out.fresh HK1.out).fresh HK2.out).size; omega⟩)
          clear hfr
          have HK3 := hid HK3
          clear hown
          have hlen := hid (ins_length (below - many + (i : Int)) l)
          go_wp2_with fail
          go_roundw
          case rel => exact ⟨i + 1, st1, ins (below - many + (i : Int)) l, A1, c1, by omega, by go_num, rfl, rfl, by rw [hlen.out]; omega, hc1, hst1, hnew, hat1, ((HK.out.fresh HK1.out).fresh HK2.out).fresh HK3.out⟩
          case measure => simp [intOf]; omega
        · have hd : decide ((x : Int) ∈ l) = false := decide_eq_false hin
          have hp := hid (show pickN (drawN s lo i).2 (lo + i) x = (x : Int) by unfold pickN; rw [if_neg (fun h => hin (HLL.out ▸ (mem_srt _ _).2 h))])
          go_wp2_with fail
          refine (insert_calls l (x : Int) A c _ ((HAT.out.1.kept HK1.out).kept HK2.out) (by have := hli; omega)).mono ?_
          rintro e w3 ⟨v, rfl, hown, HK3⟩
          have hnew := hid (show ins (x : Int) l = srt (drawN s lo (i + 1)).2 by rw [hx.out]; rw [srt_snoc, hp.out, ← HLL.out])
          have hst1 := hid (show drawN s lo (i + 1) = (st1, (drawN s lo (i + 1)).2) by rw [hx.out])
          have hfr := hown.base_le
          obtain ⟨A1, c1, rfl, hc1, hat1⟩ := hown.reads
          have hat1 := hid (show IntsIn (fun b => w.heap.size ≤ b) w3 A1 _ from ⟨hat1, fun b off e h0 => by subst e; have h1 := (hfr b rfl).1; have h2 := ((HK.out.fresh HK1.out).fresh HK2.out).size; omega⟩)
          clear hfr
          have HK3 := hid HK3
          clear hown
          have hlen := hid (ins_length (x : Int) l)
          go_wp2_with fail
          go_roundw
          case rel => exact ⟨i + 1, st1, ins (x : Int) l, A1, c1, by omega, by go_num, rfl, rfl, by rw [hlen.out]; omega, hc1, hst1, hnew, hat1, ((HK.out.fresh HK1.out).fresh HK2.out).fresh HK3.out⟩
          case measure => simp [intOf]; omega
      · have hic : i = cnt := by have := HC.out; omega
        subst hic
        go_wp2_with fail
        go_ret2
        have hlen : l.length = i := by rw [HLL.out, srt_length, drawN_length]
        refine ⟨A, c, ?_, by omega, by rw [← HLL.out]; exact HAT.out, HK.out⟩
        rw [congrArg Prod.fst HS.out, ← hlen]
        rfl
theorem rsome_fresh' (s : Nat) (below many : Int) (w : World) (hs : s < 18446744073709551616) (hb : below ≤ 1073741824) (hb' : -9223372036854775808 ≤ below) (hm0 : -9223372036854775808 ≤ many) :
    Calls Try.prog 56 #[.int .u64 (s : Int), .int .i64 below, .int .i64 many] w fun e w' => ∃ A c, e = .returned (.tuple #[.int .u64 ((someS s below many) : Nat), .slice A (someN s below many).length c]) ∧ (someN s below many).length ≤ c ∧ IntsIn (fun b => w.heap.size ≤ b) w' A (someN s below many) ∧ Keeps NoB w w' := by
  refine (rsome_fresh s below (if many > below then below else many) _ _ many w hs hb hb' (by split <;> omega) (by split <;> omega) rfl rfl rfl).mono ?_
  rintro e w' ⟨A, c, rfl, h1, h2, h3⟩
  exact ⟨A, c, by rw [someN_length]; rfl, by rw [someN_length]; exact h1, h2, h3⟩
set_option maxHeartbeats 1000000 in
set_option maxRecDepth 20000 in
theorem rblocks_cap (p : Par) (session id : Nat) (w : World) (hm : p.may) (hs : session < 18446744073709551616) (hi : id < 18446744073709551616) :
    Calls Try.prog 28 #[p.val, .int .u64 (session : Int), .int .u64 (id : Int)] w fun e w' => ∃ A c, e = .returned (.slice A (blkN p session id).length c) ∧ (blkN p session id).length ≤ c ∧ IntsIn (fun b => w.heap.size ≤ b) w' A (blkN p session id) ∧ Keeps NoB w w' := by
  have hu := Try.underlying23
  have hx3 := hid (show ∀ x ∈ [session, 2, id], x < 18446744073709551616 by simp; omega)
  have hab := auxN_bounds hm
  have hpn : 1 ≤ p.n ∧ p.n ≤ 1048576 := ⟨hm.1, hm.2.1⟩
  have HM := hid hm
  have hdb := degP_bounds hm (nxV (seedN [session, 2, id]))
  have hdg := hid (show degreeN p.f.toNat p.eps.toNat (nxV (seedN [session, 2, id])) = degP p (nxV (seedN [session, 2, id])) from rfl)
  have hbl := hid (show someN (nxS (seedN [session, 2, id])) (p.n + auxN p) (degP p (nxV (seedN [session, 2, id]))) = blkN p session id from rfl)
  have hnv := hid (nxV_lt (seedN [session, 2, id]))
  clear hm
  generalize hD : degP p (nxV (seedN [session, 2, id])) = D at *
  generalize hS : seedN [session, 2, id] = sd at *
  obtain ⟨a, ha⟩ : ∃ a, auxN p = a := ⟨_, rfl⟩
  rw [ha] at hab hbl
  have HS := hid hS
  have HA := hid ha
  clear hD hS ha
  have hsw : IntKind.i64.wrap (p.n + a) = p.n + a := IntWalk.i64_in _ (by omega)
  have hbA := hid (heap_alloc_new w (.cells #[.int .i64 p.n, .int .i64 p.b, .int .i64 p.q, .int .i64 p.eps, .int .i64 p.f] 23))
  have hSall := hid (show ∀ w', Keeps NoB (w.alloc (.cells #[.int .i64 p.n, .int .i64 p.b, .int .i64 p.q, .int .i64 p.eps, .int .i64 p.f] 23)) w' → (w'.cell? ⟨w.heap.size, 0, none⟩ = some (.int .i64 p.n) ∧ w'.cell? ⟨w.heap.size, 1, none⟩ = some (.int .i64 p.b) ∧ w'.cell? ⟨w.heap.size, 2, none⟩ = some (.int .i64 p.q) ∧ w'.cell? ⟨w.heap.size, 3, none⟩ = some (.int .i64 p.eps) ∧ w'.cell? ⟨w.heap.size, 4, none⟩ = some (.int .i64 p.f)) from fun w' hk => cells5 (hk.heap hbA.out (fun h => h)))
  unfold Par.val
  go_enter Try.func28, Try.ntmps28
  go_wp2_with fail
  refine (rseed_calls [session, 2, id] _ 3 _ (by exact NatsAt.ofBlock [session, 2, id] (heap_alloc2_new w _ _) (by simp) hx3.out)).mono ?_
  rintro e w1 ⟨rfl, HK1⟩
  rw [HS.out]
  have HKr := hid (((Keeps.refl NoB (w.alloc (.cells #[.int .i64 p.n, .int .i64 p.b, .int .i64 p.q, .int .i64 p.eps, .int .i64 p.f] 23))).alloc _).fresh HK1)
  go_wp2_with fail
  refine (rnext_calls sd _).mono ?_
  rintro e w2 ⟨rfl, rfl⟩
  obtain ⟨a0, a1, a2, a3, a4⟩ := hSall.out _ HKr.out
  go_wp2_with fail
  go_region_held3 (fun w' => w'.cell? ⟨w.heap.size, 0, none⟩ = some (.int .i64 p.n) ∧ w'.cell? ⟨w.heap.size, 1, none⟩ = some (.int .i64 p.b) ∧ w'.cell? ⟨w.heap.size, 2, none⟩ = some (.int .i64 p.q) ∧ w'.cell? ⟨w.heap.size, 3, none⟩ = some (.int .i64 p.eps) ∧ w'.cell? ⟨w.heap.size, 4, none⟩ = some (.int .i64 p.f)) (first | (exact hSall.out _ HKr.out) | (exact hSall.out _ HKr.out.drew) | go_keep) (first
    | (go_at_call 57; refine (raux_calls p _ HM.out).mono ?_; rintro e w4 ⟨rfl, HK4⟩; rw [HA.out]; have HKr := hid (show Keeps NoB (w.alloc (.cells #[.int .i64 p.n, .int .i64 p.b, .int .i64 p.q, .int .i64 p.eps, .int .i64 p.f] 23)) w4 by first | exact HKr.out.fresh HK4 | exact HKr.out.drew.fresh HK4))
    | (go_at_call 58; refine (rdegree_calls p (nxV sd) _ HM.out hnv.out).mono ?_; rintro e w5 ⟨rfl, HK5⟩; rw [hdg.out]; have HKr := hid (show Keeps NoB (w.alloc (.cells #[.int .i64 p.n, .int .i64 p.b, .int .i64 p.q, .int .i64 p.eps, .int .i64 p.f] 23)) w5 by first | exact HKr.out.fresh HK5 | exact HKr.out.drew.fresh HK5))
    | (go_at_call 56; refine (rsome_fresh' (nxS sd) (p.n + a) D _ (nxS_lt _) (by omega) (by omega) (by omega)).mono ?_; rintro e w6 ⟨A6, c6, rfl, hc6, hat6, HK6⟩; have hat6 := hat6.mono (R' := fun b => w.heap.size ≤ b) (fun b _ hb => Nat.le_trans (Nat.le_trans (by rw [World.size_alloc]; omega) HKr.out.size) hb); have HKr := hid (show Keeps NoB (w.alloc (.cells #[.int .i64 p.n, .int .i64 p.b, .int .i64 p.q, .int .i64 p.eps, .int .i64 p.f] 23)) w6 by first | exact HKr.out.fresh HK6 | exact HKr.out.drew.fresh HK6)))
  all_goals go_wp2_with fail
  all_goals go_ret
  all_goals rw [hbl.out] at hat6 hc6 ⊢
  all_goals exact ⟨A6, c6, rfl, hc6, hat6, ((Keeps.refl NoB w).alloc _).fresh HKr.out⟩
end Go.Proofs.Ytpkkaicpbihjfaa
