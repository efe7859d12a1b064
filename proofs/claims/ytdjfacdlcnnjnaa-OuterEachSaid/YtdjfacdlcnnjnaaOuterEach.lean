/- The walk of the law OuterEach. No condition but that the numbers are of their kinds. -/
import Derived.Test.YtdjfacdlcnnjnaaOuterMore
import Derived.Test.YtdjfacdlcnnjnaaEachMath
import Derived.Deep.RegionWith
set_option linter.unusedVariables false
namespace Go.Proofs.Ytdjfacdlcnnjnaa
open Go.RowKit
attribute [local go_sem ↓] Go.wp_at_zero Go.wp_at_succ
set_option maxHeartbeats 8000000 in
set_option maxRecDepth 40000 in
theorem outerEach_walk (p0 : Par) (session : Nat) (w : World) (hp0 : p0.wf) (hs : session < 18446744073709551616) :
    Calls Try.prog 10 #[p0.val, .int .u64 (session : Int)] w fun e w' => e = .returned (.bool true) ∧ Keeps NoB w w' := by
  have hu := Try.underlying66
  unfold Par.val
  go_enter Try.func10, Try.ntmps10
  go_wp2_with fail
  refine (speaks10_calls _).mono ?_
  rintro e w1 ⟨rfl, HK1⟩
  have hbox := hid (HK1.heap (heap_alloc_new w (.cells #[.int .i64 p0.n, .int .i64 p0.b, .int .i64 p0.q, .int .i64 p0.eps, .int .i64 p0.f] 66)) (fun h => h))
  have HK1 := hid (((Keeps.refl NoB w).alloc _).fresh HK1)
  obtain ⟨b0, b1, b2, b3, b4⟩ := cells5 hbox.out
  go_wp2_with fail
  refine (smaller_calls p0 _).mono ?_
  rintro e w2 ⟨rfl, HK2⟩
  have hbox := hid (HK2.heap hbox.out (fun h => h))
  have HK2 := hid (HK1.out.fresh HK2)
  have hle := smP_le p0
  have hwf := smP_wf hp0
  generalize smP p0 = p at *
  clear b0 b1 b2 b3 b4 HK1
  have f0 := free5 hbox.out 0
  have f1 := free5 hbox.out 1
  have f2 := free5 hbox.out 2
  have f3 := free5 hbox.out 3
  have f4 := free5 hbox.out 4
  obtain ⟨b0, b1, b2, b3, b4⟩ := cells5 hbox.out
  unfold Par.val
  go_wp2_with fail
  have hA := hid (set5 hbox.out (.int .i64 p.n) (.int .i64 p.b) (.int .i64 p.q) (.int .i64 p.eps) (.int .i64 p.f))
  have HK6 := hid (HK2.out.then (keep5 (w := w2) (b := w.heap.size) (.int .i64 p.n) (.int .i64 p.b) (.int .i64 p.q) (.int .i64 p.eps) (.int .i64 p.f)) (fun q (e : q = w.heap.size) hq => by omega))
  clear b0 b1 b2 b3 b4 f0 f1 f2 f3 f4 hbox HK2
  generalize (((((w2.setCell ⟨w.heap.size, 0, none⟩ (.int .i64 p.n)).setCell ⟨w.heap.size, 1, none⟩ (.int .i64 p.b)).setCell ⟨w.heap.size, 2, none⟩ (.int .i64 p.q)).setCell ⟨w.heap.size, 3, none⟩ (.int .i64 p.eps)).setCell ⟨w.heap.size, 4, none⟩ (.int .i64 p.f)) = w6 at *
  obtain ⟨pb, hpb⟩ : ∃ pb, pb = w.heap.size := ⟨_, rfl⟩
  rw [← hpb] at hA ⊢
  clear hpb
  have hSall := hid (show ∀ w', Keeps NoB w6 w' → (w'.cell? ⟨pb, 0, none⟩ = some (.int .i64 p.n) ∧ w'.cell? ⟨pb, 1, none⟩ = some (.int .i64 p.b) ∧ w'.cell? ⟨pb, 2, none⟩ = some (.int .i64 p.q) ∧ w'.cell? ⟨pb, 3, none⟩ = some (.int .i64 p.eps) ∧ w'.cell? ⟨pb, 4, none⟩ = some (.int .i64 p.f)) from fun w' hk => cells5 (hk.heap hA.out (fun h => h)))
  refine (may_calls p _).mono ?_
  rintro e w7 ⟨rfl, HK7⟩
  have HKr := hid HK7
  by_cases hp : p.may
  · have HM := hid hp
    rw [mayB_true hp]
    have hab := auxN_bounds hp
    have hpn : 1 ≤ p.n ∧ p.n ≤ 60 := ⟨hp.1, hle⟩
    obtain ⟨a, ha⟩ : ∃ a : Nat, auxN p = (a : Int) := ⟨(auxN p).toNat, by omega⟩
    obtain ⟨n, hn⟩ : ∃ n : Nat, p.n = (n : Int) := ⟨p.n.toNat, by omega⟩
    have ha1 : 1 ≤ a := by omega
    have ha2 : a ≤ 4613735 := by omega
    have hn1 : 1 ≤ n := by omega
    have hn2 : n ≤ 60 := by omega
    have HA := hid ha
    have HN := hid hn
    clear hp hab ha hn
    obtain ⟨b0, b1, b2, b3, b4⟩ := hSall.out _ HKr.out
    go_wp2_with fail
    refine (onew_yes p session _ HM.out hs).mono ?_
    rintro e w7b ⟨g, rfl, HG, HK4⟩
    have e1 : p.n.toNat = n := by rw [HN.out]; simp
    rw [e1] at HG
    have HKg := hid (HKr.out.fresh HK4)
    have HG := hid HG
    have hrow := hid (show ∀ k, k < n → (ofN p session k).Pairwise (· < ·) ∧ ((ofN p session k).length : Int) = p.q ∧ (∀ y ∈ ofN p session k, 0 ≤ y ∧ y < (a : Int)) from fun k hk => ⟨someN_rising _ _ _, ofN_len p session k HM.out, fun y hy => by have := someN_below _ _ _ y hy; rw [HA.out] at this; exact this⟩)
    have hmem := hid (show ∀ (j : Nat) (x : Int), x ∈ gl (hasN p session n) j → ∃ i : Nat, i < n ∧ x = (i : Int) ∧ (j : Int) ∈ ofN p session i from fun j x hx => (mem_hasN p session HM.out n x j).1 hx)
    have hsum := hid (show (sumL (hasN p session n) : Int) = p.n * p.q by rw [sumL_hasN p session HM.out, HN.out])
    have hgo := hid (show ∀ k, k < n → getN (ofsN p session n) (k : Int) = ofN p session k from fun k hk => by
      rw [getN_nat (by rw [ofsN_length]; omega), gl_eq _ _ (by rw [ofsN_length]; omega)]
      simp [ofsN])
    have hlo := hid (show ((ofsN p session n).length : Int) = p.n by rw [ofsN_length, HN.out])
    have hlh := hid (show ((hasN p session n).length : Int) = (a : Int) by rw [hasN_length, HA.out]; rfl)
    have hlhn := hid (show (hasN p session n).length = a by rw [hasN_length, HA.out]; rfl)
    have hgen := hid (show hasN p session p.n.toNat = hasN p session n by rw [e1])
    have hbo := hid (fun j => ofN_length p session j HM.out)
    have hbh := hid (fun j => Nat.le_trans (hasN_bound p session HM.out n j) (show 8 * n ≤ 480 by omega))
    clear e1 HKr b0 b1 b2 b3 b4
    generalize ofsN p session n = ofs at *
    generalize hasN p session n = has at *
    have hSb := hid (show ∀ w', Keeps NoB w7b w' → (w'.cell? ⟨pb, 0, none⟩ = some (.int .i64 p.n) ∧ w'.cell? ⟨pb, 1, none⟩ = some (.int .i64 p.b) ∧ w'.cell? ⟨pb, 2, none⟩ = some (.int .i64 p.q) ∧ w'.cell? ⟨pb, 3, none⟩ = some (.int .i64 p.eps) ∧ w'.cell? ⟨pb, 4, none⟩ = some (.int .i64 p.f)) from fun w' hk => hSall.out w' (HKg.out.fresh hk))
    have HK6 := hid (HK6.out.fresh HKg.out)
    clear hSall HKg hA
    have hSall := hSb
    clear hSb
    have HKr := hid (Keeps.refl NoB w7b)
    obtain ⟨b0, b1, b2, b3, b4⟩ := hSall.out _ HKr.out
    generalize ofN p session = row at *
    have hmm := @run_makeMap Try.prog
    obtain ⟨m0, _, _, _, _⟩ := hSall.out _ ((Keeps.refl NoB w7b).alloc (.map #[] 0))
    go_wp2_with fail
    obtain ⟨mb, hmb⟩ : ∃ mb, mb = w7b.heap.size := ⟨_, rfl⟩
    have HC0 := hid (CntAt.made w7b row)
    rw [← hmb] at HC0 ⊢
    have hmle : w7b.heap.size ≤ mb := by omega
    have HKm := hid ((Keeps.refl NoB w7b).alloc (.map #[] 0))
    clear hmb m0
    go_loopw [38] (fun v38 wr => ∃ (k m : Nat), k ≤ n ∧ v38 = .int .i64 k ∧ m ≤ 8 * k ∧ Hid (CntAt wr mb m (inN row k 0)) ∧ Hid (Keeps NoB w7b wr)) (fun v38 _ => n - (intOf v38).toNat)
    case atStart => exact ⟨0, 0, Nat.zero_le _, rfl, Nat.le_refl _, HC0.out, HKm.out⟩
    case round =>
      obtain ⟨k, m, hk, rfl, hm, HC, HKr⟩ := hrel
      clear b0 b1 b2 b3 b4
      obtain ⟨b0, b1, b2, b3, b4⟩ := hSall.out _ HKr.out
      by_cases hlt : k < n
      · have d0 : decide ((k : Int) < p.n) = true := decide_eq_true (by rw [HN.out]; omega)
        obtain ⟨hr1, hr2, hr3⟩ := hrow.out k hlt
        have hgk := hgo.out k hlt
        have hin := inN_next row k
        have hio := inN_old row k
        have his := inN_step row k
        generalize hl : row k = l at *
        have hgk := hid hgk
        have hr1 := hid hr1
        have hr2 := hid hr2
        have hr3 := hid hr3
        have hin := hid hin
        have hio := hid hio
        have his := hid his
        have hl := hid hl
        have hq8 : l.length ≤ 8 := by have := hr2.out; have := HM.out.2.2.2.2.2.1; omega
        go_wp2_with fail
        refine (gOf_calls g ofs has k _ (HG.out.kept HKr.out) (by omega) (by omega)).mono ?_
        rintro e w8 ⟨v8, rfl, hown8, HK8⟩
        rw [hgk.out] at hown8
        have hb8 := hid (fun b hb => (hown8.base_le b hb).1)
        obtain ⟨A8, c8, rfl, _, hat8⟩ := hown8.reads
        have hat8 := hid hat8
        have HC8 := hid (HC.out.keeps HK8 (fun h => h))
        have hmr := hid (show mb < _ from (let ⟨D, ⟨es, cl, hh, _⟩, _⟩ := HC.out; lt_of_heap hh))
        have HK8r := hid (HKr.out.fresh HK8)
        clear hown8 HC b0 b1 b2 b3 b4 HK8
        go_wp2_with fail
        go_loopw [46] (fun v46 wr' => ∃ (q m' : Nat), q ≤ l.length ∧ v46 = .int .i64 q ∧ m' ≤ 8 * k + q ∧ Hid (CntAt wr' mb m' (inN row k q)) ∧ Hid (Keeps (· = mb) w8 wr')) (fun v46 _ => l.length - (intOf v46).toNat)
        case atStart => exact ⟨0, m, Nat.zero_le _, rfl, by omega, HC8.out, hid (Keeps.refl _ _)⟩
        case round =>
          obtain ⟨q, m', hq, rfl, hm', HC, HKq⟩ := hrel
          have HKs := hid (HK8r.out.then HKq.out (fun i (e : i = mb) hi => by omega))
          by_cases hlt2 : q < l.length
          · obtain ⟨b8, off8, rfl, hc8⟩ := hat8.out.get (by omega)
            have hne8 : ¬ b8 = mb := by have h1 := hb8.out b8 (by simp [Value.ownBlock]); have h2 := hmr.out; omega
            have hcells := hid (fun j hj => HKq.out.cell (hc8 j hj) hne8)
            have hx := hr3.out (gi l q) (gi_mem _ _ hlt2)
            have hold := hio.out q hr1.out hlt2
            have hwk := WalkArith.wf_i64 (n := (k : Int)) (by omega)
            have hwx := WalkArith.wf_i64 (n := gi l q) (by omega)
            have hask := (CntAt.ask (w := wr.drew) HC.out hwk hwx).1
            obtain ⟨v0, st, w1, hent, hask1, w2, hsto, HK2, HC2⟩ := CntAt.put (w := wr.drew) HC.out hwk hwx (by unfold maxLen; omega) 1 (by decide)
            rw [hold] at hask hask1
            have hsto : (Instr.entryStore 77 (.map (some mb)) (.int .i64 (st : Int)) (.int .i64 1)).run Try.prog w1 = .ok () w2 := hsto
            have hw1 : IntKind.i64.wrap (0 + 1) = 1 := by decide
            have hw2 : IntKind.i64.wrap 1 = 1 := by decide
            have cq := hcells.out q hlt2
            have HK2 := hid HK2
            have HC2 := hid HC2
            obtain ⟨x, HX⟩ : ∃ x, gi l q = x := ⟨_, rfl⟩
            rw [HX] at cq hx hwx hask hent hask1 HC2 hold
            have HX := hid HX
            have q0 : (0 : Int) ≤ (q : Int) := by omega
            have q1 : (q : Int) < (l.length : Int) := by omega
            have hstep := hid (show (fun x' y' => if x' = (k : Int) ∧ y' = x then 1 else inN row k q x' y') = inN row k (q + 1) by funext x' y'; rw [his.out q hlt2 x' y', HX.out])
            clear hold hx
            by_cases hq0 : 0 < q
            · have hlt3 := hid (show gi l (q - 1) < x by
                have := List.pairwise_iff_getElem.1 hr1.out (q - 1) q (by omega) hlt2 (by omega)
                rw [← HX.out, gi_eq _ _ hlt2, gi_eq l (q - 1) (by omega)]; exact this)
              have cp := hcells.out (q - 1) (by omega)
              have cp2 := HK2.out.cell (a := ⟨b8, off8 + (q - 1), none⟩) cp hne8
              generalize gi l (q - 1) = y at *
              have hxy := hlt3.out
              have dq : decide ((0 : Int) < (q : Int)) = true := decide_eq_true (by omega)
              have dx : decide (x ≤ y) = false := decide_eq_false (by omega)
              clear cp
              go_wp2_with fail
              go_region
              all_goals go_wp2_with fail
              all_goals go_roundw
              case rel => exact ⟨q + 1, m' + 1, by omega, by go_num, by omega, hid (by rw [← hstep.out]; exact HC2.out), hid (HKq.out.drew.then HK2.out (fun i h _ => h))⟩
              case measure => simp [intOf]; omega
            · have dq : decide ((0 : Int) < (q : Int)) = false := decide_eq_false (by omega)
              go_wp2_with fail
              go_region
              all_goals go_wp2_with fail
              all_goals go_roundw
              case rel => exact ⟨q + 1, m' + 1, by omega, by go_num, by omega, hid (by rw [← hstep.out]; exact HC2.out), hid (HKq.out.drew.then HK2.out (fun i h _ => h))⟩
              case measure => simp [intOf]; omega
          · obtain rfl : q = l.length := by omega
            obtain ⟨b0, b1, b2, b3, b4⟩ := hSall.out _ HKs.out
            have dne : (((l.length : Nat) : Int) != p.q) = false := by rw [hr2.out]; simp
            go_wp2_with fail
            go_roundw
            case rel => exact ⟨k + 1, m', by omega, by go_num, by omega, hid (by rw [← hin.out]; exact HC.out), HKs⟩
            case measure => simp [intOf]; omega
      · obtain rfl : k = n := by omega
        have d0 : decide ((k : Int) < p.n) = false := decide_eq_false (by rw [HN.out]; omega)
        go_wp2_with fail
        refine (gAuxiliary_calls g ofs has _ (HG.out.kept HKr.out)).mono ?_
        rintro e wc ⟨rfl, rfl⟩
        rw [hlh.out]
        clear b0 b1 b2 b3 b4
        have hone := hid (show ∀ (j : Nat) (x : Int), x ∈ gl has j → 0 ≤ x ∧ x ≤ 60 ∧ inN row k 0 x (j : Int) = 1 from fun j x hx => by
          obtain ⟨i, h1, h2, h3⟩ := hmem.out j x hx
          subst h2
          exact ⟨by omega, by omega, inN_one row k i j h1 h3⟩)
        have hlenj := hid (show ∀ j, j < a → (gl has j).length ≤ 480 from fun j hj => Nat.le_trans (hbh.out j) (by omega))
        have hst := hid (show ∀ j, j < a → sumL (has.take (j + 1)) = sumL (has.take j) + (gl has j).length from fun j hj => sumL_take has j (by rw [hlhn.out]; exact hj))
        have hfull := hid (show (sumL (has.take a) : Int) = p.n * p.q by rw [List.take_of_length_le (by rw [hlhn.out]; exact Nat.le_refl _)]; exact hsum.out)
        have hbd := hid (show ∀ j, j ≤ a → sumL (has.take j) ≤ 480 * j from fun j => by
          induction j with
          | zero => intro _; simp [sumL]
          | succ j ih => intro hj; have := hst.out j (by omega); have := ih (by omega); have := hlenj.out j (by omega); omega)
        have hgk := hid (show ∀ j, j < a → getN has (j : Int) = gl has j from fun j hj => getN_nat (by rw [hlhn.out]; exact hj))
        clear hmem hrow d0
        go_wp2_with fail
        go_loopw [12, 79] (fun v12 v79 wr => ∃ j : Nat, j ≤ a ∧ v79 = .int .i64 j ∧ v12 = .int .i64 (sumL (has.take j)) ∧ Hid (Keeps NoB wc wr)) (fun _ v79 _ => a - (intOf v79).toNat)
        case atStart => exact ⟨0, Nat.zero_le _, rfl, rfl, hid (Keeps.refl _ _)⟩
        case round =>
          obtain ⟨j, hj, rfl, rfl, HKj⟩ := hrel
          by_cases hlt : j < a
          · have hgj := hid (hgk.out j hlt)
            have hbj := hbd.out j hj
            have hlj := hlenj.out j hlt
            have hsj := hid (hst.out j hlt)
            have hoj := hid (hone.out j)
            generalize gl has j = l at *
            generalize hS : sumL (has.take j) = S at *
            have hS := hid hS
            go_wp2_with fail
            refine (gHas_calls g ofs has j _ (HG.out.kept (HKr.out.fresh HKj.out)) (by omega) (by omega)).mono ?_
            rintro e w8 ⟨v8, rfl, hown8, HK8⟩
            rw [hgj.out] at hown8
            obtain ⟨A8, c8, rfl, _, hat8⟩ := hown8.reads
            have hat8 := hid hat8
            have HK8r := hid (HKj.out.fresh HK8)
            have HC8 := hid (HC.out.keeps HK8r.out (fun h => h))
            clear hown8
            go_wp2_with fail
            go_loop [12, 86] (fun v12 v86 => ∃ q : Nat, q ≤ l.length ∧ v86 = .int .i64 q ∧ v12 = .int .i64 ((S : Int) + (q : Int))) (fun _ v86 => l.length - (intOf v86).toNat)
            case atStart => exact ⟨0, Nat.zero_le _, rfl, by simp⟩
            case round =>
              obtain ⟨q, hq, rfl, rfl⟩ := hrel
              by_cases hlt2 : q < l.length
              · obtain ⟨b8, off8, rfl, hc8⟩ := hat8.out.get (by omega)
                have cq := hc8 q hlt2
                obtain ⟨hx0, hx1, hx2⟩ := hoj.out (gi l q) (gi_mem _ _ hlt2)
                have hask := (HC8.out.ask (WalkArith.wf_i64 (n := gi l q) (by omega)) (WalkArith.wf_i64 (n := (j : Int)) (by omega))).1
                rw [hx2] at hask
                generalize gi l q = x at *
                have q0 : (0 : Int) ≤ (q : Int) := by omega
                have q1 : (q : Int) < (l.length : Int) := by omega
                clear hc8 hx2
                go_wp2_with fail
                go_round
                case rel => exact ⟨q + 1, by omega, by go_num, by go_num⟩
                case measure => simp [intOf]; omega
              · obtain rfl : q = l.length := by omega
                go_wp2_with fail
                go_roundw
                case rel => exact ⟨j + 1, by omega, by go_num, by rw [hsj.out]; go_num, HK8r⟩
                case measure => simp [intOf]; omega
          · obtain rfl : j = a := by omega
            obtain ⟨b0, b1, b2, b3, b4⟩ := hSall.out _ (HKr.out.fresh HKj.out)
            have hpq : 0 ≤ p.n * p.q ∧ p.n * p.q ≤ 480 := by have := hbd.out j hj; have := hfull.out; have := mul_bounds (a := p.n) (b := p.q) (A := 60) (B := 8) (by omega) (by omega) (by have := HM.out.2.2.2.2.1; omega) (by have := HM.out.2.2.2.2.2.1; omega); omega
            have hf := hid hfull.out
            generalize sumL (has.take j) = S at *
            have hf := hf
            have deq : ((S : Int) == p.n * p.q) = true := by rw [hf.out]; simp
            go_wp2_with fail
            go_ret
            exact ⟨rfl, HK6.out.fresh (HKr.out.fresh HKj.out)⟩
  · rw [mayB_false hp]
    go_wp2_with fail
    go_ret
    exact ⟨rfl, HK6.out.fresh HKr.out⟩
end Go.Proofs.Ytdjfacdlcnnjnaa
