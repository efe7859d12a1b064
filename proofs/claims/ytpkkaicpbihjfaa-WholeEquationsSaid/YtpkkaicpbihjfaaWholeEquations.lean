/- What is sent holds: the walk of the law WholeEquations. Conditions: numbers are of their kinds. -/
import Derived.Test.YtpkkaicpbihjfaaG8
import Derived.Test.YtpkkaicpbihjfaaEmitNew
import Derived.Test.YtpkkaicpbihjfaaLaw11Cap
import Derived.Test.YtpkkaicpbihjfaaEqsOwn
import Derived.Test.YtpkkaicpbihjfaaAgrees
import Derived.Test.YtpkkaicpbihjfaaSpeaks15
import Derived.Test.YtpkkaicpbihjfaaG3
import Derived.BigQuiet
set_option linter.unusedVariables false
set_option linter.unusedSimpArgs false
namespace Go.Proofs.Ytpkkaicpbihjfaa
open Go.RowKit
attribute [local go_sem ↓] Go.wp_at_zero Go.wp_at_succ

theorem odd_w : oddN [1, 2] = [1, 2] := by decide
theorem sum_w : sumB 1 [[1], [1]] = [0] := by decide
theorem aux_small {p : Par} (hm : p.may) (hn : p.n ≤ 60) : auxN p ≤ 300 := by
  have h := prod_bounds hm
  obtain ⟨h1, h2, h3, h4, h5, h6, h7, h8, _⟩ := hm
  have h3 := mul_bounds h.2.1.1 h.2.1.2 (show 0 ≤ p.n by omega) hn
  unfold auxN; omega
theorem ofs_sum_le {K : Nat} : ∀ {es : List EqV}, (∀ e ∈ es, e.of.length ≤ K) → (ofsE es).length ≤ es.length * K
  | [], _ => by simp [ofsE]
  | e :: r, h => by
    have ih := ofs_sum_le (es := r) (fun x hx => h x (List.mem_cons_of_mem _ hx))
    have h1 := h e (List.mem_cons_self ..)
    show (e.of ++ ofsE r).length ≤ (r.length + 1) * K
    rw [List.length_append, Nat.add_mul]
    omega
theorem eqsW_small {p : Par} (hm : p.may) (session : Nat) (obj : List UInt8) (k : Nat) (ids : List Nat) (hn : p.n ≤ 60) (hf : p.f ≤ 200) : ∀ e ∈ eqsW p session obj k ids, e.of.length ≤ 500 := fun e he => by
  rcases List.mem_append.1 he with h | h
  · obtain ⟨j, hj, rfl⟩ := List.mem_map.1 h
    have hb := hasN_bound p session hm p.n.toNat j
    show (gl (hasN p session p.n.toNat) j ++ [p.n + (j : Int)]).length ≤ _
    rw [List.length_append]
    simp
    omega
  · obtain ⟨id, _, rfl⟩ := List.mem_map.1 h
    have := blkN_length hm session id
    show (blkN p session id).length ≤ _
    omega
theorem outE_of (p : Par) (session k : Nat) (hn : 1 ≤ p.n) (hk : k < (auxN p).toNat) : eqN (ofsN p session p.n.toNat) (hasN p session p.n.toNat) (k : Int) = (outE p session k).of := by
  unfold eqN
  rw [if_pos (by rw [hasN_length]; omega), ofsN_length, Int.toNat_natCast, show ((p.n.toNat : Nat) : Int) = p.n by omega]
  rfl
theorem IntsAt.some {w : World} {A : Option Addr} {xs : List Int} (h : IntsAt w .i64 A xs) (h0 : 0 < xs.length) : A ≠ none := by
  obtain ⟨b, off, e, _⟩ := h.get h0
  rw [e]; intro h; cases h
theorem IntsAt.block_lt {w : World} {A : Option Addr} {xs : List Int} (h : IntsAt w .i64 A xs) : IntsIn (fun b => b < w.heap.size) w A xs := ⟨h, fun b off e h0 => h.lt b off e h0⟩

set_option maxHeartbeats 4000000 in
set_option maxRecDepth 20000 in
theorem wholeEquations_walk (p : Par) (session : Nat) (obj : List UInt8) (A : Option Addr) (c : Nat) (ids : List Nat) (D : Option Addr) (d : Nat) (w : World) (hwf : p.wf) (hs : session < 18446744073709551616) (ho : BytesIn (fun _ => True) w A obj) (hcap : obj.length ≤ c) (hids : NatsAt w D ids) :
    Calls Try.prog 10 #[.agg #[.int .i64 p.n, .int .i64 p.b, .int .i64 p.q, .int .i64 p.eps, .int .i64 p.f, .int .u64 (session : Int), .slice A obj.length c, .slice D ids.length d]] w fun e w' => e = .returned (.bool true) ∧ Keeps NoB w w' := by
  have hu := Try.underlying23
  have huh := Try.underlying53
  have hup := Try.underlying55
  have hue := Try.underlying81
  have hui := Try.underlying25
  have hur := Try.underlying82
  have HO := hid ho
  have HWF := hid hwf
  have HI := hid hids
  have hlen := ho.len
  have hlen2 := hids.1.len
  rw [List.length_map] at hlen2
  obtain ⟨L, hL⟩ : ∃ L, obj.length = L := ⟨_, rfl⟩
  obtain ⟨M, hM⟩ : ∃ M, ids.length = M := ⟨_, rfl⟩
  have HL := hid hL
  have HM := hid hM
  rw [hL] at hcap hlen ⊢
  rw [hM] at hlen2 ⊢
  have HCAP := hid hcap
  clear ho hwf hids hL hM hlen hcap hlen2
  have hbox := hid (heap_alloc_new w (.cells #[.int .i64 p.n, .int .i64 p.b, .int .i64 p.q, .int .i64 p.eps, .int .i64 p.f, .int .u64 (session : Int), .slice A L c, .slice D M d] 45))
  have HKa := hid ((Keeps.refl NoB w).alloc (.cells #[.int .i64 p.n, .int .i64 p.b, .int .i64 p.q, .int .i64 p.eps, .int .i64 p.f, .int .u64 (session : Int), .slice A L c, .slice D M d] 45))
  obtain ⟨wa, hwa⟩ : ∃ wa, w.alloc (.cells #[.int .i64 p.n, .int .i64 p.b, .int .i64 p.q, .int .i64 p.eps, .int .i64 p.f, .int .u64 (session : Int), .slice A L c, .slice D M d] 45) = wa := ⟨_, rfl⟩
  rw [hwa] at hbox HKa
  obtain ⟨pb, hpb⟩ : ∃ pb, w.heap.size = pb := ⟨_, rfl⟩
  rw [hpb] at hbox
  have hsa : wa.heap.size = pb + 1 := by rw [← hwa, World.size_alloc, hpb]
  go_enter Try.func10, Try.ntmps10
  go_wp2_with fail
  obtain ⟨qb, hqb⟩ : ∃ q, pb + 1 = q := ⟨_, rfl⟩
  rw [hqb] at hsa ⊢
  clear hqb
  obtain ⟨os, hos⟩ : ∃ os : List Obj, os = [.cells #[.int .i64 1] 3, .cells #[.int .u8 1] 5, .cells #[.int .i64 2] 3, .cells #[.int .u8 1] 5, .cells #[.slice (some ⟨qb, 0, none⟩) 1 1, .slice (some ⟨qb + 1, 0, none⟩) 1 1, .slice (some ⟨qb + 1 + 1, 0, none⟩) 1 1, .slice (some ⟨qb + 1 + 1 + 1, 0, none⟩) 1 1] 75] := ⟨_, rfl⟩
  have hk5 := keeps_allocs os wa
  have hh := heap_allocs os wa
  rw [hsa] at hh
  have g0 := hh 0 (by rw [hos]; simp)
  have g1 := hh 1 (by rw [hos]; simp)
  have g2 := hh 2 (by rw [hos]; simp)
  have g3 := hh 3 (by rw [hos]; simp)
  have g4 := hh 4 (by rw [hos]; simp)
  clear hh
  subst hos
  simp only [List.foldl_cons, List.foldl_nil, List.getElem?_cons_zero, List.getElem?_cons_succ, Nat.add_zero] at g0 g1 g2 g3 g4 hk5
  clear hwa hpb
  generalize (World.alloc _ _ : World) = w1 at *
  have HE := hid (eqs_two (fun _ => True) w1 (qb + 4) (qb) (qb + 1) (qb + 2) (qb + 3) ⟨[1], [1]⟩ ⟨[2], [1]⟩ 75 (fun _ => trivial) g4 (IntsIn.ofCells [1] g0 (by simp) trivial) (BytesIn.ofCells [1] g1 (by simp) trivial) (IntsIn.ofCells [2] g2 (by simp) trivial) (BytesIn.ofCells [1] g3 (by simp) trivial))
  have HCB := hid (fun (W : World) (hW : Keeps NoB w1 W) => cells8' ((hk5.fresh hW).heap hbox.out (fun h => h)))
  have HK1 := hid (HKa.out.fresh hk5)
  clear g0 g1 g2 g3 g4 hk5 hsa hbox
  refine (eadd_yes 1 [⟨[1], [1]⟩, ⟨[2], [1]⟩] _ 2 _ w1 (by omega) HE.out (by simp) (by decide) (by decide)).mono ?_
  rintro e w2 ⟨v1, v2, rfl, ho1, ho2, hk2⟩
  rw [show ofsE [⟨[1], [1]⟩, ⟨[2], [1]⟩] = [1, 2] from rfl, odd_w] at ho1
  rw [show valsE [⟨[1], [1]⟩, ⟨[2], [1]⟩] = [[1], [1]] from rfl, sum_w] at ho2
  obtain ⟨A1, c1, rfl, _, hat1⟩ := ho1.reads
  obtain ⟨A2, c2, rfl, _, hA2, hat2⟩ := OwnB.reads ho2
  have hka := (Keeps.refl NoB w2).alloc (.cells #[.slice A1 2 c1, .slice A2 1 c2] 75)
  have HK2 := hid (HK1.out.fresh (hk2.fresh hka))
  have HCB2 := hid (fun (W : World) (hW : Keeps NoB (w2.alloc (.cells #[.slice A1 2 c1, .slice A2 1 c2] 75)) W) => HCB.out W ((hk2.fresh hka).fresh hW))
  clear ho1 ho2 hat1 hat2 hk2 hka HE HKa HCB hA2
  have HMA := hid (fun (W : World) => may_calls p W)
  unfold Par.val at HMA
  obtain ⟨b0, b1, b2, b3, b4, b5, b6, b7⟩ := HCB2.out _ (Keeps.refl _ _)
  go_wp2_with fail
  refine (HMA.out _).mono ?_
  rintro e w3 ⟨rfl, hk3⟩
  have HK3 := hid (HK2.out.fresh hk3)
  have HCB3 := hid (fun (W : World) (hW : Keeps NoB w3 W) => HCB2.out W (hk3.fresh hW))
  clear b0 b1 b2 b3 b4 b5 b6 b7 hk3 HCB2 HK2 HMA HK1
  obtain ⟨b0, b1, b2, b3, b4, b5, b6, b7⟩ := HCB3.out w3 (Keeps.refl _ _)
  by_cases hm : p.may
  · rw [mayB_true hm]
    obtain ⟨N, B0, e1, e2, e3, e4, e5, e6, e7, e8, hNB, hNB2⟩ := par_sizes hm
    have hNBi : p.n * p.b = ((N * B0 : Nat) : Int) := hNB
    generalize N * B0 = Q at *
    clear e1 e2 e3 e4 e5 e6 e7 e8 hNB
    have m0 : (0 : Int) ≤ (Q : Int) := by omega
    have m1 : (Q : Int) ≤ 68718428160 := by omega
    have HW1 := hid (show wrap64 (Q : Int) = (Q : Int) from IntWalk.wrap64_in _ ⟨by omega, by omega⟩)
    by_cases hg0 : 30 < p.n
    · have dg0 : decide (30 < p.n) = true := decide_eq_true hg0
      have hw1 := HW1.out
      clear hm hNB2
      go_wp2_with fail
      go_ret
      exact ⟨rfl, HK3.out⟩
    · have dg0 : decide (30 < p.n) = false := decide_eq_false hg0
      by_cases hg1 : 40 < p.b
      · have dg1 : decide (40 < p.b) = true := decide_eq_true hg1
        have hw1 := HW1.out
        clear hm hNB2
        go_wp2_with fail
        go_ret
        exact ⟨rfl, HK3.out⟩
      · have dg1 : decide (40 < p.b) = false := decide_eq_false hg1
        by_cases hg2 : 200 < p.f
        · have dg2 : decide (200 < p.f) = true := decide_eq_true hg2
          have hw1 := HW1.out
          clear hm hNB2
          go_wp2_with fail
          go_ret
          exact ⟨rfl, HK3.out⟩
        · have dg2 : decide (200 < p.f) = false := decide_eq_false hg2
          by_cases hg3 : Q < L
          · have dg3 : decide ((Q : Int) < (L : Int)) = true := decide_eq_true (by omega)
            have dg3n : decide (Q < L) = true := decide_eq_true hg3
            have hw1 := HW1.out
            clear hm hNB2
            go_wp2_with fail
            go_ret
            exact ⟨rfl, HK3.out⟩
          · have dg3 : decide ((Q : Int) < (L : Int)) = false := decide_eq_false (by omega)
            have dg3n : decide (Q < L) = false := decide_eq_false hg3
            by_cases hg4 : 30 < M
            · have dg4 : decide ((30 : Int) < (M : Int)) = true := decide_eq_true (by omega)
              have dg4n : decide (30 < M) = true := decide_eq_true hg4
              have hw1 := HW1.out
              clear hm hNB2
              go_wp2_with fail
              go_ret
              exact ⟨rfl, HK3.out⟩
            · have dg4 : decide ((30 : Int) < (M : Int)) = false := decide_eq_false (by omega)
              have dg4n : decide (30 < M) = false := decide_eq_false hg4
              have hle : (obj.length : Int) ≤ p.n * p.b := by rw [hNBi, HL.out]; omega
              have HN := hid (fun (W : World) (hW : Keeps NoB w3 W) => emitNew_yes p session obj A c (fun _ => True) W hm hs (HO.out.kept (HK3.out.fresh hW)) (by rw [HL.out]; exact HCAP.out) hle)
              have HCY := hid (fun (W : World) (hW : Keeps NoB w3 W) => comp_yes p session obj A c (fun _ => True) W hm hs (HO.out.kept (HK3.out.fresh hW)) (by rw [HL.out]; exact HCAP.out) hle)
              have HON := hid (fun (W : World) => onew_yes p session W hm hs)
              rw [HL.out] at HN HCY
              unfold Par.val at HN HCY HON
              have HM5 := hid (show p.n ≤ 60 ∧ p.f ≤ 200 ∧ 1 ≤ p.b ∧ p.b ≤ 60 ∧ 1 ≤ p.n from ⟨by omega, by omega, hm.2.2.1, by omega, hm.1⟩)
              have HMY := hid hm
              have HM30 := hid (show M ≤ 30 by omega)
              have hw1 := HW1.out
              clear hle hNB2 hg0 hg1 hg2 hg3 hg4 hm
              go_wp2_with fail
              clear hNBi m0 m1 hw1 dg0 dg1 dg2 dg3 dg3n dg4 dg4n
              refine (HN.out w3 (Keeps.refl _ _)).mono ?_
              rintro e w4 ⟨en, rfl, hen, hk4⟩
              have HE4 := hid hen
              have HK34 := hid hk4
              clear b0 b1 b2 b3 b4 b5 b6 b7 hen hk4 HN
              obtain ⟨b0, b1, b2, b3, b4, b5, b6, b7⟩ := HCB3.out w4 HK34.out
              go_wp2_with fail
              refine (HCY.out w4 HK34.out).mono ?_
              rintro e w5 ⟨v5, rfl, ho5, hk5⟩
              obtain ⟨A7, c7, hv5, _, _, hrows⟩ := ho5.reads
              have HRW := hid (hrows.mono (R' := fun _ => True) (fun _ _ _ => trivial))
              have HK35 := hid (HK34.out.fresh hk5)
              have HE5 := hid (HE4.out.kept hk5)
              clear b0 b1 b2 b3 b4 b5 b6 b7 ho5 hk5 hrows HCY HE4 HK34
              obtain ⟨m, hmm⟩ : ∃ m, (compN p session obj).length = m := ⟨_, rfl⟩
              have HMM := hid hmm
              rw [hmm] at hv5
              subst hv5
              obtain ⟨b0, b1, b2, b3, b4, b5, b6, b7⟩ := HCB3.out w5 HK35.out
              go_wp2_with fail
              refine (HON.out w5).mono ?_
              rintro e w6 ⟨g, rfl, hg, hk6⟩
              have HG := hid hg
              have HR6 := hid (RowsIn.kept HRW.out hk6)
              have HE6 := hid (HE5.out.kept hk6)
              have HK36 := hid (HK35.out.fresh hk6)
              have HK6 := hid (HK3.out.fresh HK36.out)
              have HCB6 := hid (fun (W : World) (hW : Keeps NoB w6 W) => HCB3.out W (HK36.out.fresh hW))
              clear b0 b1 b2 b3 b4 b5 b6 b7 hg hk6 HON HRW HE5 HCB3 HK35 HK36 hmm
              have HAX := hid (aux_small HMY.out HM5.out.1)
              have HMB := hid (show m ≤ 1000 by rw [← HMM.out, compN_length']; have := HAX.out; have := HM5.out; omega)
              have HAX1 := hid (auxN_bounds HMY.out).1
              obtain ⟨a, ha⟩ : ∃ a, (hasN p session p.n.toNat).length = a := ⟨_, rfl⟩
              have haa : (auxN p).toNat = a := by rw [← ha, hasN_length]
              have HGA := hid (fun (W : World) (hW : Keeps NoB w6 W) => gAuxiliary_calls g (ofsN p session p.n.toNat) (hasN p session p.n.toNat) W (HG.out.kept hW))
              rw [ha] at HGA
              have ha300 : a ≤ 300 := by have := HAX.out; omega
              have HGE := hid (fun (k : Nat) (W : World) (hk : k < a) (hW : Keeps NoB w6 W) => gEquation_calls g (ofsN p session p.n.toNat) (hasN p session p.n.toNat) (k : Int) W (HG.out.kept hW) (by omega) (by omega))
              have HOE := hid (fun (k : Nat) (hk : k < a) => outE_of p session k HM5.out.2.2.2.2 (by rw [haa]; exact hk))
              have HGOOD := hid (fun (k : Nat) (l : List Nat) (hk : k ≤ a) => eqsW_good HMY.out session obj k (by rw [haa]; exact hk) l)
              have HSMALL := hid (fun (k : Nat) (l : List Nat) => eqsW_small HMY.out session obj k l HM5.out.1 HM5.out.2.1)
              have HCF := hid (comp_fitB HMY.out session obj)
              clear ha haa HG
              obtain ⟨b0, b1, b2, b3, b4, b5, b6, b7⟩ := HCB6.out w6 (Keeps.refl _ _)
              go_wp2_with fail
              refine (HGA.out w6 (Keeps.refl _ _)).mono ?_
              rintro e w7 ⟨rfl, hw7⟩
              subst hw7
              clear b0 b1 b2 b3 b4 b5 b6 b7 HGA
              obtain ⟨z, hz⟩ : ∃ z, w7.heap.size = z := ⟨_, rfl⟩
              have HZ := hid hz
              clear hz
              go_wp2_with fail
              go_loopw [11, 127] (fun v11 v127 wr => ∃ k : Nat, k ≤ a ∧ v127 = .int .i64 (k : Int) ∧ Hid (OwnEqs (fun _ => True) wr z v11 (eqsW p session obj k [])) ∧ Hid (Keeps NoB w7 wr)) (fun _ v127 _ => a - (intOf v127).toNat)
              case atStart => exact ⟨0, Nat.zero_le _, rfl, hid (OwnEqs.nil _ _ _), Keeps.refl _ _⟩
              case round =>
                obtain ⟨k, hk, rfl, HOW, HKr⟩ := hrel
                by_cases hlt : k < a
                · have HGEk := hid (fun (W : World) (hW : Keeps NoB w7 W) => HGE.out k W hlt hW)
                  rw [HOE.out k hlt] at HGEk
                  have HLen := hid (eqsW_length p session obj k [])
                  have HKd := hid ((Keeps.refl NoB wr).drew)
                  have HSZ := hid (show ∀ b, u11.ownBlock = some b → b < wr.heap.size from fun b e => (HOW.out.base_le b e).2)
                  obtain ⟨iu, i1, i2, i3, i4⟩ := info_parts info_u8
                  have HOL := hid (show (outE p session k).val = List.replicate p.b.toNat 0 from rfl)
                  obtain ⟨B, hB⟩ : ∃ B, p.b.toNat = B := ⟨_, rfl⟩
                  have HBi := hid (show p.b = (B : Int) by have := HM5.out; omega)
                  obtain ⟨nl, hnl⟩ : ∃ n, (outE p session k).of.length = n := ⟨_, rfl⟩
                  have HNL := hid hnl
                  have hB60 : B ≤ 60 := by have := HM5.out; omega
                  rw [hB] at HOL
                  have HMK := hid (fun (W : World) => run_make_full (P := Try.prog) (w := W) W.heap.size 25 5 iu (.int .u8 0) 1 hui i1 i2 i3 .i64 .i64 B (by rw [i4]; omega) (by unfold maxLen; omega) (Nat.le_refl _))
                  clear i1 i2 i3 i4 hB hnl
                  go_wp2_with fail
                  refine wp_region_tail 10 [([], [130], []), ([], [131], []), ([], [132], []), ([1, 2], [133], [131, 132]), ([], [134], []), ([4], [135], [134]), ([4, 5], [136], [134, 135]), ([4, 5, 6], [137], [134, 135, 136]), ([1, 2, 3, 4, 5, 6, 7], [138], [131, 132, 133, 134, 135, 136, 137]), ([1, 2, 3, 4, 5, 6, 7, 8], [139], [131, 132, 133, 134, 135, 136, 137, 138]), ([0, 1, 2, 3, 4, 5, 6, 7, 8, 9], [], [130, 131, 132, 133, 134, 135, 136, 137, 138, 139]), ([0, 1, 2, 3, 4, 5, 6, 7, 8, 9, 10], [], [130, 131, 132, 133, 134, 135, 136, 137, 138, 139, 140])] [130, 131, 132, 133, 134, 135, 136, 137, 138, 139] (Keeps NoB) (fun (i : Nat) => ([(fun rs__ U => (rs__.getD 0 undef) = u11), (fun rs__ U => (rs__.getD 0 undef) = Value.pointer (some ⟨g, 0, none⟩)), (fun rs__ U => (rs__.getD 0 undef) = Value.int .i64 (k : Int)), (fun rs__ U => ∃ A3 c3, (rs__.getD 0 undef) = Value.slice A3 nl c3 ∧ Hid (NumsIn (fun b => u11.ownBlock ≠ some b) U (Value.slice A3 nl c3) (outE p session k).of)), (fun rs__ U => (rs__.getD 0 undef) = Value.pointer (some ⟨pb, 0, none⟩)), (fun rs__ U => (rs__.getD 0 undef) = Value.pointer (some ⟨pb, 1, none⟩)), (fun rs__ U => (rs__.getD 0 undef) = Value.int .i64 (B : Int)), (fun rs__ U => ∃ g7, (rs__.getD 0 undef) = Value.slice (some ⟨g7, 0, none⟩) B B ∧ Hid (RowIn (fun b => u11.ownBlock ≠ some b) U (Value.slice (some ⟨g7, 0, none⟩) B B) (outE p session k).val)), (fun rs__ U => ∃ A3 c3 g7, (rs__.getD 0 undef) = Value.agg #[Value.slice A3 nl c3, Value.slice (some ⟨g7, 0, none⟩) B B] ∧ Hid (PairIn (fun b => u11.ownBlock ≠ some b) U (Value.slice A3 nl c3) (Value.slice (some ⟨g7, 0, none⟩) B B) (outE p session k))), (fun rs__ U => ∃ gb A3 c3 g7, (rs__.getD 0 undef) = Value.slice (some ⟨gb, 0, none⟩) 1 1 ∧ Hid (U.heap[gb]? = some (.cells #[Value.slice A3 nl c3, Value.slice (some ⟨g7, 0, none⟩) B B] 75 (0, 0)) ∧ PairIn (fun b => u11.ownBlock ≠ some b) U (Value.slice A3 nl c3) (Value.slice (some ⟨g7, 0, none⟩) B B) (outE p session k))), (fun _ _ => True), (fun _ _ => True)] : List (List Value → World → Prop)).getD i (fun _ _ => True)) (by kernel_rfl) (by kernel_rfl) (by kernel_rfl) (by kernel_rfl) (fun _ _ _ h1 h2 => h1.fresh h2) (fun _ => Keeps.refl _ _) (RL.cons ?s0 (RL.cons ?s1 (RL.cons ?s2 (RL.cons ?s3 (RL.cons ?s4 (RL.cons ?s5 (RL.cons ?s6 (RL.cons ?s7 (RL.cons ?s8 (RL.cons ?s9 (RL.nil _ _))))))))))) ?fin
                  case s0 =>
                    intro V wx hE hd
                    clear hd
                    intro K hK
                    simp only [rput, List.foldl_cons, List.foldl_nil, Act.put, List.setIfInBounds_toArray, List.set_cons_zero, List.set_cons_succ]
                    go_simp; (with_reducible refine hK.out _ _ ?_ ?_); exact rfl; exact ⟨Keeps.refl _ _, rfl⟩
                  case s1 =>
                    intro V wx hE hd
                    clear hd
                    intro K hK
                    simp only [rput, List.foldl_cons, List.foldl_nil, Act.put, List.setIfInBounds_toArray, List.set_cons_zero, List.set_cons_succ]
                    go_simp; (with_reducible refine hK.out _ _ ?_ ?_); exact rfl; exact ⟨Keeps.refl _ _, rfl⟩
                  case s2 =>
                    intro V wx hE hd
                    clear hd
                    intro K hK
                    simp only [rput, List.foldl_cons, List.foldl_nil, Act.put, List.setIfInBounds_toArray, List.set_cons_zero, List.set_cons_succ]
                    go_simp; (with_reducible refine hK.out _ _ ?_ ?_); exact rfl; exact ⟨Keeps.refl _ _, rfl⟩
                  case s3 =>
                    intro V wx hE hd
                    obtain ⟨u1, hb1, hu1, p1⟩ : ∃ U, Keeps NoB wr.drew U ∧ Keeps NoB U wx ∧ ((V 131) = Value.pointer (some ⟨g, 0, none⟩)) := hd 1 (by decide)
                    obtain ⟨u2, hb2, hu2, p2⟩ : ∃ U, Keeps NoB wr.drew U ∧ Keeps NoB U wx ∧ ((V 132) = Value.int .i64 (k : Int)) := hd 2 (by decide)
                    clear hd
                    clear hb1 hu1
                    clear hb2 hu2
                    intro K hK
                    simp only [rput, List.foldl_cons, List.foldl_nil, Act.put, List.setIfInBounds_toArray, List.set_cons_zero, List.set_cons_succ, p1, p2]
                    go_simp; refine (HGEk.out wx (HKr.out.fresh (HKd.out.fresh hE))).mono ?_; rintro e w9 ⟨v3, rfl, ho9, hk9⟩; obtain ⟨A3, c3, hv3, _⟩ := ho9.reads; rw [HNL.out] at hv3; subst hv3; (with_reducible refine hK.out _ _ ?_ ?_); exact rfl; exact ⟨hk9, A3, c3, rfl, hid (ho9.nums.mono (fun b _ hb e => by have h1 := (ho9.base_le b hb).1; have h2 := HSZ.out b e; have h3 := (HKd.out.fresh hE).size; omega))⟩
                  case s4 =>
                    intro V wx hE hd
                    clear hd
                    intro K hK
                    simp only [rput, List.foldl_cons, List.foldl_nil, Act.put, List.setIfInBounds_toArray, List.set_cons_zero, List.set_cons_succ]
                    go_simp; (with_reducible refine hK.out _ _ ?_ ?_); exact rfl; exact ⟨Keeps.refl _ _, rfl⟩
                  case s5 =>
                    intro V wx hE hd
                    obtain ⟨u4, hb4, hu4, p4⟩ : ∃ U, Keeps NoB wr.drew U ∧ Keeps NoB U wx ∧ ((V 134) = Value.pointer (some ⟨pb, 0, none⟩)) := hd 4 (by decide)
                    clear hd
                    clear hb4 hu4
                    intro K hK
                    simp only [rput, List.foldl_cons, List.foldl_nil, Act.put, List.setIfInBounds_toArray, List.set_cons_zero, List.set_cons_succ, p4]
                    go_simp; (with_reducible refine hK.out _ _ ?_ ?_); exact rfl; exact ⟨Keeps.refl _ _, rfl⟩
                  case s6 =>
                    intro V wx hE hd
                    obtain ⟨u5, hb5, hu5, p5⟩ : ∃ U, Keeps NoB wr.drew U ∧ Keeps NoB U wx ∧ ((V 135) = Value.pointer (some ⟨pb, 1, none⟩)) := hd 5 (by decide)
                    clear hd
                    clear hb5 hu5
                    intro K hK
                    simp only [rput, List.foldl_cons, List.foldl_nil, Act.put, List.setIfInBounds_toArray, List.set_cons_zero, List.set_cons_succ, p5]
                    obtain ⟨b0, b1, b2, b3, b4, b5, b6, b7⟩ := HCB6.out wx (HKr.out.fresh (HKd.out.fresh hE)); rw [HBi.out] at b1; go_simp; (with_reducible refine hK.out _ _ ?_ ?_); exact rfl; exact ⟨Keeps.refl _ _, rfl⟩
                  case s7 =>
                    intro V wx hE hd
                    obtain ⟨u6, hb6, hu6, p6⟩ : ∃ U, Keeps NoB wr.drew U ∧ Keeps NoB U wx ∧ ((V 136) = Value.int .i64 (B : Int)) := hd 6 (by decide)
                    clear hd
                    clear hb6 hu6
                    intro K hK
                    simp only [rput, List.foldl_cons, List.foldl_nil, Act.put, List.setIfInBounds_toArray, List.set_cons_zero, List.set_cons_succ, p6]
                    obtain ⟨wm, hrun, how, hgr⟩ := HMK.out wx; go_simp; (with_reducible refine hK.out _ _ ?_ ?_); exact rfl; exact ⟨Keeps.ofGrown hgr |>.mono (fun _ h => by cases h), _, rfl, hid (by rw [HOL.out]; exact (OwnB.row (OwnB.ofMake how)).mono (fun b _ hb e => by have h1 := (World.ownsRow.lt how b hb).1; have h2 := HSZ.out b e; have h3 := (HKd.out.fresh hE).size; omega))⟩
                  case s8 =>
                    intro V wx hE hd
                    obtain ⟨u3, hb3, hu3, p3⟩ : ∃ U, Keeps NoB wr.drew U ∧ Keeps NoB U wx ∧ (∃ A3 c3, (V 133) = Value.slice A3 nl c3 ∧ Hid (NumsIn (fun b => u11.ownBlock ≠ some b) U (Value.slice A3 nl c3) (outE p session k).of)) := hd 3 (by decide)
                    obtain ⟨u7, hb7, hu7, p7⟩ : ∃ U, Keeps NoB wr.drew U ∧ Keeps NoB U wx ∧ (∃ g7, (V 137) = Value.slice (some ⟨g7, 0, none⟩) B B ∧ Hid (RowIn (fun b => u11.ownBlock ≠ some b) U (Value.slice (some ⟨g7, 0, none⟩) B B) (outE p session k).val)) := hd 7 (by decide)
                    clear hd
                    obtain ⟨A3, c3, q3, hn3⟩ := p3
                    obtain ⟨g7, q7, hn7⟩ := p7
                    intro K hK
                    simp only [rput, List.foldl_cons, List.foldl_nil, Act.put, List.setIfInBounds_toArray, List.set_cons_zero, List.set_cons_succ, q3, q7]
                    go_simp; (with_reducible refine hK.out _ _ ?_ ?_); exact rfl; exact ⟨Keeps.refl _ _, A3, c3, g7, rfl, hid ⟨hn3.out.keeps hu3 (fun _ _ h => h), hn7.out.keeps hu7 (fun _ _ h => h)⟩⟩
                  case s9 =>
                    intro V wx hE hd
                    obtain ⟨u8, hb8, hu8, p8⟩ : ∃ U, Keeps NoB wr.drew U ∧ Keeps NoB U wx ∧ (∃ A3 c3 g7, (V 138) = Value.agg #[Value.slice A3 nl c3, Value.slice (some ⟨g7, 0, none⟩) B B] ∧ Hid (PairIn (fun b => u11.ownBlock ≠ some b) U (Value.slice A3 nl c3) (Value.slice (some ⟨g7, 0, none⟩) B B) (outE p session k))) := hd 8 (by decide)
                    clear hd
                    obtain ⟨A3, c3, g7, q8, hpp⟩ := p8
                    intro K hK
                    simp only [rput, List.foldl_cons, List.foldl_nil, Act.put, List.setIfInBounds_toArray, List.set_cons_zero, List.set_cons_succ, q8]
                    go_simp; (with_reducible refine hK.out _ _ ?_ ?_); exact rfl; exact ⟨(Keeps.refl _ _).alloc _, _, A3, c3, g7, rfl, hid ⟨heap_alloc_new _ _, (hpp.out.keeps hu8 (fun _ _ h => h)).kept ((Keeps.refl _ _).alloc _)⟩⟩
                  case fin =>
                    intro V wz hE hd
                    obtain ⟨u0, hb0, hu0, p0⟩ : ∃ U, Keeps NoB wr.drew U ∧ Keeps NoB U wz ∧ ((V 130) = u11) := hd 0 (by decide)
                    obtain ⟨u9, hb9, hu9, p9⟩ : ∃ U, Keeps NoB wr.drew U ∧ Keeps NoB U wz ∧ (∃ gb A3 c3 g7, (V 139) = Value.slice (some ⟨gb, 0, none⟩) 1 1 ∧ Hid (U.heap[gb]? = some (.cells #[Value.slice A3 nl c3, Value.slice (some ⟨g7, 0, none⟩) B B] 75 (0, 0)) ∧ PairIn (fun b => u11.ownBlock ≠ some b) U (Value.slice A3 nl c3) (Value.slice (some ⟨g7, 0, none⟩) B B) (outE p session k))) := hd 9 (by decide)
                    clear hd
                    clear hb0 hu0
                    obtain ⟨gb, A3, c3, g7, q9, hbx⟩ := p9
                    simp only [rput, List.foldl_cons, List.foldl_nil, Act.put, List.setIfInBounds_toArray, List.set_cons_zero, List.set_cons_succ, List.drop_succ_cons, List.drop_zero, p0, q9]
                    clear p0
                    obtain ⟨hgb, hpr⟩ := hbx.out
                    have HKz := hid (HKd.out.fresh hE)
                    have hgz := hu9.heap hgb (fun h => h)
                    have hc0 := (cells2 hgz).1
                    have hc1 := (cells2 hgz).2
                    have hprz := hpr.keeps hu9 (fun _ _ h => h)
                    have hownz := HOW.out.kept HKz.out
                    have hbz : z ≤ wz.heap.size := by have := HZ.out; have := (HKr.out.fresh HKz.out).size; omega
                    go_wp2_with (at_builtin; go_must (refine wpList_app1Eq rfl _ _ 81 rfl z hue _ (eqsW p session obj k []) rfl hownz gb 1 (.slice A3 nl c3) (.slice (some ⟨g7, 0, none⟩) B B) (outE p session k) rfl hc0 hc1 hprz k (by rw [HLen.out]; rfl) (by omega) hbz ?_); intro A5 c5 w9 hown9 hgr9 hlo9)
                    have HO9 := hid (show OwnEqs (fun _ => True) w9 z (.slice A5 (k + 1) c5) (eqsW p session obj (k + 1) []) by rw [eqsW_out]; exact hown9)
                    have HK9 := hid ((HKr.out.fresh HKz.out).grown hgr9 (fun i e hi => by have := hlo9 i e; have := HZ.out; omega))
                    go_roundw
                    case rel => exact ⟨k + 1, by omega, by go_num, HO9, HK9⟩
                    case measure => simp [intOf]; omega
                · obtain rfl : a = k := by omega
                  have HKw := hid HKr.out
                  obtain ⟨w8, hw8⟩ : ∃ x, x = wr := ⟨_, rfl⟩
                  rw [← hw8] at HOW HKw ⊢
                  obtain ⟨v8, hv8⟩ : ∃ x, x = u11 := ⟨_, rfl⟩
                  rw [← hv8] at HOW ⊢
                  clear hw8 hv8 HKr HGE HOE
                  have HE8 := hid (HE6.out.kept HKw.out)
                  have HCB8 := hid (fun (W : World) (hW : Keeps NoB w8 W) => HCB6.out W (HKw.out.fresh hW))
                  have HR8 := hid (RowsIn.kept HR6.out HKw.out)
                  have HK8 := hid (HK6.out.fresh HKw.out)
                  have HZ8 := hid (show z ≤ w8.heap.size by have := HZ.out; have := HKw.out.size; omega)
                  have HPK := hid (fun (id : Nat) (W : World) (hi : id < 18446744073709551616) (hW : Keeps NoB w7 W) => packet_calls en p session obj id W (HE6.out.kept hW) HMY.out hs hi)
                  rw [HL.out] at HPK
                  have HBL := hid (fun (id : Nat) (W : World) (hi : id < 18446744073709551616) => rblocks_cap p session id W HMY.out hs hi)
                  unfold Par.val at HBL
                  have HPL := hid (fun (id : Nat) => payN_length HMY.out session obj id)
                  have HBN := hid (fun (id : Nat) => (blkN_length HMY.out session id).1)
                  have HD := hid (show IntsAt w7 .u64 D (ids.map (fun n : Nat => (n : Int))) ∧ ∀ x ∈ ids, x < 18446744073709551616 from ⟨HI.out.1.kept HK6.out, HI.out.2⟩)
                  have HCHK := hid (fun (j : Nat) (hj : j < M) => eqsW_chk p session obj a ids j (by rw [HM.out]; exact hj))
                  have HLNJ := hid (fun (j : Nat) (hj : j ≤ M) => show (eqsW p session obj a (ids.take j)).length = a + j by rw [eqsW_length, List.length_take, HM.out]; omega)
                  obtain ⟨b0, b1, b2, b3, b4, b5, b6, b7⟩ := HCB8.out w8 (Keeps.refl _ _)
                  go_wp2_with fail
                  clear b0 b1 b2 b3 b4 b5 b6 b7
                  have hm30 := HM30.out
                  go_loopw [11, 145] (fun v11 v145 wr => ∃ j : Nat, j ≤ M ∧ v145 = .int .i64 (j : Int) ∧ Hid (OwnEqs (fun _ => True) wr z v11 (eqsW p session obj a (ids.take j))) ∧ Hid (Keeps NoB w7 wr)) (fun _ v145 _ => M - (intOf v145).toNat)
                  case atStart => exact ⟨0, Nat.zero_le _, rfl, HOW, HKw⟩
                  case round =>
                    obtain ⟨j, hj, rfl, HOJ, HKr⟩ := hrel
                    by_cases hltj : j < M
                    · obtain ⟨bd, od, rfl, hcd⟩ := HD.out.1.get (by rw [List.length_map, HM.out]; omega)
                      have hck := HKr.out.cell (hcd j (by rw [List.length_map, HM.out]; exact hltj)) (fun h => h)
                      rw [gi_map ids j (by rw [HM.out]; exact hltj)] at hck
                      have hid64 := HD.out.2 (ids.getD j 0) (getD_mem ids 0 (by rw [HM.out]; exact hltj))
                      have HCH := hid (HCHK.out j hltj)
                      have HLJ := hid (HLNJ.out j (by omega))
                      generalize ids.getD j 0 = id at *
                      have HPKi := hid (fun (W : World) (hW : Keeps NoB w7 W) => HPK.out id W hid64 hW)
                      have HBLi := hid (HBL.out id wr hid64)
                      obtain ⟨b0, b1, b2, b3, b4, b5, b6, b7⟩ := HCB6.out wr HKr.out
                      clear hcd
                      go_wp2_with fail
                      refine HBLi.out.mono ?_
                      rintro e w9 ⟨A9, c9, rfl, hc9, hat9, hk9⟩
                      obtain ⟨nb, hnb⟩ : ∃ nb, (blkN p session id).length = nb := ⟨_, rfl⟩
                      have HNB := hid hnb
                      rw [hnb]
                      have HAT9 := hid hat9
                      have HC9 := hid (show (blkN p session id).length ≤ c9 by rw [hnb]; rw [hnb] at hc9; exact hc9)
                      have HK9 := hid (HKr.out.fresh hk9)
                      have HKr9 := hid hk9
                      clear b0 b1 b2 b3 b4 b5 b6 b7 hat9 hc9 hk9 hnb
                      go_wp2_with fail
                      refine (HPKi.out w9 HK9.out).mono ?_
                      rintro e w10 ⟨Ap, cp, rfl, ho10, hk10⟩
                      have hpf := pay_field w10 (.int .u64 (session : Int)) (.int .i64 p.n) (.int .i64 p.b) (.int .i64 p.q) (.int .i64 p.eps) (.int .i64 p.f) (.int .i64 (L : Int)) (.int .u64 (id : Int)) (.slice Ap p.b.toNat cp)
                      have HK10 := hid (HK9.out.fresh hk10)
                      have hk10a := (Keeps.refl NoB w10).alloc (.cells #[.slice A9 nb c9, .slice Ap p.b.toNat cp] 75)
                      have hs9 := hk10.size
                      have hsr9 := HKr9.out.size
                      have HOZ := hid (HOJ.out.kept ((HKr9.out.fresh hk10).fresh hk10a))
                      have HPR := hid (show PairIn (fun b => u11.ownBlock ≠ some b) w10 (.slice A9 nb c9) (.slice Ap p.b.toNat cp) (ckE p session obj id) by
                        refine ⟨⟨A9, c9, by rw [← HNB.out]; rfl, HC9.out, fun e => absurd e (HAT9.out.1.some (HBN.out id)), ?_⟩, ?_⟩
                        · exact (HAT9.out.keeps hk10 (fun _ _ h => h)).mono (fun b _ hb e => by have h2 := (HOJ.out.base_le b e).2; omega)
                        · refine (OwnB.row ho10).mono (fun b hlt hb => fun e => ?_)
                          have h1 := (OwnInts.base_le ho10 b hb).1
                          have h2 := (HOJ.out.base_le b e).2
                          omega)
                      have HPRZ := hid (HPR.out.kept hk10a)
                      have hgz := heap_alloc_new w10 (.cells #[.slice A9 nb c9, .slice Ap p.b.toNat cp] 75)
                      have hc0 := (cells2 hgz).1
                      have hc1 := (cells2 hgz).2
                      have hbz : z ≤ (w10.alloc (.cells #[.slice A9 nb c9, .slice Ap p.b.toNat cp] 75)).heap.size := by have := HZ.out; have := (HK10.out.fresh hk10a).size; omega
                      clear ho10 hgz
                      go_wp2_with (at_builtin; go_must (refine wpList_app1Eq rfl _ _ 81 rfl z hue _ (eqsW p session obj a (ids.take j)) rfl HOZ.out w10.heap.size 1 (.slice A9 nb c9) (.slice Ap p.b.toNat cp) (ckE p session obj id) rfl hc0 hc1 HPRZ.out (a + j) HLJ.out (by have := HM30.out; omega) hbz ?_); intro A5 c5 w11 hown11 hgr11 hlo11)
                      have HO11 := hid (show OwnEqs (fun _ => True) w11 z (.slice A5 (a + j + 1) c5) (eqsW p session obj a (ids.take (j + 1))) by rw [HCH.out]; exact hown11)
                      have HK11 := hid ((HK10.out.fresh hk10a).grown hgr11 (fun i e hi => by have := hlo11 i e; have := HZ.out; omega))
                      go_roundw
                      case rel => exact ⟨j + 1, by omega, by go_num, HO11, HK11⟩
                      case measure => simp [intOf]; omega
                    · obtain rfl : M = j := by omega
                      have HAll := hid (show ids.take M = ids by rw [← HM.out, List.take_length])
                      rw [HAll.out] at HOJ
                      have HEL := hid (eqsW_length p session obj a ids)
                      rw [HM.out] at HEL
                      have HGD := hid (HGOOD.out a ids (Nat.le_refl _))
                      have HSM := hid (HSMALL.out a ids)
                      have HKw9 := hid HKr.out
                      obtain ⟨w9, hw9⟩ : ∃ x, x = wr := ⟨_, rfl⟩
                      rw [← hw9] at HOJ HKw9 ⊢
                      have HZ9 := hid (show z ≤ w9.heap.size by have := HZ.out; have := HKw9.out.size; omega)
                      obtain ⟨A11, c11, hv11, hc11, hA11, hes⟩ := HOJ.out.reads (by rw [HEL.out]; have := HM30.out; omega)
                      rw [HEL.out] at hv11
                      have HES := hid (hes.mono (R' := fun _ => True) (fun _ _ _ => trivial)).lt
                      have HA11 := hid hA11
                      have HR9 := hid (RowsIn.kept HR6.out HKw9.out)
                      have HK9w := hid (HK6.out.fresh HKw9.out)
                      have HTK := hid (take_ge (eqsW p session obj a ids))
                      have HHO := hid (fun (e : EqV) (he : e ∈ eqsW p session obj a ids) => good_holds HCF.out (HGD.out e he))
                      have HHL := hid (fun (e : EqV) (he : e ∈ eqsW p session obj a ids) => good_length HCF.out (HGD.out e he))
                      subst hv11
                      have HKQ := hid HKw9.out
                      have HRWX := hid True.intro
                      clear hw9 HKr HKw HKw9 HE8 HCB8 HR8 HK8 HZ8 HPK HBL HPL HBN HD HCHK HLNJ hc11 hA11 hes HOJ HOW
                      have HFT := hid (goods_fit HCF.out HGD.out)
                      have HHD := hid (goods_hold HCF.out HGD.out)
                      have HAG := hid (goods_agree HCF.out HGD.out)
                      rw [HMM.out] at HAG
                      have HOS := hid (ofs_sum_le HSM.out)
                      rw [HEL.out] at HOS
                      have HBI := hid (show (p.b.toNat : Int) = p.b by have := HM5.out; omega)
                      have HB6 := hid (show p.b.toNat ≤ 60 by have := HM5.out; omega)
                      obtain ⟨q, hq⟩ : ∃ q, a + M = q := ⟨_, rfl⟩
                      have hq2 : q ≤ 330 := by have := HM30.out; omega
                      have HCB9 := hid (fun (W : World) (hW : Keeps NoB w9 W) => HCB6.out W (HKQ.out.fresh hW))
                      rw [hq] at HEL HOS ⊢
                      have HOS := hid (Nat.le_trans HOS.out (Nat.mul_le_mul_right 500 hq2))
                      generalize eqsW p session obj a ids = es at *
                      generalize compN p session obj = comp at *
                      clear hq HGOOD HSMALL HGD HE6 HRWX
                      go_wp2_with fail
                      go_loopw [12, 166] (fun v12 v166 wr => ∃ j : Nat, j ≤ q ∧ v166 = .int .i64 (j : Int) ∧ Hid (OwnNRows (fun b => b < w9.heap.size) wr w9.heap.size v12 ((es.take j).map EqV.of)) ∧ Hid (Keeps NoB w9 wr)) (fun _ v166 _ => q - (intOf v166).toNat)
                      case atStart => exact ⟨0, Nat.zero_le _, rfl, hid (OwnNRows.nil _ _ _), Keeps.refl _ _⟩
                      case round =>
                        obtain ⟨j, hj, rfl, HON, HKr⟩ := hrel
                        by_cases hltj : j < q
                        · obtain ⟨b, off, rfl, hbR, hc⟩ := HES.out.2 (by rw [HEL.out]; omega)
                          obtain ⟨u1, u2, h1, h2, h3, h4⟩ := hc j (by rw [HEL.out]; exact hltj)
                          have e1 := HKr.out.cell h1 (fun h => h)
                          have e2 := HKr.out.cell h2 (fun h => h)
                          have H3 := hid (h3.keeps HKr.out (fun _ _ h => h))
                          have H4 := hid (h4.keeps HKr.out (fun _ _ h => h))
                          have p0 : (0 : Int) ≤ (j : Int) := by omega
                          have p1 : (j : Int) < (q : Int) := by omega
                          have ht := hid (HTK.out j (by rw [HEL.out]; exact hltj))
                          have hvl := hid (show ((es.take j).map EqV.of).length = j by rw [List.length_map, List.length_take, HEL.out]; omega)
                          have hmem := ge_mem es j (by rw [HEL.out]; exact hltj)
                          have hho := hid (HHO.out (ge es j) hmem)
                          have hhl := hid (HHL.out (ge es j) hmem)
                          have hsm := hid (HSM.out (ge es j) hmem)
                          obtain ⟨A2, c2, e2', _, hA2, hb2⟩ := h4
                          obtain ⟨A1, c1, e1', _, _, hi1⟩ := h3
                          subst e1' e2'
                          have hszr := HKr.out.size
                          clear hc h1 h2 hbR hmem
                          generalize ge es j = ek at *
                          have HHV := hid (fun (W : World) (hW : Keeps NoB w9 W) => eholds_calls ek.of ek.val comp A1 A2 A7 c1 c2 c7 (fun _ => True) W (hi1.1.kept hW) hA2 ((hb2.kept hW).mono (fun _ _ _ => trivial)) (RowsIn.kept HR9.out hW) (by have := hsm.out; omega) (by rw [hhl.out]; have := HB6.out; omega))
                          rw [HMM.out, hho.out] at HHV
                          have HKA := hid (((Keeps.refl NoB wr).alloc (.cells #[.slice A1 ek.of.length c1, .slice A2 ek.val.length c2] 75)).alloc (.cells #[.slice A1 ek.of.length c1] 62))
                          have HROW := hid ((H3.out.keeps HKA.out (fun _ _ h => h)).mono (R' := fun b => b < w9.heap.size ∧ u12.ownBlock ≠ some b) (fun b _ hb => ⟨hb.2, fun e => by have := (HON.out.base_le b e).1; have := hb.2; omega⟩))
                          have HCELL := hid (show ((wr.alloc (.cells #[.slice A1 ek.of.length c1, .slice A2 ek.val.length c2] 75)).alloc (.cells #[.slice A1 ek.of.length c1] 62)).cell? ⟨wr.heap.size + 1, 0, none⟩ = some (.slice A1 ek.of.length c1) by
                            have h := cell_one (wr.alloc (.cells #[.slice A1 ek.of.length c1, .slice A2 ek.val.length c2] 75)) (.slice A1 ek.of.length c1) 62
                            rw [World.size_alloc] at h; exact h)
                          have HBX := hid (((Keeps.refl NoB (wr.alloc (.cells #[.slice A1 ek.of.length c1, .slice A2 ek.val.length c2] 75))).alloc (.cells #[.slice A1 ek.of.length c1] 62)).heap (heap_alloc_new wr (.cells #[.slice A1 ek.of.length c1, .slice A2 ek.val.length c2] 75)) (fun h => h))
                          clear hi1 hb2 hA2
                          go_wp2_with (at_builtin; go_must (refine wpList_app1Row rfl _ _ 82 (fun b => b < w9.heap.size) rfl w9.heap.size hur _ ((es.take j).map EqV.of) rfl (HON.out.kept HKA.out) (wr.heap.size + 1) _ (.slice A1 ek.of.length c1) ek.of rfl HCELL.out HROW.out (by rw [hvl.out]; omega) (by simp; omega) ?_); intro v3 w10 hown3 hgr3 hat3; have HK10 := hid ((HKr.out.fresh HKA.out).grown hgr3 (fun i e hi => by have := (HON.out.base_le i e.symm).1; omega)); have hbx10 := (Keeps.ofGrown hgr3).heap HBX.out (fun e => by have e3 : some wr.heap.size = u12.ownBlock := e; have := (HON.out.base_le _ e3.symm).2; omega); have k0 := (cells2 hbx10).1; have k1 := (cells2 hbx10).2)
                          have HO3 := hid (show OwnNRows (fun b => b < w9.heap.size) w10 w9.heap.size v3 ((es.take (j + 1)).map EqV.of) by rw [ht.out, List.map_append]; exact hown3)
                          clear hown3 hgr3 hat3 hbx10
                          refine (HHV.out w10 HK10.out).mono ?_
                          rintro e w11 ⟨rfl, hk11⟩
                          have HO4 := hid (HO3.out.kept hk11)
                          have HK11 := hid (HK10.out.fresh hk11)
                          clear hk11 k0 k1
                          go_wp2_with fail
                          go_roundw
                          case rel => exact ⟨j + 1, by omega, by go_num, HO4, HK11⟩
                          case measure => simp [intOf]; omega
                        · obtain rfl : q = j := by omega
                          have hall := hid (show es.take q = es by rw [← HEL.out, List.take_length])
                          rw [hall.out] at HON
                          obtain ⟨A12, c12, hv12, _, _, hrows⟩ := HON.out.reads
                          have hml : (es.map EqV.of).length = q := by rw [List.length_map, HEL.out]
                          rw [hml] at hv12
                          subst hv12
                          have HRE := hid (fun (W : World) (hW : Keeps NoB wr W) => reach_calls (m : Int) (es.map EqV.of) A12 c12 W (hrows.kept hW) (by rw [flat_ofs]; have := HOS.out; omega) (fun of hof => by
                            obtain ⟨e, he, rfl⟩ := List.mem_map.1 hof
                            have := HSM.out e he
                            omega) (by rw [hml]; omega) (by have := HMB.out; omega))
                          rw [hml] at HRE
                          have HAD := hid (eadd_yes p.b.toNat es A11 c11 _ wr (by have := HB6.out; omega) (EqsIn.kept HES.out HKr.out) (by rw [HEL.out]; omega) (by have := HOS.out; omega) HFT.out)
                          rw [HBI.out, HEL.out] at HAD
                          have HAR := hid (fun (W : World) (hW : Keeps NoB wr W) => agrees_calls (m : Int) p.b.toNat es A11 c11 _ W (EqsIn.kept HES.out (HKr.out.fresh hW)) (by have := HB6.out; omega) (by rw [HEL.out]; omega) (by have := HOS.out; omega) (by have := HMB.out; omega) (fun e he => by have := HSM.out e he; omega))
                          rw [HBI.out, HEL.out, HAG.out] at HAR
                          have HLE := hid (reachN_le m (es.map EqV.of))
                          clear hrows hml
                          obtain ⟨b0, b1, b2, b3, b4, b5, b6, b7⟩ := HCB9.out wr HKr.out
                          go_wp2_with fail
                          refine HAD.out.mono ?_
                          rintro e w11 ⟨v1, v2, rfl, ho1, ho2, hk11⟩
                          obtain ⟨A13, c13, hv13, _, hat13⟩ := ho1.reads
                          obtain ⟨A14, c14, hv14, _, hA14, hat14⟩ := OwnB.reads ho2
                          subst hv13 hv14
                          have HKB := hid ((Keeps.refl NoB w11).alloc (.cells #[.slice A13 (oddN (ofsE es)).length c13, .slice A14 (sumB p.b.toNat (valsE es)).length c14] 75))
                          have HK11 := hid (hk11.fresh HKB.out)
                          have HBB := box_two w11 (.slice A13 (oddN (ofsE es)).length c13) (.slice A14 (sumB p.b.toNat (valsE es)).length c14) 75
                          have k0 := HBB.1
                          have k1 := HBB.2
                          have HHX := hid (eholds_calls (oddN (ofsE es)) (sumB p.b.toNat (valsE es)) comp A13 A14 A7 c13 c14 c7 (fun _ => True) _ (hat13.kept HKB.out) hA14 ((hat14.kept HKB.out).mono (fun _ _ _ => trivial)) (RowsIn.kept HR9.out (HKr.out.fresh HK11.out)) (by have h := oddN_length (ofsE es); have := HOS.out; omega) (by rw [sumB_length HFT.out]; have := HB6.out; omega))
                          rw [HMM.out, HHD.out] at HHX
                          clear ho1 ho2 hk11 hat13 hat14 hA14 HBB b0 b1 b2 b3 b4 b5 b6 b7
                          obtain ⟨b0, b1, b2, b3, b4, b5, b6, b7⟩ := HCB9.out _ (HKr.out.fresh HK11.out)
                          go_wp2_with fail
                          refine HHX.out.mono ?_
                          rintro e w12 ⟨rfl, hk12⟩
                          have HK12 := hid (HK11.out.fresh hk12)
                          clear b0 b1 b2 b3 b4 b5 b6 b7 k0 k1 hk12
                          obtain ⟨b0, b1, b2, b3, b4, b5, b6, b7⟩ := HCB9.out _ (HKr.out.fresh HK12.out)
                          go_wp2_with fail
                          refine (HAR.out w12 HK12.out).mono ?_
                          rintro e w13 ⟨rfl, hk13⟩
                          have HK13 := hid (HK12.out.fresh hk13)
                          clear b0 b1 b2 b3 b4 b5 b6 b7 hk13
                          go_wp2_with fail
                          refine (HRE.out w13 HK13.out).mono ?_
                          rintro e w14 ⟨v14, rfl, ho14, hk14⟩
                          obtain ⟨A15, c15, hv15, _, _⟩ := ho14.reads
                          subst hv15
                          have HK14 := hid (HK13.out.fresh hk14)
                          obtain ⟨rl, hrl⟩ : ∃ x, (reachN (m : Int) (es.map EqV.of)).length = x := ⟨_, rfl⟩
                          have hrm : rl ≤ m := by rw [← hrl]; exact HLE.out
                          rw [hrl]
                          have dr : decide ((rl : Int) ≤ (m : Int)) = true := decide_eq_true (by omega)
                          have dr' : decide (rl ≤ m) = true := decide_eq_true hrm
                          clear ho14 hk14 hrl
                          go_wp2_with fail
                          go_ret
                          exact ⟨rfl, HK9w.out.fresh (HKr.out.fresh HK14.out)⟩
  · rw [mayB_false hm]
    clear hm
    go_wp2_with fail
    go_ret
    exact ⟨rfl, HK3.out⟩
end Go.Proofs.Ytpkkaicpbihjfaa
