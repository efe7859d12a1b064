/- Headers and frames: the walks of frame.Check, New. No condition. -/
import Derived.Test.YtnnkfopopanfjaaFrameMath
import Derived.BigQuiet
set_option linter.unusedVariables false
set_option linter.unusedSimpArgs false
namespace Go.Proofs.Ytnnkfopopanfjaa
open Go.RowKit

set_option maxHeartbeats 2000000 in
set_option maxRecDepth 20000 in
theorem fcheck_calls (h : Hd) (w : World) : Calls Try.prog 46 #[h.val] w fun e w' => e = .returned (.int .i64 (fchkN h)) ∧ Keeps NoB w w' := by
  have hu := Try.underlying23
  have huh := Try.underlying50
  have HB := hid (heap_alloc_new w (.cells h.cells 50))
  have HK := hid ((Keeps.refl NoB w).alloc (.cells h.cells 50))
  have HCK := hid (check_calls h.par)
  have HMS := hid (fun (hm : h.par.may) (w' : World) => most_calls h.par w' hm)
  have hcl : h.cells = #[.int .u64 (h.session : Int), .int .i64 h.par.n, .int .i64 h.par.b, .int .i64 h.par.q, .int .i64 h.par.eps, .int .i64 h.par.f, .int .i64 h.len, .int .u64 (h.id : Int)] := rfl
  unfold Hd.val
  unfold Par.val at HCK HMS
  rw [hcl] at HB HK ⊢
  obtain ⟨wa, hwa⟩ : ∃ wa, w.alloc (.cells #[.int .u64 (h.session : Int), .int .i64 h.par.n, .int .i64 h.par.b, .int .i64 h.par.q, .int .i64 h.par.eps, .int .i64 h.par.f, .int .i64 h.len, .int .u64 (h.id : Int)] 50) = wa := ⟨_, rfl⟩
  rw [hwa] at HB HK
  obtain ⟨pb, hpb⟩ : ∃ pb, w.heap.size = pb := ⟨_, rfl⟩
  rw [hpb] at HB
  have HC0 := hid (fun (W : World) (hW : Keeps NoB wa W) => cells8 (h := h) (hW.heap HB.out (fun h => h)))
  clear hcl HB
  go_enter Try.func46, Try.ntmps46
  obtain ⟨b0, b1, b2, b3, b4, b5, b6, b7⟩ := HC0.out wa (Keeps.refl _ _)
  go_wp2_with fail
  refine (HCK.out _).mono ?_
  rintro e w1 ⟨rfl, HK1⟩
  have HK1 := hid HK1
  have HC := hid (fun (W : World) (hW : Keeps NoB w1 W) => HC0.out W (HK1.out.fresh hW))
  have HKd := hid (Keeps.refl NoB w1).drew
  clear b0 b1 b2 b3 b4 b5 b6 b7 HC0
  by_cases hm : h.par.may
  · have hc := hid (show checkN h.par = 0 by unfold checkN; rw [mayB_true hm]; rfl)
    have HMS := hid (HMS.out hm)
    obtain ⟨N, B, e1, e2, e3, e4, e5, e6, e7, e8, hNB, hNB2⟩ := par_sizes hm
    clear e1 e2 e3 e4 e5 e6 e7 e8
    generalize N * B = M at *
    rw [hNB] at HMS
    rw [hc.out]
    have HM := hid hm
    have HNB := hid hNB
    clear hm hNB hwa
    by_cases hl : h.len < 0
    · have hr := hid (show fchkN h = 1 by unfold fchkN; rw [hokB_false (fun hk => by have := hk.2.1; omega)]; rfl)
      have d0 : decide (h.len < 0) = true := decide_eq_true hl
      clear hl
      go_wp2_with fail
      refine wp_region_list [([], [10], []), ([0], [11], [10]), ([0, 1], [12], [10, 11]), ([0, 1, 2], [13], [10, 11, 12]), ([0, 1, 2, 3], [14], [10, 11, 12, 13]), ([0, 1, 2, 3, 4], [15], [10, 11, 12, 13, 14]), ([0, 1, 2, 3], [16], [10, 11, 12, 13]), ([0, 1, 2, 3, 6], [17], [10, 11, 12, 13, 16]), ([0, 1, 2, 3, 6, 7], [18], [10, 11, 12, 13, 16, 17]), ([0, 1, 2, 3, 4, 5, 6, 7, 8], [19], [10, 11, 12, 13, 14, 15, 16, 17, 18]), ([0, 1, 2, 3, 4, 5, 6, 7, 8, 9], [20], [10, 11, 12, 13, 14, 15, 16, 17, 18, 19])] [10, 11, 12, 13, 14, 15, 16, 17, 18, 19, 20] (Keeps NoB) (fun (i : Nat) => ([(fun s U => (s.getD 0 undef) = Value.pointer (some ⟨pb, 6, none⟩)), (fun s U => (s.getD 0 undef) = Value.int .i64 h.len), (fun s U => (s.getD 0 undef) = Value.bool true), (fun s U => (s.getD 0 undef) = Value.bool true), (fun s U => (s.getD 0 undef) = undef), (fun s U => (s.getD 0 undef) = undef), (fun s U => (s.getD 0 undef) = undef), (fun s U => (s.getD 0 undef) = undef), (fun s U => (s.getD 0 undef) = undef), (fun s U => (s.getD 0 undef) = undef), (fun s U => (s.getD 0 undef) = Value.bool true)] : List (List Value → World → Prop)).getD i (fun _ _ => True)) (by kernel_rfl) (by kernel_rfl) (by kernel_rfl) (fun _ _ _ h1 h2 => h1.fresh h2) (fun _ => Keeps.refl _ _) (RL.cons ?s0 (RL.cons ?s1 (RL.cons ?s2 (RL.cons ?s3 (RL.cons ?s4 (RL.cons ?s5 (RL.cons ?s6 (RL.cons ?s7 (RL.cons ?s8 (RL.cons ?s9 (RL.cons ?s10 (RL.nil _ _)))))))))))) ?fin
      case s0 =>
        intro V wx hE hd
        clear hd
        intro K hK
        simp only [rput, List.foldl_cons, List.foldl_nil, Act.put, List.setIfInBounds_toArray, List.set_cons_zero, List.set_cons_succ]
        go_simp; (with_reducible refine hK.out _ _ ?_ ?_); exact rfl; exact ⟨Keeps.refl _ _, rfl⟩
      case s1 =>
        intro V wx hE hd
        obtain ⟨u0, hb0, hu0, p0⟩ : ∃ U, Keeps NoB w1.drew U ∧ Keeps NoB U wx ∧ ((V 10) = Value.pointer (some ⟨pb, 6, none⟩)) := hd 0 (by decide)
        clear hd
        clear hb0 hu0
        intro K hK
        simp only [rput, List.foldl_cons, List.foldl_nil, Act.put, List.setIfInBounds_toArray, List.set_cons_zero, List.set_cons_succ, p0]
        obtain ⟨b0, b1, b2, b3, b4, b5, b6, b7⟩ := HC.out wx (HKd.out.fresh hE); go_simp; (with_reducible refine hK.out _ _ ?_ ?_); exact rfl; exact ⟨Keeps.refl _ _, rfl⟩
      case s2 =>
        intro V wx hE hd
        obtain ⟨u1, hb1, hu1, p1⟩ : ∃ U, Keeps NoB w1.drew U ∧ Keeps NoB U wx ∧ ((V 11) = Value.int .i64 h.len) := hd 1 (by decide)
        clear hd
        clear hb1 hu1
        intro K hK
        simp only [rput, List.foldl_cons, List.foldl_nil, Act.put, List.setIfInBounds_toArray, List.set_cons_zero, List.set_cons_succ, p1]
        go_simp; (with_reducible refine hK.out _ _ ?_ ?_); exact rfl; exact ⟨Keeps.refl _ _, rfl⟩
      case s3 =>
        intro V wx hE hd
        obtain ⟨u2, hb2, hu2, p2⟩ : ∃ U, Keeps NoB w1.drew U ∧ Keeps NoB U wx ∧ ((V 12) = Value.bool true) := hd 2 (by decide)
        clear hd
        clear hb2 hu2
        intro K hK
        simp only [rput, List.foldl_cons, List.foldl_nil, Act.put, List.setIfInBounds_toArray, List.set_cons_zero, List.set_cons_succ, p2]
        go_simp; (with_reducible refine hK.out _ _ ?_ ?_); exact rfl; exact ⟨Keeps.refl _ _, rfl⟩
      case s4 =>
        intro V wx hE hd
        obtain ⟨u3, hb3, hu3, p3⟩ : ∃ U, Keeps NoB w1.drew U ∧ Keeps NoB U wx ∧ ((V 13) = Value.bool true) := hd 3 (by decide)
        clear hd
        clear hb3 hu3
        intro K hK
        simp only [rput, List.foldl_cons, List.foldl_nil, Act.put, List.setIfInBounds_toArray, List.set_cons_zero, List.set_cons_succ, p3]
        go_simp; (with_reducible refine hK.out _ _ ?_ ?_); exact rfl; exact ⟨Keeps.refl _ _, rfl⟩
      case s5 =>
        intro V wx hE hd
        obtain ⟨u3, hb3, hu3, p3⟩ : ∃ U, Keeps NoB w1.drew U ∧ Keeps NoB U wx ∧ ((V 13) = Value.bool true) := hd 3 (by decide)
        obtain ⟨u4, hb4, hu4, p4⟩ : ∃ U, Keeps NoB w1.drew U ∧ Keeps NoB U wx ∧ ((V 14) = undef) := hd 4 (by decide)
        clear hd
        clear hb3 hu3
        clear hb4 hu4
        intro K hK
        simp only [rput, List.foldl_cons, List.foldl_nil, Act.put, List.setIfInBounds_toArray, List.set_cons_zero, List.set_cons_succ, p3, p4]
        obtain ⟨b0, b1, b2, b3, b4, b5, b6, b7⟩ := HC.out wx (HKd.out.fresh hE); go_simp; (with_reducible refine hK.out _ _ ?_ ?_); exact rfl; exact ⟨Keeps.refl _ _, rfl⟩
      case s6 =>
        intro V wx hE hd
        obtain ⟨u3, hb3, hu3, p3⟩ : ∃ U, Keeps NoB w1.drew U ∧ Keeps NoB U wx ∧ ((V 13) = Value.bool true) := hd 3 (by decide)
        clear hd
        clear hb3 hu3
        intro K hK
        simp only [rput, List.foldl_cons, List.foldl_nil, Act.put, List.setIfInBounds_toArray, List.set_cons_zero, List.set_cons_succ, p3]
        go_simp; (with_reducible refine hK.out _ _ ?_ ?_); exact rfl; exact ⟨Keeps.refl _ _, rfl⟩
      case s7 =>
        intro V wx hE hd
        obtain ⟨u3, hb3, hu3, p3⟩ : ∃ U, Keeps NoB w1.drew U ∧ Keeps NoB U wx ∧ ((V 13) = Value.bool true) := hd 3 (by decide)
        obtain ⟨u6, hb6, hu6, p6⟩ : ∃ U, Keeps NoB w1.drew U ∧ Keeps NoB U wx ∧ ((V 16) = undef) := hd 6 (by decide)
        clear hd
        clear hb3 hu3
        clear hb6 hu6
        intro K hK
        simp only [rput, List.foldl_cons, List.foldl_nil, Act.put, List.setIfInBounds_toArray, List.set_cons_zero, List.set_cons_succ, p3, p6]
        obtain ⟨b0, b1, b2, b3, b4, b5, b6, b7⟩ := HC.out wx (HKd.out.fresh hE); go_simp; (with_reducible refine hK.out _ _ ?_ ?_); exact rfl; exact ⟨Keeps.refl _ _, rfl⟩
      case s8 =>
        intro V wx hE hd
        obtain ⟨u3, hb3, hu3, p3⟩ : ∃ U, Keeps NoB w1.drew U ∧ Keeps NoB U wx ∧ ((V 13) = Value.bool true) := hd 3 (by decide)
        obtain ⟨u7, hb7, hu7, p7⟩ : ∃ U, Keeps NoB w1.drew U ∧ Keeps NoB U wx ∧ ((V 17) = undef) := hd 7 (by decide)
        clear hd
        clear hb3 hu3
        clear hb7 hu7
        intro K hK
        simp only [rput, List.foldl_cons, List.foldl_nil, Act.put, List.setIfInBounds_toArray, List.set_cons_zero, List.set_cons_succ, p3, p7]
        go_simp; (with_reducible refine hK.out _ _ ?_ ?_); exact rfl; exact ⟨Keeps.refl _ _, rfl⟩
      case s9 =>
        intro V wx hE hd
        obtain ⟨u3, hb3, hu3, p3⟩ : ∃ U, Keeps NoB w1.drew U ∧ Keeps NoB U wx ∧ ((V 13) = Value.bool true) := hd 3 (by decide)
        obtain ⟨u5, hb5, hu5, p5⟩ : ∃ U, Keeps NoB w1.drew U ∧ Keeps NoB U wx ∧ ((V 15) = undef) := hd 5 (by decide)
        obtain ⟨u8, hb8, hu8, p8⟩ : ∃ U, Keeps NoB w1.drew U ∧ Keeps NoB U wx ∧ ((V 18) = undef) := hd 8 (by decide)
        clear hd
        clear hb3 hu3
        clear hb5 hu5
        clear hb8 hu8
        intro K hK
        simp only [rput, List.foldl_cons, List.foldl_nil, Act.put, List.setIfInBounds_toArray, List.set_cons_zero, List.set_cons_succ, p3, p5, p8]
        go_simp; (with_reducible refine hK.out _ _ ?_ ?_); exact rfl; exact ⟨Keeps.refl _ _, rfl⟩
      case s10 =>
        intro V wx hE hd
        obtain ⟨u3, hb3, hu3, p3⟩ : ∃ U, Keeps NoB w1.drew U ∧ Keeps NoB U wx ∧ ((V 13) = Value.bool true) := hd 3 (by decide)
        obtain ⟨u9, hb9, hu9, p9⟩ : ∃ U, Keeps NoB w1.drew U ∧ Keeps NoB U wx ∧ ((V 19) = undef) := hd 9 (by decide)
        clear hd
        clear hb3 hu3
        clear hb9 hu9
        intro K hK
        simp only [rput, List.foldl_cons, List.foldl_nil, Act.put, List.setIfInBounds_toArray, List.set_cons_zero, List.set_cons_succ, p3, p9]
        go_simp; (with_reducible refine hK.out _ _ ?_ ?_); exact rfl; exact ⟨Keeps.refl _ _, rfl⟩
      case fin =>
        intro V wz hE hd
        obtain ⟨u10, hb10, hu10, p10⟩ : ∃ U, Keeps NoB w1.drew U ∧ Keeps NoB U wz ∧ ((V 20) = Value.bool true) := hd 10 (by decide)
        clear hd
        clear hb10 hu10
        simp only [rput, List.foldl_cons, List.foldl_nil, Act.put, List.setIfInBounds_toArray, List.set_cons_zero, List.set_cons_succ, p10]
        clear p10
        go_wp2_with fail
        go_ret
        exact ⟨by rw [hr.out]; rfl, (HK.out.fresh HK1.out).fresh (HKd.out.fresh hE)⟩
    · have d0 : decide (h.len < 0) = false := decide_eq_false hl
      have hr := hid (show fchkN h = if decide ((M : Int) < h.len) then 1 else 0 by
        unfold fchkN
        by_cases hx : h.len ≤ (M : Int)
        · rw [hokB_true ⟨HM.out, by omega, by rw [HNB.out]; exact hx⟩, decide_eq_false (by omega)]; rfl
        · rw [hokB_false (fun hk => hx (by have := hk.2.2; rw [HNB.out] at this; exact this)), decide_eq_true (by omega)]; rfl)
      clear hl
      go_wp2_with fail
      refine wp_region_list [([], [10], []), ([0], [11], [10]), ([0, 1], [12], [10, 11]), ([0, 1, 2], [13], [10, 11, 12]), ([0, 1, 2, 3], [14], [10, 11, 12, 13]), ([0, 1, 2, 3, 4], [15], [10, 11, 12, 13, 14]), ([0, 1, 2, 3], [16], [10, 11, 12, 13]), ([0, 1, 2, 3, 6], [17], [10, 11, 12, 13, 16]), ([0, 1, 2, 3, 6, 7], [18], [10, 11, 12, 13, 16, 17]), ([0, 1, 2, 3, 4, 5, 6, 7, 8], [19], [10, 11, 12, 13, 14, 15, 16, 17, 18]), ([0, 1, 2, 3, 4, 5, 6, 7, 8, 9], [20], [10, 11, 12, 13, 14, 15, 16, 17, 18, 19])] [10, 11, 12, 13, 14, 15, 16, 17, 18, 19, 20] (Keeps NoB) (fun (i : Nat) => ([(fun s U => (s.getD 0 undef) = Value.pointer (some ⟨pb, 6, none⟩)), (fun s U => (s.getD 0 undef) = Value.int .i64 h.len), (fun s U => (s.getD 0 undef) = Value.bool false), (fun s U => (s.getD 0 undef) = Value.bool false), (fun s U => (s.getD 0 undef) = Value.pointer (some ⟨pb, 6, none⟩)), (fun s U => (s.getD 0 undef) = Value.int .i64 h.len), (fun s U => (s.getD 0 undef) = Value.pointer (some ⟨pb, 1, none⟩)), (fun s U => (s.getD 0 undef) = Value.agg #[.int .i64 h.par.n, .int .i64 h.par.b, .int .i64 h.par.q, .int .i64 h.par.eps, .int .i64 h.par.f]), (fun s U => (s.getD 0 undef) = Value.int .i64 (M : Int)), (fun s U => (s.getD 0 undef) = Value.bool (decide ((M : Int) < h.len))), (fun s U => (s.getD 0 undef) = Value.bool (decide ((M : Int) < h.len)))] : List (List Value → World → Prop)).getD i (fun _ _ => True)) (by kernel_rfl) (by kernel_rfl) (by kernel_rfl) (fun _ _ _ h1 h2 => h1.fresh h2) (fun _ => Keeps.refl _ _) (RL.cons ?s0 (RL.cons ?s1 (RL.cons ?s2 (RL.cons ?s3 (RL.cons ?s4 (RL.cons ?s5 (RL.cons ?s6 (RL.cons ?s7 (RL.cons ?s8 (RL.cons ?s9 (RL.cons ?s10 (RL.nil _ _)))))))))))) ?fin
      case s0 =>
        intro V wx hE hd
        clear hd
        intro K hK
        simp only [rput, List.foldl_cons, List.foldl_nil, Act.put, List.setIfInBounds_toArray, List.set_cons_zero, List.set_cons_succ]
        go_simp; (with_reducible refine hK.out _ _ ?_ ?_); exact rfl; exact ⟨Keeps.refl _ _, rfl⟩
      case s1 =>
        intro V wx hE hd
        obtain ⟨u0, hb0, hu0, p0⟩ : ∃ U, Keeps NoB w1.drew U ∧ Keeps NoB U wx ∧ ((V 10) = Value.pointer (some ⟨pb, 6, none⟩)) := hd 0 (by decide)
        clear hd
        clear hb0 hu0
        intro K hK
        simp only [rput, List.foldl_cons, List.foldl_nil, Act.put, List.setIfInBounds_toArray, List.set_cons_zero, List.set_cons_succ, p0]
        obtain ⟨b0, b1, b2, b3, b4, b5, b6, b7⟩ := HC.out wx (HKd.out.fresh hE); go_simp; (with_reducible refine hK.out _ _ ?_ ?_); exact rfl; exact ⟨Keeps.refl _ _, rfl⟩
      case s2 =>
        intro V wx hE hd
        obtain ⟨u1, hb1, hu1, p1⟩ : ∃ U, Keeps NoB w1.drew U ∧ Keeps NoB U wx ∧ ((V 11) = Value.int .i64 h.len) := hd 1 (by decide)
        clear hd
        clear hb1 hu1
        intro K hK
        simp only [rput, List.foldl_cons, List.foldl_nil, Act.put, List.setIfInBounds_toArray, List.set_cons_zero, List.set_cons_succ, p1]
        go_simp; (with_reducible refine hK.out _ _ ?_ ?_); exact rfl; exact ⟨Keeps.refl _ _, rfl⟩
      case s3 =>
        intro V wx hE hd
        obtain ⟨u2, hb2, hu2, p2⟩ : ∃ U, Keeps NoB w1.drew U ∧ Keeps NoB U wx ∧ ((V 12) = Value.bool false) := hd 2 (by decide)
        clear hd
        clear hb2 hu2
        intro K hK
        simp only [rput, List.foldl_cons, List.foldl_nil, Act.put, List.setIfInBounds_toArray, List.set_cons_zero, List.set_cons_succ, p2]
        go_simp; (with_reducible refine hK.out _ _ ?_ ?_); exact rfl; exact ⟨Keeps.refl _ _, rfl⟩
      case s4 =>
        intro V wx hE hd
        obtain ⟨u3, hb3, hu3, p3⟩ : ∃ U, Keeps NoB w1.drew U ∧ Keeps NoB U wx ∧ ((V 13) = Value.bool false) := hd 3 (by decide)
        clear hd
        clear hb3 hu3
        intro K hK
        simp only [rput, List.foldl_cons, List.foldl_nil, Act.put, List.setIfInBounds_toArray, List.set_cons_zero, List.set_cons_succ, p3]
        go_simp; (with_reducible refine hK.out _ _ ?_ ?_); exact rfl; exact ⟨Keeps.refl _ _, rfl⟩
      case s5 =>
        intro V wx hE hd
        obtain ⟨u3, hb3, hu3, p3⟩ : ∃ U, Keeps NoB w1.drew U ∧ Keeps NoB U wx ∧ ((V 13) = Value.bool false) := hd 3 (by decide)
        obtain ⟨u4, hb4, hu4, p4⟩ : ∃ U, Keeps NoB w1.drew U ∧ Keeps NoB U wx ∧ ((V 14) = Value.pointer (some ⟨pb, 6, none⟩)) := hd 4 (by decide)
        clear hd
        clear hb3 hu3
        clear hb4 hu4
        intro K hK
        simp only [rput, List.foldl_cons, List.foldl_nil, Act.put, List.setIfInBounds_toArray, List.set_cons_zero, List.set_cons_succ, p3, p4]
        obtain ⟨b0, b1, b2, b3, b4, b5, b6, b7⟩ := HC.out wx (HKd.out.fresh hE); go_simp; (with_reducible refine hK.out _ _ ?_ ?_); exact rfl; exact ⟨Keeps.refl _ _, rfl⟩
      case s6 =>
        intro V wx hE hd
        obtain ⟨u3, hb3, hu3, p3⟩ : ∃ U, Keeps NoB w1.drew U ∧ Keeps NoB U wx ∧ ((V 13) = Value.bool false) := hd 3 (by decide)
        clear hd
        clear hb3 hu3
        intro K hK
        simp only [rput, List.foldl_cons, List.foldl_nil, Act.put, List.setIfInBounds_toArray, List.set_cons_zero, List.set_cons_succ, p3]
        go_simp; (with_reducible refine hK.out _ _ ?_ ?_); exact rfl; exact ⟨Keeps.refl _ _, rfl⟩
      case s7 =>
        intro V wx hE hd
        obtain ⟨u3, hb3, hu3, p3⟩ : ∃ U, Keeps NoB w1.drew U ∧ Keeps NoB U wx ∧ ((V 13) = Value.bool false) := hd 3 (by decide)
        obtain ⟨u6, hb6, hu6, p6⟩ : ∃ U, Keeps NoB w1.drew U ∧ Keeps NoB U wx ∧ ((V 16) = Value.pointer (some ⟨pb, 1, none⟩)) := hd 6 (by decide)
        clear hd
        clear hb3 hu3
        clear hb6 hu6
        intro K hK
        simp only [rput, List.foldl_cons, List.foldl_nil, Act.put, List.setIfInBounds_toArray, List.set_cons_zero, List.set_cons_succ, p3, p6]
        obtain ⟨b0, b1, b2, b3, b4, b5, b6, b7⟩ := HC.out wx (HKd.out.fresh hE); go_simp; (with_reducible refine hK.out _ _ ?_ ?_); exact rfl; exact ⟨Keeps.refl _ _, rfl⟩
      case s8 =>
        intro V wx hE hd
        obtain ⟨u3, hb3, hu3, p3⟩ : ∃ U, Keeps NoB w1.drew U ∧ Keeps NoB U wx ∧ ((V 13) = Value.bool false) := hd 3 (by decide)
        obtain ⟨u7, hb7, hu7, p7⟩ : ∃ U, Keeps NoB w1.drew U ∧ Keeps NoB U wx ∧ ((V 17) = Value.agg #[.int .i64 h.par.n, .int .i64 h.par.b, .int .i64 h.par.q, .int .i64 h.par.eps, .int .i64 h.par.f]) := hd 7 (by decide)
        clear hd
        clear hb3 hu3
        clear hb7 hu7
        intro K hK
        simp only [rput, List.foldl_cons, List.foldl_nil, Act.put, List.setIfInBounds_toArray, List.set_cons_zero, List.set_cons_succ, p3, p7]
        go_simp; refine (HMS.out _).mono ?_; rintro e w4 ⟨rfl, hk4⟩; (with_reducible refine hK.out _ _ ?_ ?_); exact rfl; exact ⟨hk4, rfl⟩
      case s9 =>
        intro V wx hE hd
        obtain ⟨u3, hb3, hu3, p3⟩ : ∃ U, Keeps NoB w1.drew U ∧ Keeps NoB U wx ∧ ((V 13) = Value.bool false) := hd 3 (by decide)
        obtain ⟨u5, hb5, hu5, p5⟩ : ∃ U, Keeps NoB w1.drew U ∧ Keeps NoB U wx ∧ ((V 15) = Value.int .i64 h.len) := hd 5 (by decide)
        obtain ⟨u8, hb8, hu8, p8⟩ : ∃ U, Keeps NoB w1.drew U ∧ Keeps NoB U wx ∧ ((V 18) = Value.int .i64 (M : Int)) := hd 8 (by decide)
        clear hd
        clear hb3 hu3
        clear hb5 hu5
        clear hb8 hu8
        intro K hK
        simp only [rput, List.foldl_cons, List.foldl_nil, Act.put, List.setIfInBounds_toArray, List.set_cons_zero, List.set_cons_succ, p3, p5, p8]
        go_simp; (with_reducible refine hK.out _ _ ?_ ?_); exact rfl; exact ⟨Keeps.refl _ _, rfl⟩
      case s10 =>
        intro V wx hE hd
        obtain ⟨u3, hb3, hu3, p3⟩ : ∃ U, Keeps NoB w1.drew U ∧ Keeps NoB U wx ∧ ((V 13) = Value.bool false) := hd 3 (by decide)
        obtain ⟨u9, hb9, hu9, p9⟩ : ∃ U, Keeps NoB w1.drew U ∧ Keeps NoB U wx ∧ ((V 19) = Value.bool (decide ((M : Int) < h.len))) := hd 9 (by decide)
        clear hd
        clear hb3 hu3
        clear hb9 hu9
        intro K hK
        simp only [rput, List.foldl_cons, List.foldl_nil, Act.put, List.setIfInBounds_toArray, List.set_cons_zero, List.set_cons_succ, p3, p9]
        go_simp; (with_reducible refine hK.out _ _ ?_ ?_); exact rfl; exact ⟨Keeps.refl _ _, rfl⟩
      case fin =>
        intro V wz hE hd
        obtain ⟨u10, hb10, hu10, p10⟩ : ∃ U, Keeps NoB w1.drew U ∧ Keeps NoB U wz ∧ ((V 20) = Value.bool (decide ((M : Int) < h.len))) := hd 10 (by decide)
        clear hd
        clear hb10 hu10
        simp only [rput, List.foldl_cons, List.foldl_nil, Act.put, List.setIfInBounds_toArray, List.set_cons_zero, List.set_cons_succ, p10]
        clear p10
        cases hd : decide ((M : Int) < h.len)
        · rw [hd] at hr
          go_wp2_with fail
          go_ret
          exact ⟨by rw [hr.out]; rfl, (HK.out.fresh HK1.out).fresh (HKd.out.fresh hE)⟩
        · rw [hd] at hr
          go_wp2_with fail
          go_ret
          exact ⟨by rw [hr.out]; rfl, (HK.out.fresh HK1.out).fresh (HKd.out.fresh hE)⟩
  · have hc := hid (show checkN h.par = 1 by unfold checkN; rw [mayB_false hm]; rfl)
    have hr := hid (show fchkN h = 1 by unfold fchkN; rw [hokB_false (fun hk => hm hk.1)]; rfl)
    clear hm
    rw [hc.out]
    go_wp2_with fail
    go_ret
    exact ⟨by rw [hr.out]; rfl, HK.out.fresh HK1.out⟩

/-- What writes and reads frames: its table. -/
def CodAt (w : World) (c : Nat) : Prop := ∃ b, w.heap[c]? = some (.cells #[.pointer (some ⟨b, 0, none⟩)] 93 (0, 0)) ∧ CrcAt w b
theorem CodAt.kept {w w1 : World} {c : Nat} (h : CodAt w c) (hk : Keeps NoB w w1) : CodAt w1 c := by
  obtain ⟨b, h1, h2⟩ := h
  exact ⟨b, hk.heap h1 (fun h => h), h2.kept hk (fun h => h)⟩
set_option maxHeartbeats 1000000 in
set_option maxRecDepth 20000 in
theorem fnew_core (w : World) : Calls Try.prog 16 #[] w fun e w' => ∃ c, e = .returned (.pointer (some ⟨c, 0, none⟩)) ∧ (∀ W, Keeps (fun k => k < w.heap.size) w' W → CodAt W c) ∧ Keeps NoB w w' := by
  go_enter Try.func16, Try.ntmps16
  go_wp2_with fail
  refine (crcNew_calls w).mono ?_
  rintro e w1 ⟨rfl, HB1, HK1⟩
  have HB1 := hid HB1
  have HK1 := hid HK1
  go_wp2_with fail
  go_ret
  exact ⟨_, rfl, fun W hW => ⟨_, hW.heap (heap_alloc_new w1 _) (fun e => by have e : w1.heap.size < w.heap.size := e; have := HK1.out.size; omega), hW.heap (((Keeps.refl NoB w1).alloc _).heap HB1.out (fun h => h)) (fun e => Nat.lt_irrefl _ e)⟩, HK1.out.alloc _⟩
theorem fnew_calls (w : World) : Calls Try.prog 16 #[] w fun e w' => ∃ c, e = .returned (.pointer (some ⟨c, 0, none⟩)) ∧ CodAt w' c ∧ Keeps NoB w w' :=
  (fnew_core w).mono (fun e w' ⟨c, h1, h2, h3⟩ => ⟨c, h1, h2 w' (Keeps.refl _ _), h3⟩)
end Go.Proofs.Ytnnkfopopanfjaa
