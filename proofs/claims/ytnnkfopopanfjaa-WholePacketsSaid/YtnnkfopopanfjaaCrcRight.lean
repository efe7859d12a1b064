/- Are bytes others with their sum behind them: the walk of crc.Right. Conditions: lengths that memory bears. -/
import Derived.Test.YtnnkfopopanfjaaCrc
import Derived.BigQuiet
set_option linter.unusedVariables false
set_option linter.unusedSimpArgs false
namespace Go.Proofs.Ytnnkfopopanfjaa
open Go.RowKit

/-- Are bytes others with their sum behind them? -/
def rightL (l : List UInt8) : Bool := decide (4 ≤ l.length) && ((strOf (sealB (l.take (l.length - 4)))).toList == (strOf l).toList)
set_option maxHeartbeats 2000000 in
set_option maxRecDepth 20000 in
theorem crcRight_calls (b : Nat) (l : List UInt8) (A : Option Addr) (n c : Nat) (R : Nat → Prop) (w : World) (hT : CrcAt w b) (hn : l.length = n) (hc : n ≤ c) (h : BytesIn R w A l) (hm : n ≤ 1073741824) :
    Calls Try.prog 47 #[.pointer (some ⟨b, 0, none⟩), .slice A n c] w fun e w' => e = .returned (.bool (rightL l)) ∧ Keeps NoB w w' := by
  have HN := hid hn
  have HT := hid hT
  have H := hid h
  by_cases h4 : n < 4
  · have d0 : decide ((n : Int) < 4) = true := decide_eq_true (by omega)
    have hr := hid (show rightL l = false by unfold rightL; rw [hn, decide_eq_false (by omega)]; rfl)
    clear hn hT h
    go_enter Try.func47, Try.ntmps47
    go_wp2_with fail
    go_ret
    exact ⟨by rw [hr.out]; rfl, Keeps.refl _ _⟩
  · have d0 : decide ((n : Int) < 4) = false := decide_eq_false (by omega)
    obtain ⟨q, hq⟩ : ∃ q, n = q + 4 := ⟨n - 4, by omega⟩
    have hr := hid (show rightL l = ((strOf (sealB (l.take q))).toList == (strOf l).toList) by unfold rightL; rw [hn, decide_eq_true (by omega), hq]; rfl)
    obtain ⟨b2, o2, rfl, _, _⟩ := h.get (by omega)
    have hlt := hid (show (l.take q).length = q by rw [List.length_take]; omega)
    have HSL := hid (show (sealB (l.take q)).length = n by rw [sealB_length, hlt.out]; omega)
    have HSE := hid (fun (W : World) (hW : Keeps NoB w W) => seal_calls b (l.take q) (some ⟨b2, o2, none⟩) q c R W (HT.out.kept hW (fun h => h)) hlt.out (by omega) (fun e => by cases e) ((H.out.kept hW).take q) (by omega))
    have HKd := hid (Keeps.refl NoB w).drew
    have e0 : (n : Int) - 4 = (q : Int) := by omega
    have p0 : (0 : Int) ≤ (q : Int) := by omega
    have p1 : (q : Int) ≤ (c : Int) := by omega
    have p2 : (q : Int) ≤ (n : Int) := by omega
    clear hn hT h hq
    go_enter Try.func47, Try.ntmps47
    go_wp2_with fail
    refine wp_region_list [([], [12], []), ([], [13], []), ([], [14], []), ([1, 2], [15], [13, 14]), ([0, 1, 2, 3], [16], [12, 13, 14, 15]), ([0, 1, 2, 3, 4], [17], [12, 13, 14, 15, 16]), ([], [18], []), ([6], [19], [18]), ([0, 1, 2, 3, 4, 5, 6, 7], [20], [12, 13, 14, 15, 16, 17, 18, 19]), ([0, 1, 2, 3, 4, 5, 6, 7, 8], [4], [12, 13, 14, 15, 16, 17, 18, 19, 20])] [12, 13, 14, 15, 16, 17, 18, 19, 20, 4] (Keeps NoB) (fun (i : Nat) => ([(fun s U => (s.getD 0 undef) = Value.pointer (some ⟨b, 0, none⟩)), (fun s U => (s.getD 0 undef) = Value.slice (some ⟨b2, o2, none⟩) n c), (fun s U => (s.getD 0 undef) = Value.int .i64 (q : Int)), (fun s U => (s.getD 0 undef) = Value.slice (some ⟨b2, o2, none⟩) q c), (fun s U => ∃ A4 c4, (s.getD 0 undef) = Value.slice A4 n c4 ∧ Hid (BytesIn (fun _ => True) U A4 (sealB (l.take q)))), (fun s U => (s.getD 0 undef) = Value.string (strOf (sealB (l.take q)))), (fun s U => (s.getD 0 undef) = Value.slice (some ⟨b2, o2, none⟩) n c), (fun s U => (s.getD 0 undef) = Value.string (strOf l)), (fun s U => (s.getD 0 undef) = Value.bool ((strOf (sealB (l.take q))).toList == (strOf l).toList)), (fun s U => (s.getD 0 undef) = Value.bool ((strOf (sealB (l.take q))).toList == (strOf l).toList))] : List (List Value → World → Prop)).getD i (fun _ _ => True)) (by kernel_rfl) (by kernel_rfl) (by kernel_rfl) (fun _ _ _ h1 h2 => h1.fresh h2) (fun _ => Keeps.refl _ _) (RL.cons ?s0 (RL.cons ?s1 (RL.cons ?s2 (RL.cons ?s3 (RL.cons ?s4 (RL.cons ?s5 (RL.cons ?s6 (RL.cons ?s7 (RL.cons ?s8 (RL.cons ?s9 (RL.nil _ _))))))))))) ?fin
    case s0 =>
      intro V w1 hE hd
      clear hd
      intro K hK
      simp only [rput, List.foldl_cons, List.foldl_nil, Act.put, List.setIfInBounds_toArray, List.set_cons_zero, List.set_cons_succ]
      go_simp; (with_reducible refine hK.out _ _ ?_ ?_); exact rfl; exact ⟨Keeps.refl _ _, rfl⟩
    case s1 =>
      intro V w1 hE hd
      clear hd
      intro K hK
      simp only [rput, List.foldl_cons, List.foldl_nil, Act.put, List.setIfInBounds_toArray, List.set_cons_zero, List.set_cons_succ]
      go_simp; (with_reducible refine hK.out _ _ ?_ ?_); exact rfl; exact ⟨Keeps.refl _ _, rfl⟩
    case s2 =>
      intro V w1 hE hd
      clear hd
      intro K hK
      simp only [rput, List.foldl_cons, List.foldl_nil, Act.put, List.setIfInBounds_toArray, List.set_cons_zero, List.set_cons_succ]
      go_simp; (with_reducible refine hK.out _ _ ?_ ?_); exact rfl; exact ⟨Keeps.refl _ _, rfl⟩
    case s3 =>
      intro V w1 hE hd
      obtain ⟨u1, hb1, hu1, p1⟩ : ∃ U, Keeps NoB w.drew U ∧ Keeps NoB U w1 ∧ ((V 13) = Value.slice (some ⟨b2, o2, none⟩) n c) := hd 1 (by decide)
      obtain ⟨u2, hb2, hu2, p2⟩ : ∃ U, Keeps NoB w.drew U ∧ Keeps NoB U w1 ∧ ((V 14) = Value.int .i64 (q : Int)) := hd 2 (by decide)
      clear hd
      clear hb1 hu1
      clear hb2 hu2
      intro K hK
      simp only [rput, List.foldl_cons, List.foldl_nil, Act.put, List.setIfInBounds_toArray, List.set_cons_zero, List.set_cons_succ, p1, p2]
      go_simp; (with_reducible refine hK.out _ _ ?_ ?_); exact rfl; exact ⟨Keeps.refl _ _, rfl⟩
    case s4 =>
      intro V w1 hE hd
      obtain ⟨u0, hb0, hu0, p0⟩ : ∃ U, Keeps NoB w.drew U ∧ Keeps NoB U w1 ∧ ((V 12) = Value.pointer (some ⟨b, 0, none⟩)) := hd 0 (by decide)
      obtain ⟨u3, hb3, hu3, p3⟩ : ∃ U, Keeps NoB w.drew U ∧ Keeps NoB U w1 ∧ ((V 15) = Value.slice (some ⟨b2, o2, none⟩) q c) := hd 3 (by decide)
      clear hd
      clear hb0 hu0
      clear hb3 hu3
      intro K hK
      simp only [rput, List.foldl_cons, List.foldl_nil, Act.put, List.setIfInBounds_toArray, List.set_cons_zero, List.set_cons_succ, p0, p3]
      go_simp; refine (HSE.out _ (HKd.out.fresh hE)).mono ?_; rintro e w4 ⟨v4, rfl, ho4, hk4⟩; obtain ⟨A4, c4, hv4, hc4, _, hb4⟩ := ho4.reads; rw [HSL.out] at hv4; subst hv4; (with_reducible refine hK.out _ _ ?_ ?_); exact rfl; exact ⟨hk4, A4, c4, rfl, hid (hb4.mono (fun _ _ _ => trivial))⟩
    case s5 =>
      intro V w1 hE hd
      obtain ⟨u4, hb4, hu4, p4⟩ : ∃ U, Keeps NoB w.drew U ∧ Keeps NoB U w1 ∧ (∃ A4 c4, (V 16) = Value.slice A4 n c4 ∧ Hid (BytesIn (fun _ => True) U A4 (sealB (l.take q)))) := hd 4 (by decide)
      clear hd
      obtain ⟨A4, c4, q4, hb4⟩ := p4
      intro K hK
      simp only [rput, List.foldl_cons, List.foldl_nil, Act.put, List.setIfInBounds_toArray, List.set_cons_zero, List.set_cons_succ, q4]
      have hcv := conv_run 25 9 Try.underlying25 Try.underlying9 (hb4.out.kept hu4) c4; rw [HSL.out] at hcv; go_simp; (with_reducible refine hK.out _ _ ?_ ?_); exact rfl; exact ⟨Keeps.refl _ _, rfl⟩
    case s6 =>
      intro V w1 hE hd
      clear hd
      intro K hK
      simp only [rput, List.foldl_cons, List.foldl_nil, Act.put, List.setIfInBounds_toArray, List.set_cons_zero, List.set_cons_succ]
      go_simp; (with_reducible refine hK.out _ _ ?_ ?_); exact rfl; exact ⟨Keeps.refl _ _, rfl⟩
    case s7 =>
      intro V w1 hE hd
      obtain ⟨u6, hb6, hu6, p6⟩ : ∃ U, Keeps NoB w.drew U ∧ Keeps NoB U w1 ∧ ((V 18) = Value.slice (some ⟨b2, o2, none⟩) n c) := hd 6 (by decide)
      clear hd
      clear hb6 hu6
      intro K hK
      simp only [rput, List.foldl_cons, List.foldl_nil, Act.put, List.setIfInBounds_toArray, List.set_cons_zero, List.set_cons_succ, p6]
      have hcv := conv_run 25 9 Try.underlying25 Try.underlying9 (H.out.kept (HKd.out.fresh hE)) c; rw [HN.out] at hcv; go_simp; (with_reducible refine hK.out _ _ ?_ ?_); exact rfl; exact ⟨Keeps.refl _ _, rfl⟩
    case s8 =>
      intro V w1 hE hd
      obtain ⟨u5, hb5, hu5, p5⟩ : ∃ U, Keeps NoB w.drew U ∧ Keeps NoB U w1 ∧ ((V 17) = Value.string (strOf (sealB (l.take q)))) := hd 5 (by decide)
      obtain ⟨u7, hb7, hu7, p7⟩ : ∃ U, Keeps NoB w.drew U ∧ Keeps NoB U w1 ∧ ((V 19) = Value.string (strOf l)) := hd 7 (by decide)
      clear hd
      clear hb5 hu5
      clear hb7 hu7
      intro K hK
      simp only [rput, List.foldl_cons, List.foldl_nil, Act.put, List.setIfInBounds_toArray, List.set_cons_zero, List.set_cons_succ, p5, p7]
      go_simp; (with_reducible refine hK.out _ _ ?_ ?_); exact rfl; exact ⟨Keeps.refl _ _, rfl⟩
    case s9 =>
      intro V w1 hE hd
      obtain ⟨u8, hb8, hu8, p8⟩ : ∃ U, Keeps NoB w.drew U ∧ Keeps NoB U w1 ∧ ((V 20) = Value.bool ((strOf (sealB (l.take q))).toList == (strOf l).toList)) := hd 8 (by decide)
      clear hd
      clear hb8 hu8
      intro K hK
      simp only [rput, List.foldl_cons, List.foldl_nil, Act.put, List.setIfInBounds_toArray, List.set_cons_zero, List.set_cons_succ, p8]
      go_simp; (with_reducible refine hK.out _ _ ?_ ?_); exact rfl; exact ⟨Keeps.refl _ _, rfl⟩
    case fin =>
      intro V wz hE hd
      obtain ⟨u9, hb9, hu9, p9⟩ : ∃ U, Keeps NoB w.drew U ∧ Keeps NoB U wz ∧ ((V 4) = Value.bool ((strOf (sealB (l.take q))).toList == (strOf l).toList)) := hd 9 (by decide)
      clear hd
      clear hb9 hu9
      simp only [rput, List.foldl_cons, List.foldl_nil, Act.put, List.setIfInBounds_toArray, List.set_cons_zero, List.set_cons_succ, p9]
      clear p9
      go_wp2_with fail
      go_ret
      exact ⟨by rw [hr.out]; rfl, HKd.out.fresh hE⟩
end Go.Proofs.Ytnnkfopopanfjaa
