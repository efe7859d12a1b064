/- Frames of an object: the walks of emit.New, Frame, Composite. Conditions: numbers are of their kinds. -/
import Derived.Test.YtnnkfopopanfjaaEmit
set_option linter.unusedVariables false
set_option linter.unusedSimpArgs false
namespace Go.Proofs.Ytnnkfopopanfjaa
open Go.RowKit

/-- The frame of an ID. -/
noncomputable def frameN (p : Par) (session : Nat) (obj : List UInt8) (id : Nat) : List UInt8 := encN ⟨session, p, (obj.length : Int), id⟩ (payN p session obj id)
theorem frameN_length {p : Par} (hm : p.may) (session : Nat) (obj : List UInt8) (id : Nat) : (frameN p session obj id).length = 42 + p.b.toNat := by unfold frameN; rw [encN_length, payN_length hm]
set_option maxHeartbeats 2000000 in
set_option maxRecDepth 20000 in
theorem frame_calls (c : Nat) (p : Par) (session : Nat) (obj : List UInt8) (id : Nat) (w : World) (h : EncAt w c p session obj) (hm : p.may) (hl : (obj.length : Int) ≤ p.n * p.b) (hs : session < 18446744073709551616) (hi : id < 18446744073709551616) :
    Calls Try.prog 14 #[.pointer (some ⟨c, 0, none⟩), .int .u64 (id : Int)] w fun e w' => ∃ (A5 : Option Addr) (c5 : Nat), e = .returned (.slice A5 (42 + p.b.toNat) c5) ∧ OwnB w' w.heap.size (.slice A5 (42 + p.b.toNat) c5) (frameN p session obj id) ∧ Keeps NoB w w' := by
  have hu := Try.underlying23
  have huh := Try.underlying50
  have hup := Try.underlying52
  have HPK := hid (fun (W : World) (hW : Keeps NoB w W) => packet_calls c p session obj id W (h.kept hW) hm hs hi)
  have HFL := hid (frameN_length hm session obj id)
  have hpl := payN_length hm session obj id
  have hbb : (p.b.toNat : Int) = p.b := by have := hm.2.2.1; omega
  obtain ⟨s, k, Ab, cap, h1, h2, h3, h4, h5, h6⟩ := h
  have HEN := hid (fun (W : World) (Ap : Option Addr) (cp : Nat) (hW : Keeps NoB w W) (ho : OwnB W w.heap.size (.slice Ap p.b.toNat cp) (payN p session obj id)) => encode_calls k ⟨session, p, (obj.length : Int), id⟩ (payN p session obj id) Ap cp (fun _ => True) W (h3.kept hW) ⟨hm, by simp, hl⟩ hs hi (by
    obtain ⟨A, c, e, _, _, hb⟩ := ho.reads
    injection e with e1 e2 e3
    subst e1
    exact hb.mono (fun _ _ _ => trivial)) (by rw [hpl]; exact hbb) (by
    obtain ⟨A, c, e, hc, hA, hb⟩ := ho.reads
    injection e with e1 e2 e3
    subst e1 e3
    exact hA) (by
    obtain ⟨A, c, e, hc, hA, hb⟩ := ho.reads
    injection e with e1 e2 e3
    subst e1 e3
    exact hc))
  have hfr : encN ⟨session, p, (obj.length : Int), id⟩ (payN p session obj id) = frameN p session obj id := rfl
  rw [hfr, hpl] at HEN
  have h1' := hid h1
  have HLD := hid (fun (W : World) (hW : Keeps NoB w W) => (show W.cell? ⟨c, 1, none⟩ = some (.pointer (some ⟨k, 0, none⟩)) by
    have := hW.heap h1'.out (fun h => h)
    simp [World.cell?, this]))
  obtain ⟨L, hL⟩ : ∃ L, obj.length = L := ⟨_, rfl⟩
  simp only [hL] at HPK HEN
  generalize frameN p session obj id = fr at *
  generalize payN p session obj id = pay at *
  obtain ⟨B, hB⟩ : ∃ B, p.b.toNat = B := ⟨_, rfl⟩
  rw [hB] at HFL ⊢
  simp only [hB] at HPK HEN
  obtain ⟨z0, hz0⟩ : ∃ z0, w.heap.size = z0 := ⟨_, rfl⟩
  rw [hz0] at HEN ⊢
  have HZ := hid (show z0 ≤ w.heap.size by omega)
  have HKd := hid (Keeps.refl NoB w).drew
  clear h1 h2 h3 h4 h5 h6 hpl hbb hfr hL hB hz0 hl hs hi hm
  go_enter Try.func14, Try.ntmps14
  go_wp2_with fail
  refine wp_region_list [([], [8], []), ([0], [9], [8]), ([0, 1], [10], [8, 9]), ([0, 1, 2], [11], [8, 9, 10]), ([], [12], []), ([], [13], []), ([4, 5], [14], [12, 13]), ([0, 1, 2, 3, 4, 5, 6], [15], [8, 9, 10, 11, 12, 13, 14]), ([0, 1, 2, 3, 4, 5, 6, 7], [7, 15], [8, 9, 10, 11, 12, 13, 14, 15]), ([0, 1, 2, 3, 4, 5, 6, 7, 8], [16], [8, 9, 10, 11, 12, 13, 14, 15, 7]), ([0, 1, 2, 3, 4, 5, 6, 7, 8], [17], [8, 9, 10, 11, 12, 13, 14, 15, 7]), ([0, 1, 2, 3, 4, 5, 6, 7, 8, 9], [5], [8, 9, 10, 11, 12, 13, 14, 15, 7, 16]), ([0, 1, 2, 3, 4, 5, 6, 7, 8, 9, 10, 11], [6], [8, 9, 10, 11, 12, 13, 14, 15, 7, 16, 17, 5])] [8, 9, 10, 11, 12, 13, 14, 15, 7, 16, 17, 5, 6] (Keeps NoB) (fun (i : Nat) => ([(fun rs__ U => (rs__.getD 0 undef) = Value.pointer (some ⟨c, 0, none⟩)), (fun rs__ U => (rs__.getD 0 undef) = Value.pointer (some ⟨c, 0, none⟩)), (fun rs__ U => (rs__.getD 0 undef) = Value.pointer (some ⟨c, 1, none⟩)), (fun rs__ U => (rs__.getD 0 undef) = Value.pointer (some ⟨k, 0, none⟩)), (fun rs__ U => (rs__.getD 0 undef) = Value.pointer (some ⟨c, 0, none⟩)), (fun rs__ U => (rs__.getD 0 undef) = Value.int .u64 (id : Int)), (fun rs__ U => ∃ Ap cp, (rs__.getD 0 undef) = Value.agg #[.int .u64 (session : Int), .int .i64 p.n, .int .i64 p.b, .int .i64 p.q, .int .i64 p.eps, .int .i64 p.f, .int .i64 (L : Int), .int .u64 (id : Int), .slice Ap B cp] ∧ Hid (OwnB U z0 (.slice Ap B cp) pay)), (fun rs__ U => ∃ A5 c5, (rs__.getD 0 undef) = Value.tuple #[Value.slice A5 (42 + B) c5, Value.int .i64 0] ∧ Hid (OwnB U z0 (Value.slice A5 (42 + B) c5) fr)), (fun rs__ U => (rs__.getD 0 undef) = (rs__.getD 1 undef)), (fun rs__ U => ∃ A5 c5, (rs__.getD 0 undef) = Value.slice A5 (42 + B) c5 ∧ Hid (OwnB U z0 (Value.slice A5 (42 + B) c5) fr)), (fun rs__ U => (rs__.getD 0 undef) = Value.int .i64 0), (fun rs__ U => ∃ A5 c5, (rs__.getD 0 undef) = Value.slice A5 (42 + B) c5 ∧ Hid (OwnB U z0 (Value.slice A5 (42 + B) c5) fr)), (fun rs__ U => (rs__.getD 0 undef) = Value.int .i64 0)] : List (List Value → World → Prop)).getD i (fun _ _ => True)) (by kernel_rfl) (by kernel_rfl) (by kernel_rfl) (fun _ _ _ h1 h2 => h1.fresh h2) (fun _ => Keeps.refl _ _) (RL.cons ?s0 (RL.cons ?s1 (RL.cons ?s2 (RL.cons ?s3 (RL.cons ?s4 (RL.cons ?s5 (RL.cons ?s6 (RL.cons ?s7 (RL.cons ?s8 (RL.cons ?s9 (RL.cons ?s10 (RL.cons ?s11 (RL.cons ?s12 (RL.nil _ _)))))))))))))) ?fin
  case s0 =>
    intro V wx hE hd
    clear hd
    intro K hK
    simp only [rput, List.foldl_cons, List.foldl_nil, Act.put, List.setIfInBounds_toArray, List.set_cons_zero, List.set_cons_succ]
    go_simp; (with_reducible refine hK.out _ _ ?_ ?_); exact rfl; exact ⟨Keeps.refl _ _, rfl⟩
  case s1 =>
    intro V wx hE hd
    obtain ⟨u0, hb0, hu0, p0⟩ : ∃ U, Keeps NoB w.drew U ∧ Keeps NoB U wx ∧ ((V 8) = Value.pointer (some ⟨c, 0, none⟩)) := hd 0 (by decide)
    clear hd
    clear hb0 hu0
    intro K hK
    simp only [rput, List.foldl_cons, List.foldl_nil, Act.put, List.setIfInBounds_toArray, List.set_cons_zero, List.set_cons_succ, p0]
    go_simp; (with_reducible refine hK.out _ _ ?_ ?_); exact rfl; exact ⟨Keeps.refl _ _, rfl⟩
  case s2 =>
    intro V wx hE hd
    obtain ⟨u1, hb1, hu1, p1⟩ : ∃ U, Keeps NoB w.drew U ∧ Keeps NoB U wx ∧ ((V 9) = Value.pointer (some ⟨c, 0, none⟩)) := hd 1 (by decide)
    clear hd
    clear hb1 hu1
    intro K hK
    simp only [rput, List.foldl_cons, List.foldl_nil, Act.put, List.setIfInBounds_toArray, List.set_cons_zero, List.set_cons_succ, p1]
    go_simp; (with_reducible refine hK.out _ _ ?_ ?_); exact rfl; exact ⟨Keeps.refl _ _, rfl⟩
  case s3 =>
    intro V wx hE hd
    obtain ⟨u2, hb2, hu2, p2⟩ : ∃ U, Keeps NoB w.drew U ∧ Keeps NoB U wx ∧ ((V 10) = Value.pointer (some ⟨c, 1, none⟩)) := hd 2 (by decide)
    clear hd
    clear hb2 hu2
    intro K hK
    simp only [rput, List.foldl_cons, List.foldl_nil, Act.put, List.setIfInBounds_toArray, List.set_cons_zero, List.set_cons_succ, p2]
    have l1 := HLD.out wx (HKd.out.fresh hE); go_simp; (with_reducible refine hK.out _ _ ?_ ?_); exact rfl; exact ⟨Keeps.refl _ _, rfl⟩
  case s4 =>
    intro V wx hE hd
    clear hd
    intro K hK
    simp only [rput, List.foldl_cons, List.foldl_nil, Act.put, List.setIfInBounds_toArray, List.set_cons_zero, List.set_cons_succ]
    go_simp; (with_reducible refine hK.out _ _ ?_ ?_); exact rfl; exact ⟨Keeps.refl _ _, rfl⟩
  case s5 =>
    intro V wx hE hd
    clear hd
    intro K hK
    simp only [rput, List.foldl_cons, List.foldl_nil, Act.put, List.setIfInBounds_toArray, List.set_cons_zero, List.set_cons_succ]
    go_simp; (with_reducible refine hK.out _ _ ?_ ?_); exact rfl; exact ⟨Keeps.refl _ _, rfl⟩
  case s6 =>
    intro V wx hE hd
    obtain ⟨u4, hb4, hu4, p4⟩ : ∃ U, Keeps NoB w.drew U ∧ Keeps NoB U wx ∧ ((V 12) = Value.pointer (some ⟨c, 0, none⟩)) := hd 4 (by decide)
    obtain ⟨u5, hb5, hu5, p5⟩ : ∃ U, Keeps NoB w.drew U ∧ Keeps NoB U wx ∧ ((V 13) = Value.int .u64 (id : Int)) := hd 5 (by decide)
    clear hd
    clear hb4 hu4
    clear hb5 hu5
    intro K hK
    simp only [rput, List.foldl_cons, List.foldl_nil, Act.put, List.setIfInBounds_toArray, List.set_cons_zero, List.set_cons_succ, p4, p5]
    go_simp; refine (HPK.out _ (HKd.out.fresh hE)).mono ?_; rintro e w4 ⟨Ap, cp, rfl, ho4, hk4⟩; (with_reducible refine hK.out _ _ ?_ ?_); exact rfl; exact ⟨hk4, Ap, cp, rfl, hid (OwnInts.lower ho4 (Nat.le_trans HZ.out (HKd.out.fresh hE).size))⟩
  case s7 =>
    intro V wx hE hd
    obtain ⟨u3, hb3, hu3, p3⟩ : ∃ U, Keeps NoB w.drew U ∧ Keeps NoB U wx ∧ ((V 11) = Value.pointer (some ⟨k, 0, none⟩)) := hd 3 (by decide)
    obtain ⟨u6, hb6, hu6, p6⟩ : ∃ U, Keeps NoB w.drew U ∧ Keeps NoB U wx ∧ (∃ Ap cp, (V 14) = Value.agg #[.int .u64 (session : Int), .int .i64 p.n, .int .i64 p.b, .int .i64 p.q, .int .i64 p.eps, .int .i64 p.f, .int .i64 (L : Int), .int .u64 (id : Int), .slice Ap B cp] ∧ Hid (OwnB U z0 (.slice Ap B cp) pay)) := hd 6 (by decide)
    clear hd
    clear hb3 hu3
    obtain ⟨Ap, cp, q6, hop⟩ := p6
    intro K hK
    simp only [rput, List.foldl_cons, List.foldl_nil, Act.put, List.setIfInBounds_toArray, List.set_cons_zero, List.set_cons_succ, p3, q6]
    go_simp; refine (HEN.out wx Ap cp (HKd.out.fresh hE) (OwnInts.kept hop.out hu6)).mono ?_; rintro e w5 ⟨v5, rfl, ho5, hk5⟩; obtain ⟨A5, c5, hv5, _⟩ := OwnB.reads ho5; rw [HFL.out] at hv5; subst hv5; (with_reducible refine hK.out _ _ ?_ ?_); exact rfl; exact ⟨hk5, A5, c5, rfl, hid (OwnInts.lower ho5 (Nat.le_trans HZ.out (HKd.out.fresh hE).size))⟩
  case s8 =>
    intro V wx hE hd
    obtain ⟨u7, hb7, hu7, p7⟩ : ∃ U, Keeps NoB w.drew U ∧ Keeps NoB U wx ∧ (∃ A5 c5, (V 15) = Value.tuple #[Value.slice A5 (42 + B) c5, Value.int .i64 0] ∧ Hid (OwnB U z0 (Value.slice A5 (42 + B) c5) fr)) := hd 7 (by decide)
    clear hd
    obtain ⟨A5, c5, q7, ho5⟩ := p7
    intro K hK
    simp only [rput, List.foldl_cons, List.foldl_nil, Act.put, List.setIfInBounds_toArray, List.set_cons_zero, List.set_cons_succ, q7]
    go_simp; (with_reducible refine hK.out _ _ ?_ ?_); exact rfl; exact ⟨Keeps.refl _ _, q7.symm⟩
  case s9 =>
    intro V wx hE hd
    obtain ⟨u7, hb7, hu7, p7⟩ : ∃ U, Keeps NoB w.drew U ∧ Keeps NoB U wx ∧ (∃ A5 c5, (V 15) = Value.tuple #[Value.slice A5 (42 + B) c5, Value.int .i64 0] ∧ Hid (OwnB U z0 (Value.slice A5 (42 + B) c5) fr)) := hd 7 (by decide)
    obtain ⟨u8, hb8, hu8, p8⟩ : ∃ U, Keeps NoB w.drew U ∧ Keeps NoB U wx ∧ ((V 7) = (V 15)) := hd 8 (by decide)
    clear hd
    clear hb8 hu8
    obtain ⟨A5, c5, q7, ho5⟩ := p7
    intro K hK
    simp only [rput, List.foldl_cons, List.foldl_nil, Act.put, List.setIfInBounds_toArray, List.set_cons_zero, List.set_cons_succ, p8, q7]
    go_simp; (with_reducible refine hK.out _ _ ?_ ?_); exact rfl; exact ⟨Keeps.refl _ _, A5, c5, rfl, hid (OwnInts.kept ho5.out hu7)⟩
  case s10 =>
    intro V wx hE hd
    obtain ⟨u7, hb7, hu7, p7⟩ : ∃ U, Keeps NoB w.drew U ∧ Keeps NoB U wx ∧ (∃ A5 c5, (V 15) = Value.tuple #[Value.slice A5 (42 + B) c5, Value.int .i64 0] ∧ Hid (OwnB U z0 (Value.slice A5 (42 + B) c5) fr)) := hd 7 (by decide)
    obtain ⟨u8, hb8, hu8, p8⟩ : ∃ U, Keeps NoB w.drew U ∧ Keeps NoB U wx ∧ ((V 7) = (V 15)) := hd 8 (by decide)
    clear hd
    clear hb8 hu8
    obtain ⟨A5, c5, q7, ho5⟩ := p7
    intro K hK
    simp only [rput, List.foldl_cons, List.foldl_nil, Act.put, List.setIfInBounds_toArray, List.set_cons_zero, List.set_cons_succ, p8, q7]
    go_simp; (with_reducible refine hK.out _ _ ?_ ?_); exact rfl; exact ⟨Keeps.refl _ _, rfl⟩
  case s11 =>
    intro V wx hE hd
    obtain ⟨u9, hb9, hu9, p9⟩ : ∃ U, Keeps NoB w.drew U ∧ Keeps NoB U wx ∧ (∃ A5 c5, (V 16) = Value.slice A5 (42 + B) c5 ∧ Hid (OwnB U z0 (Value.slice A5 (42 + B) c5) fr)) := hd 9 (by decide)
    clear hd
    obtain ⟨A5, c5, q9, ho5⟩ := p9
    intro K hK
    simp only [rput, List.foldl_cons, List.foldl_nil, Act.put, List.setIfInBounds_toArray, List.set_cons_zero, List.set_cons_succ, q9]
    go_simp; (with_reducible refine hK.out _ _ ?_ ?_); exact rfl; exact ⟨Keeps.refl _ _, A5, c5, rfl, hid (OwnInts.kept ho5.out hu9)⟩
  case s12 =>
    intro V wx hE hd
    obtain ⟨u10, hb10, hu10, p10⟩ : ∃ U, Keeps NoB w.drew U ∧ Keeps NoB U wx ∧ ((V 17) = Value.int .i64 0) := hd 10 (by decide)
    clear hd
    clear hb10 hu10
    intro K hK
    simp only [rput, List.foldl_cons, List.foldl_nil, Act.put, List.setIfInBounds_toArray, List.set_cons_zero, List.set_cons_succ, p10]
    go_simp; (with_reducible refine hK.out _ _ ?_ ?_); exact rfl; exact ⟨Keeps.refl _ _, rfl⟩
  case fin =>
    intro V wz hE hd
    obtain ⟨u11, hb11, hu11, p11⟩ : ∃ U, Keeps NoB w.drew U ∧ Keeps NoB U wz ∧ (∃ A5 c5, (V 5) = Value.slice A5 (42 + B) c5 ∧ Hid (OwnB U z0 (Value.slice A5 (42 + B) c5) fr)) := hd 11 (by decide)
    obtain ⟨u12, hb12, hu12, p12⟩ : ∃ U, Keeps NoB w.drew U ∧ Keeps NoB U wz ∧ ((V 6) = Value.int .i64 0) := hd 12 (by decide)
    clear hd
    clear hb12 hu12
    obtain ⟨A5, c5, q11, ho5⟩ := p11
    simp only [rput, List.foldl_cons, List.foldl_nil, Act.put, List.setIfInBounds_toArray, List.set_cons_zero, List.set_cons_succ, p12, q11]
    clear p12
    go_wp2_with fail
    go_ret
    exact ⟨A5, c5, rfl, OwnInts.kept ho5.out hu11, HKd.out.fresh hE⟩

set_option maxHeartbeats 1000000 in
set_option maxRecDepth 20000 in
theorem emitNew_no (p : Par) (session : Nat) (obj : List UInt8) (A : Option Addr) (c : Nat) (w : World) (hm : ¬ p.may) :
    Calls Try.prog 13 #[p.val, .int .u64 (session : Int), .slice A obj.length c] w fun e w' => e = .returned (.tuple #[.pointer none, .int .i64 1]) ∧ Keeps NoB w w' := by
  have hu := Try.underlying23
  have HM := hid hm
  clear hm
  unfold Par.val
  go_enter Try.func13, Try.ntmps13
  go_wp2_with fail
  refine (comp_no p session A obj.length c _ HM.out).mono ?_
  rintro e w1 ⟨rfl, HK1⟩
  have HK1 := hid (((Keeps.refl NoB w).alloc _).fresh HK1)
  go_wp2_with fail
  go_ret2
  exact ⟨rfl, HK1.out⟩
set_option maxHeartbeats 1000000 in
set_option maxRecDepth 20000 in
theorem emitNew_long (p : Par) (session : Nat) (obj : List UInt8) (A : Option Addr) (c : Nat) (w : World) (hm : p.may) (hl : p.n * p.b < obj.length) (hlen : obj.length ≤ 9223372036854775807) :
    Calls Try.prog 13 #[p.val, .int .u64 (session : Int), .slice A obj.length c] w fun e w' => e = .returned (.tuple #[.pointer none, .int .i64 10]) ∧ Keeps NoB w w' := by
  have hu := Try.underlying23
  have HM := hid hm
  have HL := hid hl
  clear hm hl
  unfold Par.val
  go_enter Try.func13, Try.ntmps13
  go_wp2_with fail
  refine (comp_long p session obj A c _ HM.out HL.out hlen).mono ?_
  rintro e w1 ⟨rfl, HK1⟩
  have HK1 := hid (((Keeps.refl NoB w).alloc _).fresh HK1)
  go_wp2_with fail
  go_ret2
  exact ⟨rfl, HK1.out⟩
set_option maxHeartbeats 3000000 in
set_option maxRecDepth 20000 in
theorem emitNew_core (p : Par) (session : Nat) (obj : List UInt8) (A : Option Addr) (cap : Nat) (R : Nat → Prop) (w : World) (hm : p.may) (hs : session < 18446744073709551616) (ho : BytesIn R w A obj) (hcap : obj.length ≤ cap) (hl : (obj.length : Int) ≤ p.n * p.b) :
    Calls Try.prog 13 #[p.val, .int .u64 (session : Int), .slice A obj.length cap] w fun e w' => ∃ c, e = .returned (.tuple #[.pointer (some ⟨c, 0, none⟩), .int .i64 0]) ∧ (∀ W, Keeps (fun b => b < w.heap.size) w' W → EncAt W c p session obj) ∧ Keeps NoB w w' := by
  have hu := Try.underlying23
  have huh := Try.underlying50
  have HCY := hid (fun (W : World) (hW : Keeps NoB w W) => comp_yes p session obj A cap R W hm hs (ho.kept hW) hcap hl)
  have HIN := hid (fun (W : World) => inew_core p session W hm)
  have HEA := hid (show ∀ (W : World) (c : Nat), (∃ (s k : Nat) (Ab : Option Addr) (cap : Nat), W.heap[c]? = some (.cells #[.pointer (some ⟨s, 0, none⟩), .pointer (some ⟨k, 0, none⟩), .int .u64 (session : Int), .int .i64 p.n, .int .i64 p.b, .int .i64 p.q, .int .i64 p.eps, .int .i64 p.f, .int .i64 (obj.length : Int), .int .u64 0, .slice Ab (compN p session obj).length cap] 83 (0, 0)) ∧ SrcAt W s p session ∧ CodAt W k ∧ RowsIn (fun _ => True) W Ab (compN p session obj) ∧ (compN p session obj).length ≤ cap ∧ (Ab = none → cap = 0)) → EncAt W c p session obj from fun W c h => h)
  obtain ⟨L, hL⟩ : ∃ L, obj.length = L := ⟨_, rfl⟩
  rw [hL] at HCY HEA ⊢
  obtain ⟨m, hmm⟩ : ∃ m, (compN p session obj).length = m := ⟨_, rfl⟩
  have HMM := hid hmm
  rw [hmm] at HEA
  generalize compN p session obj = comp at *
  clear hm hs ho hcap hl hL hmm
  unfold Par.val at HCY HIN ⊢
  have HB := hid (heap_alloc_new w (.cells #[.int .i64 p.n, .int .i64 p.b, .int .i64 p.q, .int .i64 p.eps, .int .i64 p.f] 23))
  have HK := hid ((Keeps.refl NoB w).alloc (.cells #[.int .i64 p.n, .int .i64 p.b, .int .i64 p.q, .int .i64 p.eps, .int .i64 p.f] 23))
  obtain ⟨wa, hwa⟩ : ∃ wa, w.alloc (.cells #[.int .i64 p.n, .int .i64 p.b, .int .i64 p.q, .int .i64 p.eps, .int .i64 p.f] 23) = wa := ⟨_, rfl⟩
  rw [hwa] at HB HK
  obtain ⟨pb, hpb⟩ : ∃ pb, w.heap.size = pb := ⟨_, rfl⟩
  have HPB := hid hpb
  rw [hpb] at HB
  go_enter Try.func13, Try.ntmps13
  obtain ⟨b0, b1, b2, b3, b4⟩ := cells5 HB.out
  go_wp2_with fail
  refine (HCY.out _ HK.out).mono ?_
  rintro e w1 ⟨v1, rfl, hr1, hk1⟩
  clear b0 b1 b2 b3 b4 hwa hpb
  obtain ⟨Ab, cb, hv1, hcb, hAb, _⟩ := hr1.reads
  rw [HMM.out] at hv1 hcb
  subst hv1
  have HCB := hid hcb
  have HAB := hid hAb
  have HR1 := hid hr1
  have HB1 := hid (hk1.heap HB.out (fun h => h))
  have HK1 := hid (HK.out.fresh hk1)
  clear hcb hAb hr1
  obtain ⟨b0, b1, b2, b3, b4⟩ := cells5 HB1.out
  go_wp2_with fail
  refine (HIN.out _).mono ?_
  rintro e w3 ⟨s, rfl, hsr, hk3⟩
  have HSR := hid hsr
  have HB3 := hid (hk3.heap HB1.out (fun h => h))
  have HR3 := hid (HR1.out.kept hk3)
  have HK3 := hid (HK1.out.fresh hk3)
  have hz1 := hid HK1.out.size
  have hza := hid HK.out.size
  have hk3' := hid hk3
  clear b0 b1 b2 b3 b4 hsr hk3 hk1
  obtain ⟨z0, hz0⟩ : ∃ z0, w.heap.size = z0 := ⟨_, rfl⟩
  have HZ := hid (show z0 ≤ w3.heap.size by have := HK3.out.size; omega)
  have HZ0 := hid hz0
  have HLD := hid (fun (W : World) (hW : Keeps NoB w3 W) => cells5 (hW.heap HB3.out (fun h => h)))
  have HKd := hid (Keeps.refl NoB w3).drew
  clear hz0
  go_wp2_with fail
  refine wp_region_list [([], [30], []), ([], [31], []), ([], [32], []), ([], [33], []), ([], [34], []), ([4], [35], [34]), ([2, 3, 4, 5], [36], [32, 33, 34, 35]), ([], [37], []), ([0, 1, 2, 3, 4, 5, 6, 7], [38], [30, 31, 32, 33, 34, 35, 36, 37]), ([0, 1, 2, 3, 4, 5, 6, 7, 8], [39], [30, 31, 32, 33, 34, 35, 36, 37, 38]), ([0, 1, 2, 3, 4, 5, 6, 7, 8, 9], [6, 39], [30, 31, 32, 33, 34, 35, 36, 37, 38, 39]), ([0, 1, 2, 3, 4, 5, 6, 7, 8, 9, 10], [7], [30, 31, 32, 33, 34, 35, 36, 37, 38, 39, 6])] [30, 31, 32, 33, 34, 35, 36, 37, 38, 39, 6, 7] (Keeps NoB) (fun (i : Nat) => ([(fun rs__ U => (rs__.getD 0 undef) = Value.pointer (some ⟨s, 0, none⟩)), (fun rs__ U => ∃ kc, (rs__.getD 0 undef) = Value.pointer (some ⟨kc, 0, none⟩) ∧ Hid (∀ W, Keeps (fun b => b < z0) U W → CodAt W kc)), (fun rs__ U => (rs__.getD 0 undef) = Value.int .u64 (session : Int)), (fun rs__ U => (rs__.getD 0 undef) = Value.agg #[.int .i64 p.n, .int .i64 p.b, .int .i64 p.q, .int .i64 p.eps, .int .i64 p.f]), (fun rs__ U => (rs__.getD 0 undef) = Value.slice A L cap), (fun rs__ U => (rs__.getD 0 undef) = Value.int .i64 (L : Int)), (fun rs__ U => (rs__.getD 0 undef) = Value.agg #[.int .u64 (session : Int), .int .i64 p.n, .int .i64 p.b, .int .i64 p.q, .int .i64 p.eps, .int .i64 p.f, .int .i64 (L : Int), .int .u64 0]), (fun rs__ U => (rs__.getD 0 undef) = Value.slice Ab m cb), (fun rs__ U => ∃ kc, (rs__.getD 0 undef) = Value.agg #[.pointer (some ⟨s, 0, none⟩), .pointer (some ⟨kc, 0, none⟩), .int .u64 (session : Int), .int .i64 p.n, .int .i64 p.b, .int .i64 p.q, .int .i64 p.eps, .int .i64 p.f, .int .i64 (L : Int), .int .u64 0, .slice Ab m cb] ∧ Hid (∀ W, Keeps (fun b => b < z0) U W → CodAt W kc)), (fun rs__ U => ∃ g kc, (rs__.getD 0 undef) = Value.pointer (some ⟨g, 0, none⟩) ∧ Hid (z0 ≤ g ∧ U.heap[g]? = some (.cells #[.pointer (some ⟨s, 0, none⟩), .pointer (some ⟨kc, 0, none⟩), .int .u64 (session : Int), .int .i64 p.n, .int .i64 p.b, .int .i64 p.q, .int .i64 p.eps, .int .i64 p.f, .int .i64 (L : Int), .int .u64 0, .slice Ab m cb] 83 (0, 0)) ∧ ∀ W, Keeps (fun b => b < z0) U W → CodAt W kc)), (fun rs__ U => (rs__.getD 0 undef) = (rs__.getD 1 undef)), (fun rs__ U => (rs__.getD 0 undef) = Value.int .i64 0)] : List (List Value → World → Prop)).getD i (fun _ _ => True)) (by kernel_rfl) (by kernel_rfl) (by kernel_rfl) (fun _ _ _ h1 h2 => h1.fresh h2) (fun _ => Keeps.refl _ _) (RL.cons ?s0 (RL.cons ?s1 (RL.cons ?s2 (RL.cons ?s3 (RL.cons ?s4 (RL.cons ?s5 (RL.cons ?s6 (RL.cons ?s7 (RL.cons ?s8 (RL.cons ?s9 (RL.cons ?s10 (RL.cons ?s11 (RL.nil _ _))))))))))))) ?fin
  case s0 =>
    intro V wx hE hd
    clear hd
    intro K hK
    simp only [rput, List.foldl_cons, List.foldl_nil, Act.put, List.setIfInBounds_toArray, List.set_cons_zero, List.set_cons_succ]
    go_simp; (with_reducible refine hK.out _ _ ?_ ?_); exact rfl; exact ⟨Keeps.refl _ _, rfl⟩
  case s1 =>
    intro V wx hE hd
    clear hd
    intro K hK
    simp only [rput, List.foldl_cons, List.foldl_nil, Act.put, List.setIfInBounds_toArray, List.set_cons_zero, List.set_cons_succ]
    go_simp; refine (fnew_core _).mono ?_; rintro e w4 ⟨kc, rfl, hc4, hk4⟩; (with_reducible refine hK.out _ _ ?_ ?_); exact rfl; exact ⟨hk4, kc, rfl, hid (fun W hW => hc4 W (hW.mono (fun b hb _ => Nat.lt_of_lt_of_le hb (Nat.le_trans HZ.out (HKd.out.fresh hE).size))))⟩
  case s2 =>
    intro V wx hE hd
    clear hd
    intro K hK
    simp only [rput, List.foldl_cons, List.foldl_nil, Act.put, List.setIfInBounds_toArray, List.set_cons_zero, List.set_cons_succ]
    go_simp; (with_reducible refine hK.out _ _ ?_ ?_); exact rfl; exact ⟨Keeps.refl _ _, rfl⟩
  case s3 =>
    intro V wx hE hd
    clear hd
    intro K hK
    simp only [rput, List.foldl_cons, List.foldl_nil, Act.put, List.setIfInBounds_toArray, List.set_cons_zero, List.set_cons_succ]
    obtain ⟨l0, l1, l2, l3, l4⟩ := HLD.out wx (HKd.out.fresh hE); go_simp; (with_reducible refine hK.out _ _ ?_ ?_); exact rfl; exact ⟨Keeps.refl _ _, rfl⟩
  case s4 =>
    intro V wx hE hd
    clear hd
    intro K hK
    simp only [rput, List.foldl_cons, List.foldl_nil, Act.put, List.setIfInBounds_toArray, List.set_cons_zero, List.set_cons_succ]
    go_simp; (with_reducible refine hK.out _ _ ?_ ?_); exact rfl; exact ⟨Keeps.refl _ _, rfl⟩
  case s5 =>
    intro V wx hE hd
    obtain ⟨u4, hb4, hu4, p4⟩ : ∃ U, Keeps NoB w3.drew U ∧ Keeps NoB U wx ∧ ((V 34) = Value.slice A L cap) := hd 4 (by decide)
    clear hd
    clear hb4 hu4
    intro K hK
    simp only [rput, List.foldl_cons, List.foldl_nil, Act.put, List.setIfInBounds_toArray, List.set_cons_zero, List.set_cons_succ, p4]
    go_simp; (with_reducible refine hK.out _ _ ?_ ?_); exact rfl; exact ⟨Keeps.refl _ _, rfl⟩
  case s6 =>
    intro V wx hE hd
    obtain ⟨u2, hb2, hu2, p2⟩ : ∃ U, Keeps NoB w3.drew U ∧ Keeps NoB U wx ∧ ((V 32) = Value.int .u64 (session : Int)) := hd 2 (by decide)
    obtain ⟨u3, hb3, hu3, p3⟩ : ∃ U, Keeps NoB w3.drew U ∧ Keeps NoB U wx ∧ ((V 33) = Value.agg #[.int .i64 p.n, .int .i64 p.b, .int .i64 p.q, .int .i64 p.eps, .int .i64 p.f]) := hd 3 (by decide)
    obtain ⟨u5, hb5, hu5, p5⟩ : ∃ U, Keeps NoB w3.drew U ∧ Keeps NoB U wx ∧ ((V 35) = Value.int .i64 (L : Int)) := hd 5 (by decide)
    clear hd
    clear hb2 hu2
    clear hb3 hu3
    clear hb5 hu5
    intro K hK
    simp only [rput, List.foldl_cons, List.foldl_nil, Act.put, List.setIfInBounds_toArray, List.set_cons_zero, List.set_cons_succ, p2, p3, p5]
    go_simp; (with_reducible refine hK.out _ _ ?_ ?_); exact rfl; exact ⟨Keeps.refl _ _, rfl⟩
  case s7 =>
    intro V wx hE hd
    clear hd
    intro K hK
    simp only [rput, List.foldl_cons, List.foldl_nil, Act.put, List.setIfInBounds_toArray, List.set_cons_zero, List.set_cons_succ]
    go_simp; (with_reducible refine hK.out _ _ ?_ ?_); exact rfl; exact ⟨Keeps.refl _ _, rfl⟩
  case s8 =>
    intro V wx hE hd
    obtain ⟨u0, hb0, hu0, p0⟩ : ∃ U, Keeps NoB w3.drew U ∧ Keeps NoB U wx ∧ ((V 30) = Value.pointer (some ⟨s, 0, none⟩)) := hd 0 (by decide)
    obtain ⟨u1, hb1, hu1, p1⟩ : ∃ U, Keeps NoB w3.drew U ∧ Keeps NoB U wx ∧ (∃ kc, (V 31) = Value.pointer (some ⟨kc, 0, none⟩) ∧ Hid (∀ W, Keeps (fun b => b < z0) U W → CodAt W kc)) := hd 1 (by decide)
    obtain ⟨u6, hb6, hu6, p6⟩ : ∃ U, Keeps NoB w3.drew U ∧ Keeps NoB U wx ∧ ((V 36) = Value.agg #[.int .u64 (session : Int), .int .i64 p.n, .int .i64 p.b, .int .i64 p.q, .int .i64 p.eps, .int .i64 p.f, .int .i64 (L : Int), .int .u64 0]) := hd 6 (by decide)
    obtain ⟨u7, hb7, hu7, p7⟩ : ∃ U, Keeps NoB w3.drew U ∧ Keeps NoB U wx ∧ ((V 37) = Value.slice Ab m cb) := hd 7 (by decide)
    clear hd
    clear hb0 hu0
    clear hb6 hu6
    clear hb7 hu7
    obtain ⟨kc, q1, hcd⟩ := p1
    intro K hK
    simp only [rput, List.foldl_cons, List.foldl_nil, Act.put, List.setIfInBounds_toArray, List.set_cons_zero, List.set_cons_succ, p0, p6, p7, q1]
    go_simp; (with_reducible refine hK.out _ _ ?_ ?_); exact rfl; exact ⟨Keeps.refl _ _, kc, rfl, hid (fun W hW => hcd.out W ((hu1.mono (fun _ h _ => h.elim)).then hW (fun i h _ => h)))⟩
  case s9 =>
    intro V wx hE hd
    obtain ⟨u8, hb8, hu8, p8⟩ : ∃ U, Keeps NoB w3.drew U ∧ Keeps NoB U wx ∧ (∃ kc, (V 38) = Value.agg #[.pointer (some ⟨s, 0, none⟩), .pointer (some ⟨kc, 0, none⟩), .int .u64 (session : Int), .int .i64 p.n, .int .i64 p.b, .int .i64 p.q, .int .i64 p.eps, .int .i64 p.f, .int .i64 (L : Int), .int .u64 0, .slice Ab m cb] ∧ Hid (∀ W, Keeps (fun b => b < z0) U W → CodAt W kc)) := hd 8 (by decide)
    clear hd
    obtain ⟨kc, q8, hcd⟩ := p8
    intro K hK
    simp only [rput, List.foldl_cons, List.foldl_nil, Act.put, List.setIfInBounds_toArray, List.set_cons_zero, List.set_cons_succ, q8]
    go_simp; (with_reducible refine hK.out _ _ ?_ ?_); exact rfl; exact ⟨(Keeps.refl _ _).alloc _, _, kc, rfl, hid ⟨Nat.le_trans HZ.out (HKd.out.fresh hE).size, heap_alloc_new _ _, fun W hW => hcd.out W (((hu8.mono (fun _ h _ => h.elim)).alloc _).then hW (fun i h _ => h))⟩⟩
  case s10 =>
    intro V wx hE hd
    obtain ⟨u9, hb9, hu9, p9⟩ : ∃ U, Keeps NoB w3.drew U ∧ Keeps NoB U wx ∧ (∃ g kc, (V 39) = Value.pointer (some ⟨g, 0, none⟩) ∧ Hid (z0 ≤ g ∧ U.heap[g]? = some (.cells #[.pointer (some ⟨s, 0, none⟩), .pointer (some ⟨kc, 0, none⟩), .int .u64 (session : Int), .int .i64 p.n, .int .i64 p.b, .int .i64 p.q, .int .i64 p.eps, .int .i64 p.f, .int .i64 (L : Int), .int .u64 0, .slice Ab m cb] 83 (0, 0)) ∧ ∀ W, Keeps (fun b => b < z0) U W → CodAt W kc)) := hd 9 (by decide)
    clear hd
    obtain ⟨g, kc, q9, hbx⟩ := p9
    intro K hK
    simp only [rput, List.foldl_cons, List.foldl_nil, Act.put, List.setIfInBounds_toArray, List.set_cons_zero, List.set_cons_succ, q9]
    go_simp; (with_reducible refine hK.out _ _ ?_ ?_); exact rfl; exact ⟨Keeps.refl _ _, q9.symm⟩
  case s11 =>
    intro V wx hE hd
    clear hd
    intro K hK
    simp only [rput, List.foldl_cons, List.foldl_nil, Act.put, List.setIfInBounds_toArray, List.set_cons_zero, List.set_cons_succ]
    go_simp; (with_reducible refine hK.out _ _ ?_ ?_); exact rfl; exact ⟨Keeps.refl _ _, rfl⟩
  case fin =>
    intro V wz hE hd
    obtain ⟨u9, hb9, hu9, p9⟩ : ∃ U, Keeps NoB w3.drew U ∧ Keeps NoB U wz ∧ (∃ g kc, (V 39) = Value.pointer (some ⟨g, 0, none⟩) ∧ Hid (z0 ≤ g ∧ U.heap[g]? = some (.cells #[.pointer (some ⟨s, 0, none⟩), .pointer (some ⟨kc, 0, none⟩), .int .u64 (session : Int), .int .i64 p.n, .int .i64 p.b, .int .i64 p.q, .int .i64 p.eps, .int .i64 p.f, .int .i64 (L : Int), .int .u64 0, .slice Ab m cb] 83 (0, 0)) ∧ ∀ W, Keeps (fun b => b < z0) U W → CodAt W kc)) := hd 9 (by decide)
    obtain ⟨u10, hb10, hu10, p10⟩ : ∃ U, Keeps NoB w3.drew U ∧ Keeps NoB U wz ∧ ((V 6) = (V 39)) := hd 10 (by decide)
    obtain ⟨u11, hb11, hu11, p11⟩ : ∃ U, Keeps NoB w3.drew U ∧ Keeps NoB U wz ∧ ((V 7) = Value.int .i64 0) := hd 11 (by decide)
    clear hd
    clear hb10 hu10
    clear hb11 hu11
    obtain ⟨g, kc, q9, hbx⟩ := p9
    simp only [rput, List.foldl_cons, List.foldl_nil, Act.put, List.setIfInBounds_toArray, List.set_cons_zero, List.set_cons_succ, p10, p11, q9]
    clear p10
    clear p11
    go_wp2_with fail
    go_ret2
    refine ⟨g, rfl, fun W hW => ?_, HK3.out.fresh (HKd.out.fresh hE)⟩
    obtain ⟨hg0, hg1, hg2⟩ := hbx.out
    have hWz : Keeps (fun b => b < z0) wz W := hW.mono (fun b hb _ => by have := HZ0.out; omega)
    have hu9' : Keeps (fun b => b < z0) u9 W := (hu9.mono (fun _ h _ => h.elim)).then hWz (fun i h _ => h)
    have hW3 : Keeps (fun b => b < z0) w3 W := (((HKd.out.fresh hE).mono (fun _ h _ => h.elim))).then hWz (fun i h _ => h)
    refine HEA.out W g ?_
    have hR := HR3.out.keeps hW3 (fun b hb e => by have := HZ0.out; have := hza.out; omega) (fun b hb e => by have := (HR3.out.base_le b hb).1; have := HZ0.out; have := hza.out; have e : b < z0 := e; omega)
    obtain ⟨A', c', e1, _, _, hrows⟩ := hR.reads
    injection e1 with e1 e2 e3
    subst e1
    exact ⟨s, kc, Ab, cb, hu9'.heap hg1 (fun e => by have e : g < z0 := e; omega), HSR.out W (hW3.mono (fun b hb _ => by have hb : b < z0 := hb; have := HZ0.out; have := hz1.out; show b < w1.heap.size; omega)), hg2 W hu9', hrows.mono (fun _ _ _ => trivial), HCB.out, HAB.out⟩
theorem emitNew_yes (p : Par) (session : Nat) (obj : List UInt8) (A : Option Addr) (cap : Nat) (R : Nat → Prop) (w : World) (hm : p.may) (hs : session < 18446744073709551616) (ho : BytesIn R w A obj) (hcap : obj.length ≤ cap) (hl : (obj.length : Int) ≤ p.n * p.b) :
    Calls Try.prog 13 #[p.val, .int .u64 (session : Int), .slice A obj.length cap] w fun e w' => ∃ c, e = .returned (.tuple #[.pointer (some ⟨c, 0, none⟩), .int .i64 0]) ∧ EncAt w' c p session obj ∧ Keeps NoB w w' :=
  (emitNew_core p session obj A cap R w hm hs ho hcap hl).mono (fun e w' ⟨c, h1, h2, h3⟩ => ⟨c, h1, h2 w' (Keeps.refl _ _), h3⟩)
end Go.Proofs.Ytnnkfopopanfjaa
