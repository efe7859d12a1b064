/- A packet's frame by the reference: the walks of almonryref06.May, Encode. Conditions: the header may be, the payload is as long as a block. -/
import Derived.Test.YtnnkfopopanfjaaGreatRefPut
import Derived.Test.YtnnkfopopanfjaaGreatDiv
import Derived.Test.YtnnkfopopanfjaaGreatEncode
set_option linter.unusedVariables false
set_option linter.unusedSimpArgs false
namespace Go.Proofs.YtnnkfopopanfjaaGreat
open Go.RowKit

theorem rput_own (bs : List UInt8) (A : Option Addr) (m c : Nat) (N size base : Nat) (w : World) (ho : OwnB w base (.slice A m c) bs) (hn : bs.length = m) (hb : base ≤ w.heap.size) (h1 : 1 ≤ size) (h8 : size ≤ 8) (hN : N < 18446744073709551616) (hm : m ≤ 1073741824) :
    Calls Tryz.prog 24 #[.slice A m c, .int .u64 (N : Int), .int .i64 (size : Int)] w fun e w' => ∃ A' c', e = .returned (.slice A' (m + size) c') ∧ OwnB w' base (.slice A' (m + size) c') (bs ++ beN size N) ∧ Keeps NoB w w' := by
  obtain ⟨A2, c2, e, _, hA, hbi⟩ := ho.reads
  injection e with e1 e2 e3
  subst e1 e3
  refine (rput_calls bs A m c N size _ w hn hA hbi h1 h8 hN hm).mono ?_
  rintro e w' ⟨v, rfl, ho', hk⟩
  obtain ⟨A3, c3, e3, _⟩ := ho'.reads
  rw [List.length_append, beN_length, hn] at e3
  subst e3
  exact ⟨A3, c3, rfl, OwnInts.lower ho' hb, hk⟩
set_option maxHeartbeats 1000000 in
set_option maxRecDepth 20000 in
theorem rmay6_calls (h : Hd) (w : World) : Calls Tryz.prog 23 #[h.val] w fun e w' => e = .returned (.bool (hokB h)) ∧ Keeps NoB w w' := by
  have hu := Tryz.underlying23
  have huh := Tryz.underlying53
  have HB := hid (heap_alloc_new w (.cells h.cells 53))
  have HK := hid ((Keeps.refl NoB w).alloc (.cells h.cells 53))
  have HCK := hid (may_calls h.par)
  have hcl : h.cells = #[.int .u64 (h.session : Int), .int .i64 h.par.n, .int .i64 h.par.b, .int .i64 h.par.q, .int .i64 h.par.eps, .int .i64 h.par.f, .int .i64 h.len, .int .u64 (h.id : Int)] := rfl
  unfold Hd.val
  unfold Par.val at HCK
  rw [hcl] at HB HK ⊢
  obtain ⟨wa, hwa⟩ : ∃ wa, w.alloc (.cells #[.int .u64 (h.session : Int), .int .i64 h.par.n, .int .i64 h.par.b, .int .i64 h.par.q, .int .i64 h.par.eps, .int .i64 h.par.f, .int .i64 h.len, .int .u64 (h.id : Int)] 53) = wa := ⟨_, rfl⟩
  rw [hwa] at HB HK
  obtain ⟨pb, hpb⟩ : ∃ pb, w.heap.size = pb := ⟨_, rfl⟩
  rw [hpb] at HB
  have HC0 := hid (fun (W : World) (hW : Keeps NoB wa W) => cells8 (h := h) (hW.heap HB.out (fun h => h)))
  clear hcl HB
  by_cases hm : h.par.may
  · have hc := hid (mayB_true hm)
    obtain ⟨N, B, e1, e2, e3, e4, e5, e6, e7, e8, hNB, hNB2⟩ := par_sizes hm
    have HM := hid hm
    have HNB := hid hNB
    have hNBi : h.par.n * h.par.b = ((N * B : Nat) : Int) := hNB
    generalize N * B = M at *
    clear e1 e2 e3 e4 e5 e6 e7 e8 hm hNB
    by_cases hl : h.len < 0
    · have d0 : decide (0 ≤ h.len) = false := decide_eq_false (by omega)
      have hr := hid (show hokB h = false from hokB_false (fun hk => by have := hk.2.1; omega))
      clear hl hNBi
      go_enter Tryz.func23, Tryz.ntmps23
      obtain ⟨b0, b1, b2, b3, b4, b5, b6, b7⟩ := HC0.out wa (Keeps.refl _ _)
      go_wp2_with fail
      refine (HCK.out _).mono ?_
      rintro e w1 ⟨rfl, HK1⟩
      rw [hc.out]
      have HK1 := hid HK1
      clear b0 b1 b2 b3 b4 b5 b6 b7 hwa hpb
      obtain ⟨b0, b1, b2, b3, b4, b5, b6, b7⟩ := HC0.out w1 HK1.out
      go_wp2_with fail
      go_ret
      exact ⟨by rw [hr.out]; rfl, HK.out.fresh HK1.out⟩
    · have d0 : decide (0 ≤ h.len) = true := decide_eq_true (by omega)
      have hr := hid (show hokB h = decide (h.len ≤ (M : Int)) by
        by_cases hx : h.len ≤ (M : Int)
        · rw [hokB_true ⟨HM.out, by omega, by rw [HNB.out]; exact hx⟩, decide_eq_true hx]
        · rw [hokB_false (fun hk => hx (by have := hk.2.2; rw [HNB.out] at this; exact this)), decide_eq_false hx])
      have m0 : (0 : Int) ≤ (M : Int) := by omega
      have m1 : (M : Int) ≤ 68718428160 := by omega
      have hw1 : wrap64 (M : Int) = (M : Int) := IntWalk.wrap64_in _ ⟨by omega, by omega⟩
      clear hl
      go_enter Tryz.func23, Tryz.ntmps23
      obtain ⟨b0, b1, b2, b3, b4, b5, b6, b7⟩ := HC0.out wa (Keeps.refl _ _)
      go_wp2_with fail
      refine (HCK.out _).mono ?_
      rintro e w1 ⟨rfl, HK1⟩
      rw [hc.out]
      have HK1 := hid HK1
      clear b0 b1 b2 b3 b4 b5 b6 b7 hwa hpb
      obtain ⟨b0, b1, b2, b3, b4, b5, b6, b7⟩ := HC0.out w1 HK1.out
      go_wp2_with fail
      go_ret
      exact ⟨by rw [hr.out]; rfl, HK.out.fresh HK1.out⟩
  · have hc := hid (mayB_false hm)
    have hr := hid (show hokB h = false from hokB_false (fun hk => hm hk.1))
    clear hm
    go_enter Tryz.func23, Tryz.ntmps23
    obtain ⟨b0, b1, b2, b3, b4, b5, b6, b7⟩ := HC0.out wa (Keeps.refl _ _)
    go_wp2_with fail
    refine (HCK.out _).mono ?_
    rintro e w1 ⟨rfl, HK1⟩
    rw [hc.out]
    have HK1 := hid HK1
    clear b0 b1 b2 b3 b4 b5 b6 b7 hwa hpb
    obtain ⟨b0, b1, b2, b3, b4, b5, b6, b7⟩ := HC0.out w1 HK1.out
    go_wp2_with fail
    go_ret
    exact ⟨by rw [hr.out]; rfl, HK.out.fresh HK1.out⟩
set_option maxHeartbeats 8000000 in
set_option maxRecDepth 20000 in
theorem rencode_calls (h : Hd) (pay : List UInt8) (A : Option Addr) (cap : Nat) (R : Nat → Prop) (w : World) (hok : h.ok) (hs : h.session < 18446744073709551616) (hi : h.id < 18446744073709551616) (hp : BytesIn R w A pay) (hl : (pay.length : Int) = h.par.b) (hA : A = none → cap = 0) (hcap : pay.length ≤ cap) :
    Calls Tryz.prog 16 #[.agg #[.int .u64 (h.session : Int), .int .i64 h.par.n, .int .i64 h.par.b, .int .i64 h.par.q, .int .i64 h.par.eps, .int .i64 h.par.f, .int .i64 h.len, .int .u64 (h.id : Int), .slice A pay.length cap]] w fun e w' => ∃ v, e = .returned (.tuple #[v, .int .i64 0]) ∧ OwnB w' w.heap.size v (encN h pay) ∧ Keeps NoB w w' := by
  have hu := Tryz.underlying23
  have huh := Tryz.underlying53
  have hui := Tryz.underlying25
  have HFC := hid (rmay6_calls h)
  have hfc := hid (hokB_true hok)
  obtain ⟨S, N, B, Q, E, F, L, I, hS, hI, hN, hB, hQ, hE, hF, hL, hh⟩ : ∃ S N B Q E F L I : Nat, S < 18446744073709551616 ∧ I < 18446744073709551616 ∧ N ≤ 1048576 ∧ B ≤ 65535 ∧ Q ≤ 8 ∧ E ≤ 1000 ∧ F ≤ 4096 ∧ L ≤ 68718428160 ∧ h = ⟨S, ⟨(N : Int), (B : Int), (Q : Int), (E : Int), (F : Int)⟩, (L : Int), I⟩ := by
    obtain ⟨N', B', _, _, _, _, _, _, _, _, hNB, hNB2⟩ := par_sizes hok.1
    obtain ⟨⟨a1, a2, a3, a4, a5, a6, a7, a8, a9, a10, _⟩, b1, b2⟩ := hok
    obtain ⟨S, ⟨n, b, q, e, f⟩, len, I⟩ := h
    simp only at *
    rw [hNB] at b2
    exact ⟨S, n.toNat, b.toNat, q.toNat, e.toNat, f.toNat, len.toNat, I, hs, hi, by omega, by omega, by omega, by omega, by omega, by omega, by congr 1 <;> first | omega | (congr 1 <;> omega)⟩
  have HL38 := hid (show (headN h ++ pay).length = 38 + B by rw [List.length_append, headN_length]; rw [hh] at hl; simp only at hl; omega)
  have HEN := hid (show sealB (headN h ++ pay) = encN h pay from rfl)
  have hits := hid (show (((((((((([] ++ beN 2 16716) ++ beN 1 1) ++ beN 8 S) ++ beN 4 N) ++ beN 2 B) ++ beN 1 Q) ++ beN 2 E) ++ beN 2 F) ++ beN 8 L) ++ beN 8 I) = headN h by rw [hh]; simp [headN])
  have hcl : h.cells = #[.int .u64 (S : Int), .int .i64 (N : Int), .int .i64 (B : Int), .int .i64 (Q : Int), .int .i64 (E : Int), .int .i64 (F : Int), .int .i64 (L : Int), .int .u64 (I : Int)] := by rw [hh]; rfl
  have hpl : pay.length = B := by rw [hh] at hl; simp only at hl; omega
  unfold Hd.val at HFC
  rw [hcl] at HFC
  rw [show (#[.int .u64 (h.session : Int), .int .i64 h.par.n, .int .i64 h.par.b, .int .i64 h.par.q, .int .i64 h.par.eps, .int .i64 h.par.f, .int .i64 h.len, .int .u64 (h.id : Int), .slice A pay.length cap] : Array Value) = #[.int .u64 (S : Int), .int .i64 (N : Int), .int .i64 (B : Int), .int .i64 (Q : Int), .int .i64 (E : Int), .int .i64 (F : Int), .int .i64 (L : Int), .int .u64 (I : Int), .slice A B cap] by rw [hh, hpl]]
  rw [hpl] at hcap
  have HPL := hid hpl
  have HP := hid hp
  have HA := hid hA
  have i1 : (0 : Int) ≤ (N : Int) := by omega
  have i2 : (0 : Int) ≤ (B : Int) := by omega
  have i3 : (0 : Int) ≤ (Q : Int) := by omega
  have i4 : (0 : Int) ≤ (E : Int) := by omega
  have i5 : (0 : Int) ≤ (F : Int) := by omega
  have i6 : (0 : Int) ≤ (L : Int) := by omega
  have dB : ((B : Int) != (B : Int)) = false := by simp
  have hwN : IntKind.u64.wrap (N : Int) = (N : Int) := wrap_nat N (by omega)
  have hwB : IntKind.u64.wrap (B : Int) = (B : Int) := wrap_nat B (by omega)
  have hwQ : IntKind.u64.wrap (Q : Int) = (Q : Int) := wrap_nat Q (by omega)
  have hwE : IntKind.u64.wrap (E : Int) = (E : Int) := wrap_nat E (by omega)
  have hwF : IntKind.u64.wrap (F : Int) = (F : Int) := wrap_nat F (by omega)
  have hwL : IntKind.u64.wrap (L : Int) = (L : Int) := wrap_nat L (by omega)
  have HB := hid (heap_alloc_new w (.cells #[.int .u64 (S : Int), .int .i64 (N : Int), .int .i64 (B : Int), .int .i64 (Q : Int), .int .i64 (E : Int), .int .i64 (F : Int), .int .i64 (L : Int), .int .u64 (I : Int), .slice A B cap] 55))
  have HK := hid ((Keeps.refl NoB w).alloc (.cells #[.int .u64 (S : Int), .int .i64 (N : Int), .int .i64 (B : Int), .int .i64 (Q : Int), .int .i64 (E : Int), .int .i64 (F : Int), .int .i64 (L : Int), .int .u64 (I : Int), .slice A B cap] 55))
  obtain ⟨wa, hwa⟩ : ∃ wa, w.alloc (.cells #[.int .u64 (S : Int), .int .i64 (N : Int), .int .i64 (B : Int), .int .i64 (Q : Int), .int .i64 (E : Int), .int .i64 (F : Int), .int .i64 (L : Int), .int .u64 (I : Int), .slice A B cap] 55) = wa := ⟨_, rfl⟩
  rw [hwa] at HB HK
  obtain ⟨pb, hpb⟩ : ∃ pb, w.heap.size = pb := ⟨_, rfl⟩
  have HPB := hid hpb
  rw [hpb] at HB
  have HC0 := hid (fun (W : World) (hW : Keeps NoB wa W) => cells9 (hW.heap HB.out (fun h => h)))
  clear hh hcl hpl hl hp hA hok hs hi
  go_enter Tryz.func16, Tryz.ntmps16
  obtain ⟨b0, b1, b2, b3, b4, b5, b6, b7, b8⟩ := HC0.out wa (Keeps.refl _ _)
  go_wp2_with fail
  refine (HFC.out _).mono ?_
  rintro e w1 ⟨rfl, HK1⟩
  rw [hfc.out]
  have HLD1 := hid (fun (W : World) (hW : Keeps NoB w1 W) => HC0.out W (HK1.fresh hW))
  have HK01 := hid (HK.out.fresh HK1)
  have HZ1 := hid (show w.heap.size ≤ w1.heap.size from HK01.out.size)
  obtain ⟨z0, hz0⟩ : ∃ z0, w.heap.size = z0 := ⟨_, rfl⟩
  rw [hz0] at HZ1
  have HZ0 := hid hz0
  clear b0 b1 b2 b3 b4 b5 b6 b7 b8 hwa HC0 HK1 hpb
  obtain ⟨b0, b1, b2, b3, b4, b5, b6, b7, b8⟩ := HLD1.out w1 (Keeps.refl _ _)
  go_wp2_with fail
  refine (rput_own [] none 0 0 16716 2 z0 _ (OwnInts.nil _ _ _ _) rfl HZ1.out (by omega) (by omega) (by omega) (by omega)).mono ?_
  rintro e w2 ⟨A2, c2, rfl, ho2, hk2⟩
  have hz2 := hk2.size
  go_wp2_with fail
  refine (rput_own ([] ++ beN 2 16716) A2 (0 + 2) c2 1 1 z0 _ ho2 (by rw [List.length_append, beN_length]; rfl) (by have := HZ1.out; omega) (by omega) (by omega) (by omega) (by omega)).mono ?_
  rintro e w3 ⟨Ak, ck, rfl, ho3, hk3⟩
  have HKk := hid (hk2.fresh hk3)
  have HOk := hid ho3
  have HLD := HLD1
  have HZk := hid (show z0 ≤ w3.heap.size by have := HZ1.out; have := hk3.size; omega)
  have HLk := hid (show (([] ++ beN 2 16716) ++ beN 1 1).length = 3 by rw [List.length_append, List.length_append, beN_length, beN_length]; rfl)
  clear b0 b1 b2 b3 b4 b5 b6 b7 b8 hk2 hk3 ho2 ho3 hz2 hz0
  go_wp2_with fail
  refine wp_region_list [([], [19], []), ([], [20], []), ([1], [21], [20]), ([1, 2], [22], [20, 21]), ([0, 1, 2, 3], [23], [19, 20, 21, 22]), ([], [24], []), ([5], [25], [24]), ([5, 6], [26], [24, 25]), ([5, 6, 7], [27], [24, 25, 26]), ([5, 6, 7, 8], [28], [24, 25, 26, 27]), ([0, 1, 2, 3, 4, 5, 6, 7, 8, 9], [29], [19, 20, 21, 22, 23, 24, 25, 26, 27, 28]), ([0, 1, 2, 3, 4, 5, 6, 7, 8, 9, 10], [4], [19, 20, 21, 22, 23, 24, 25, 26, 27, 28, 29])] [19, 20, 21, 22, 23, 24, 25, 26, 27, 28, 29, 4] (Keeps NoB) (fun (i : Nat) => ([(fun rs__ U => (rs__.getD 0 undef) = Value.slice Ak 3 ck), (fun rs__ U => (rs__.getD 0 undef) = Value.pointer (some ⟨pb, 0, none⟩)), (fun rs__ U => (rs__.getD 0 undef) = Value.pointer (some ⟨pb, 0, none⟩)), (fun rs__ U => (rs__.getD 0 undef) = Value.int .u64 (S : Int)), (fun rs__ U => ∃ A5 c5, (rs__.getD 0 undef) = Value.slice A5 11 c5 ∧ Hid (OwnB U z0 (Value.slice A5 11 c5) ((([] ++ beN 2 16716) ++ beN 1 1) ++ beN 8 S))), (fun rs__ U => (rs__.getD 0 undef) = Value.pointer (some ⟨pb, 0, none⟩)), (fun rs__ U => (rs__.getD 0 undef) = Value.pointer (some ⟨pb, 1, none⟩)), (fun rs__ U => (rs__.getD 0 undef) = Value.pointer (some ⟨pb, 1, none⟩)), (fun rs__ U => (rs__.getD 0 undef) = Value.int .i64 (N : Int)), (fun rs__ U => (rs__.getD 0 undef) = Value.int .u64 (N : Int)), (fun rs__ U => ∃ A5 c5, (rs__.getD 0 undef) = Value.slice A5 15 c5 ∧ Hid (OwnB U z0 (Value.slice A5 15 c5) (((([] ++ beN 2 16716) ++ beN 1 1) ++ beN 8 S) ++ beN 4 N))), (fun rs__ U => ∃ A5 c5, (rs__.getD 0 undef) = Value.slice A5 15 c5 ∧ Hid (OwnB U z0 (Value.slice A5 15 c5) (((([] ++ beN 2 16716) ++ beN 1 1) ++ beN 8 S) ++ beN 4 N)))] : List (List Value → World → Prop)).getD i (fun _ _ => True)) (by kernel_rfl) (by kernel_rfl) (by kernel_rfl) (fun _ _ _ h1 h2 => h1.fresh h2) (fun _ => Keeps.refl _ _) (RL.cons ?s0 (RL.cons ?s1 (RL.cons ?s2 (RL.cons ?s3 (RL.cons ?s4 (RL.cons ?s5 (RL.cons ?s6 (RL.cons ?s7 (RL.cons ?s8 (RL.cons ?s9 (RL.cons ?s10 (RL.cons ?s11 (RL.nil _ _))))))))))))) ?fin6
  case s0 =>
    intro V wx hE hd
    clear hd
    intro K hK
    simp only [rput, List.foldl_cons, List.foldl_nil, Act.put, List.setIfInBounds_toArray, List.set_cons_zero, List.set_cons_succ]
    go_simp; (with_reducible refine hK.out _ _ ?_ ?_); exact rfl; exact ⟨Keeps.refl _ _, rfl⟩
  case s1 =>
    intro V wx hE hd
    clear hd
    intro K hK
    simp only [rput, List.foldl_cons, List.foldl_nil, Act.put, List.setIfInBounds_toArray, List.set_cons_zero, List.set_cons_succ]
    go_simp; (with_reducible refine hK.out _ _ ?_ ?_); exact rfl; exact ⟨Keeps.refl _ _, rfl⟩
  case s2 =>
    intro V wx hE hd
    obtain ⟨u1, hb1, hu1, p1⟩ : ∃ U, Keeps NoB w3.drew U ∧ Keeps NoB U wx ∧ ((V 20) = Value.pointer (some ⟨pb, 0, none⟩)) := hd 1 (by decide)
    clear hd
    clear hb1 hu1
    intro K hK
    simp only [rput, List.foldl_cons, List.foldl_nil, Act.put, List.setIfInBounds_toArray, List.set_cons_zero, List.set_cons_succ, p1]
    go_simp; (with_reducible refine hK.out _ _ ?_ ?_); exact rfl; exact ⟨Keeps.refl _ _, rfl⟩
  case s3 =>
    intro V wx hE hd
    obtain ⟨u2, hb2, hu2, p2⟩ : ∃ U, Keeps NoB w3.drew U ∧ Keeps NoB U wx ∧ ((V 21) = Value.pointer (some ⟨pb, 0, none⟩)) := hd 2 (by decide)
    clear hd
    clear hb2 hu2
    intro K hK
    simp only [rput, List.foldl_cons, List.foldl_nil, Act.put, List.setIfInBounds_toArray, List.set_cons_zero, List.set_cons_succ, p2]
    obtain ⟨l0, l1, l2, l3, l4, l5, l6, l7, l8⟩ := HLD.out wx ((HKk.out.drew).fresh hE); go_simp; (with_reducible refine hK.out _ _ ?_ ?_); exact rfl; exact ⟨Keeps.refl _ _, rfl⟩
  case s4 =>
    intro V wx hE hd
    obtain ⟨u0, hb0, hu0, p0⟩ : ∃ U, Keeps NoB w3.drew U ∧ Keeps NoB U wx ∧ ((V 19) = Value.slice Ak 3 ck) := hd 0 (by decide)
    obtain ⟨u3, hb3, hu3, p3⟩ : ∃ U, Keeps NoB w3.drew U ∧ Keeps NoB U wx ∧ ((V 22) = Value.int .u64 (S : Int)) := hd 3 (by decide)
    clear hd
    clear hb0 hu0
    clear hb3 hu3
    intro K hK
    simp only [rput, List.foldl_cons, List.foldl_nil, Act.put, List.setIfInBounds_toArray, List.set_cons_zero, List.set_cons_succ, p0, p3]
    go_simp; refine (rput_own (([] ++ beN 2 16716) ++ beN 1 1) Ak 3 ck S 8 z0 wx (OwnInts.kept HOk.out ((Keeps.refl NoB w3).drew.fresh hE)) HLk.out (by have := HZk.out; have := ((Keeps.refl NoB w3).drew.fresh hE).size; omega) (by omega) (by omega) (by omega) (by omega)).mono ?_; rintro e w5 ⟨A5, c5, rfl, ho5, hk5⟩; (with_reducible refine hK.out _ _ ?_ ?_); exact rfl; exact ⟨hk5, A5, c5, rfl, hid ho5⟩
  case s5 =>
    intro V wx hE hd
    clear hd
    intro K hK
    simp only [rput, List.foldl_cons, List.foldl_nil, Act.put, List.setIfInBounds_toArray, List.set_cons_zero, List.set_cons_succ]
    go_simp; (with_reducible refine hK.out _ _ ?_ ?_); exact rfl; exact ⟨Keeps.refl _ _, rfl⟩
  case s6 =>
    intro V wx hE hd
    obtain ⟨u5, hb5, hu5, p5⟩ : ∃ U, Keeps NoB w3.drew U ∧ Keeps NoB U wx ∧ ((V 24) = Value.pointer (some ⟨pb, 0, none⟩)) := hd 5 (by decide)
    clear hd
    clear hb5 hu5
    intro K hK
    simp only [rput, List.foldl_cons, List.foldl_nil, Act.put, List.setIfInBounds_toArray, List.set_cons_zero, List.set_cons_succ, p5]
    go_simp; (with_reducible refine hK.out _ _ ?_ ?_); exact rfl; exact ⟨Keeps.refl _ _, rfl⟩
  case s7 =>
    intro V wx hE hd
    obtain ⟨u6, hb6, hu6, p6⟩ : ∃ U, Keeps NoB w3.drew U ∧ Keeps NoB U wx ∧ ((V 25) = Value.pointer (some ⟨pb, 1, none⟩)) := hd 6 (by decide)
    clear hd
    clear hb6 hu6
    intro K hK
    simp only [rput, List.foldl_cons, List.foldl_nil, Act.put, List.setIfInBounds_toArray, List.set_cons_zero, List.set_cons_succ, p6]
    go_simp; (with_reducible refine hK.out _ _ ?_ ?_); exact rfl; exact ⟨Keeps.refl _ _, rfl⟩
  case s8 =>
    intro V wx hE hd
    obtain ⟨u7, hb7, hu7, p7⟩ : ∃ U, Keeps NoB w3.drew U ∧ Keeps NoB U wx ∧ ((V 26) = Value.pointer (some ⟨pb, 1, none⟩)) := hd 7 (by decide)
    clear hd
    clear hb7 hu7
    intro K hK
    simp only [rput, List.foldl_cons, List.foldl_nil, Act.put, List.setIfInBounds_toArray, List.set_cons_zero, List.set_cons_succ, p7]
    obtain ⟨l0, l1, l2, l3, l4, l5, l6, l7, l8⟩ := HLD.out wx ((HKk.out.drew).fresh hE); go_simp; (with_reducible refine hK.out _ _ ?_ ?_); exact rfl; exact ⟨Keeps.refl _ _, rfl⟩
  case s9 =>
    intro V wx hE hd
    obtain ⟨u8, hb8, hu8, p8⟩ : ∃ U, Keeps NoB w3.drew U ∧ Keeps NoB U wx ∧ ((V 27) = Value.int .i64 (N : Int)) := hd 8 (by decide)
    clear hd
    clear hb8 hu8
    intro K hK
    simp only [rput, List.foldl_cons, List.foldl_nil, Act.put, List.setIfInBounds_toArray, List.set_cons_zero, List.set_cons_succ, p8]
    go_simp; (with_reducible refine hK.out _ _ ?_ ?_); exact rfl; exact ⟨Keeps.refl _ _, rfl⟩
  case s10 =>
    intro V wx hE hd
    obtain ⟨u4, hb4, hu4, p4⟩ : ∃ U, Keeps NoB w3.drew U ∧ Keeps NoB U wx ∧ (∃ A5 c5, (V 23) = Value.slice A5 11 c5 ∧ Hid (OwnB U z0 (Value.slice A5 11 c5) ((([] ++ beN 2 16716) ++ beN 1 1) ++ beN 8 S))) := hd 4 (by decide)
    obtain ⟨u9, hb9, hu9, p9⟩ : ∃ U, Keeps NoB w3.drew U ∧ Keeps NoB U wx ∧ ((V 28) = Value.int .u64 (N : Int)) := hd 9 (by decide)
    clear hd
    clear hb9 hu9
    obtain ⟨A5, c5, q4, ho5⟩ := p4
    intro K hK
    simp only [rput, List.foldl_cons, List.foldl_nil, Act.put, List.setIfInBounds_toArray, List.set_cons_zero, List.set_cons_succ, p9, q4]
    go_simp; refine (rput_own ((([] ++ beN 2 16716) ++ beN 1 1) ++ beN 8 S) A5 11 c5 N 4 z0 wx (OwnInts.kept ho5.out hu4) (by rw [List.length_append, HLk.out, beN_length]) (by have := HZk.out; have := ((Keeps.refl NoB w3).drew.fresh hE).size; omega) (by omega) (by omega) (by omega) (by omega)).mono ?_; rintro e w6 ⟨A6, c6, rfl, ho6, hk6⟩; (with_reducible refine hK.out _ _ ?_ ?_); exact rfl; exact ⟨hk6, A6, c6, rfl, hid ho6⟩
  case s11 =>
    intro V wx hE hd
    obtain ⟨u10, hb10, hu10, p10⟩ : ∃ U, Keeps NoB w3.drew U ∧ Keeps NoB U wx ∧ (∃ A5 c5, (V 29) = Value.slice A5 15 c5 ∧ Hid (OwnB U z0 (Value.slice A5 15 c5) (((([] ++ beN 2 16716) ++ beN 1 1) ++ beN 8 S) ++ beN 4 N))) := hd 10 (by decide)
    clear hd
    obtain ⟨A5, c5, q10, ho5⟩ := p10
    intro K hK
    simp only [rput, List.foldl_cons, List.foldl_nil, Act.put, List.setIfInBounds_toArray, List.set_cons_zero, List.set_cons_succ, q10]
    go_simp; (with_reducible refine hK.out _ _ ?_ ?_); exact rfl; exact ⟨Keeps.refl _ _, A5, c5, rfl, hid (OwnInts.kept ho5.out hu10)⟩
  case fin6 =>
    intro V wz hE hd
    obtain ⟨u11, hb11, hu11, p11⟩ : ∃ U, Keeps NoB w3.drew U ∧ Keeps NoB U wz ∧ (∃ A5 c5, (V 4) = Value.slice A5 15 c5 ∧ Hid (OwnB U z0 (Value.slice A5 15 c5) (((([] ++ beN 2 16716) ++ beN 1 1) ++ beN 8 S) ++ beN 4 N))) := hd 11 (by decide)
    clear hd
    obtain ⟨A5, c5, q11, ho5⟩ := p11
    simp only [rput, List.foldl_cons, List.foldl_nil, Act.put, List.setIfInBounds_toArray, List.set_cons_zero, List.set_cons_succ, q11]
    have HKk := hid (HKk.out.drew.fresh hE)
    have HOk := hid (OwnInts.kept ho5.out hu11)
    have HZk := hid (show z0 ≤ wz.heap.size by have := HZk.out; have := ((Keeps.refl NoB w3).drew.fresh hE).size; omega)
    have HLk := hid (show ((((([] ++ beN 2 16716) ++ beN 1 1) ++ beN 8 S) ++ beN 4 N)).length = 15 by rw [List.length_append, List.length_append, HLk.out, beN_length, beN_length])
    clear hE ho5 hu11 hb11 q11
    generalize wz = w16 at *
    generalize A5 = Ak at *
    generalize c5 = ck at *
    go_wp2_with fail
    refine wp_region_list [([], [30], []), ([], [31], []), ([1], [32], [31]), ([1, 2], [33], [31, 32]), ([1, 2, 3], [34], [31, 32, 33]), ([1, 2, 3, 4], [35], [31, 32, 33, 34]), ([0, 1, 2, 3, 4, 5], [36], [30, 31, 32, 33, 34, 35]), ([], [37], []), ([7], [38], [37]), ([7, 8], [39], [37, 38]), ([7, 8, 9], [40], [37, 38, 39]), ([7, 8, 9, 10], [41], [37, 38, 39, 40]), ([0, 1, 2, 3, 4, 5, 6, 7, 8, 9, 10, 11], [42], [30, 31, 32, 33, 34, 35, 36, 37, 38, 39, 40, 41]), ([0, 1, 2, 3, 4, 5, 6, 7, 8, 9, 10, 11, 12], [4], [30, 31, 32, 33, 34, 35, 36, 37, 38, 39, 40, 41, 42])] [30, 31, 32, 33, 34, 35, 36, 37, 38, 39, 40, 41, 42, 4] (Keeps NoB) (fun (i : Nat) => ([(fun rs__ U => (rs__.getD 0 undef) = Value.slice Ak 15 ck), (fun rs__ U => (rs__.getD 0 undef) = Value.pointer (some ⟨pb, 0, none⟩)), (fun rs__ U => (rs__.getD 0 undef) = Value.pointer (some ⟨pb, 1, none⟩)), (fun rs__ U => (rs__.getD 0 undef) = Value.pointer (some ⟨pb, 2, none⟩)), (fun rs__ U => (rs__.getD 0 undef) = Value.int .i64 (B : Int)), (fun rs__ U => (rs__.getD 0 undef) = Value.int .u64 (B : Int)), (fun rs__ U => ∃ A5 c5, (rs__.getD 0 undef) = Value.slice A5 17 c5 ∧ Hid (OwnB U z0 (Value.slice A5 17 c5) ((((([] ++ beN 2 16716) ++ beN 1 1) ++ beN 8 S) ++ beN 4 N) ++ beN 2 B))), (fun rs__ U => (rs__.getD 0 undef) = Value.pointer (some ⟨pb, 0, none⟩)), (fun rs__ U => (rs__.getD 0 undef) = Value.pointer (some ⟨pb, 1, none⟩)), (fun rs__ U => (rs__.getD 0 undef) = Value.pointer (some ⟨pb, 3, none⟩)), (fun rs__ U => (rs__.getD 0 undef) = Value.int .i64 (Q : Int)), (fun rs__ U => (rs__.getD 0 undef) = Value.int .u64 (Q : Int)), (fun rs__ U => ∃ A5 c5, (rs__.getD 0 undef) = Value.slice A5 18 c5 ∧ Hid (OwnB U z0 (Value.slice A5 18 c5) (((((([] ++ beN 2 16716) ++ beN 1 1) ++ beN 8 S) ++ beN 4 N) ++ beN 2 B) ++ beN 1 Q))), (fun rs__ U => ∃ A5 c5, (rs__.getD 0 undef) = Value.slice A5 18 c5 ∧ Hid (OwnB U z0 (Value.slice A5 18 c5) (((((([] ++ beN 2 16716) ++ beN 1 1) ++ beN 8 S) ++ beN 4 N) ++ beN 2 B) ++ beN 1 Q)))] : List (List Value → World → Prop)).getD i (fun _ _ => True)) (by kernel_rfl) (by kernel_rfl) (by kernel_rfl) (fun _ _ _ h1 h2 => h1.fresh h2) (fun _ => Keeps.refl _ _) (RL.cons ?s0 (RL.cons ?s1 (RL.cons ?s2 (RL.cons ?s3 (RL.cons ?s4 (RL.cons ?s5 (RL.cons ?s6 (RL.cons ?s7 (RL.cons ?s8 (RL.cons ?s9 (RL.cons ?s10 (RL.cons ?s11 (RL.cons ?s12 (RL.cons ?s13 (RL.nil _ _))))))))))))))) ?fin7
    case s0 =>
      intro V wx hE hd
      clear hd
      intro K hK
      simp only [rput, List.foldl_cons, List.foldl_nil, Act.put, List.setIfInBounds_toArray, List.set_cons_zero, List.set_cons_succ]
      go_simp; (with_reducible refine hK.out _ _ ?_ ?_); exact rfl; exact ⟨Keeps.refl _ _, rfl⟩
    case s1 =>
      intro V wx hE hd
      clear hd
      intro K hK
      simp only [rput, List.foldl_cons, List.foldl_nil, Act.put, List.setIfInBounds_toArray, List.set_cons_zero, List.set_cons_succ]
      go_simp; (with_reducible refine hK.out _ _ ?_ ?_); exact rfl; exact ⟨Keeps.refl _ _, rfl⟩
    case s2 =>
      intro V wx hE hd
      obtain ⟨u1, hb1, hu1, p1⟩ : ∃ U, Keeps NoB w16.drew U ∧ Keeps NoB U wx ∧ ((V 31) = Value.pointer (some ⟨pb, 0, none⟩)) := hd 1 (by decide)
      clear hd
      clear hb1 hu1
      intro K hK
      simp only [rput, List.foldl_cons, List.foldl_nil, Act.put, List.setIfInBounds_toArray, List.set_cons_zero, List.set_cons_succ, p1]
      go_simp; (with_reducible refine hK.out _ _ ?_ ?_); exact rfl; exact ⟨Keeps.refl _ _, rfl⟩
    case s3 =>
      intro V wx hE hd
      obtain ⟨u2, hb2, hu2, p2⟩ : ∃ U, Keeps NoB w16.drew U ∧ Keeps NoB U wx ∧ ((V 32) = Value.pointer (some ⟨pb, 1, none⟩)) := hd 2 (by decide)
      clear hd
      clear hb2 hu2
      intro K hK
      simp only [rput, List.foldl_cons, List.foldl_nil, Act.put, List.setIfInBounds_toArray, List.set_cons_zero, List.set_cons_succ, p2]
      go_simp; (with_reducible refine hK.out _ _ ?_ ?_); exact rfl; exact ⟨Keeps.refl _ _, rfl⟩
    case s4 =>
      intro V wx hE hd
      obtain ⟨u3, hb3, hu3, p3⟩ : ∃ U, Keeps NoB w16.drew U ∧ Keeps NoB U wx ∧ ((V 33) = Value.pointer (some ⟨pb, 2, none⟩)) := hd 3 (by decide)
      clear hd
      clear hb3 hu3
      intro K hK
      simp only [rput, List.foldl_cons, List.foldl_nil, Act.put, List.setIfInBounds_toArray, List.set_cons_zero, List.set_cons_succ, p3]
      obtain ⟨l0, l1, l2, l3, l4, l5, l6, l7, l8⟩ := HLD.out wx ((HKk.out.drew).fresh hE); go_simp; (with_reducible refine hK.out _ _ ?_ ?_); exact rfl; exact ⟨Keeps.refl _ _, rfl⟩
    case s5 =>
      intro V wx hE hd
      obtain ⟨u4, hb4, hu4, p4⟩ : ∃ U, Keeps NoB w16.drew U ∧ Keeps NoB U wx ∧ ((V 34) = Value.int .i64 (B : Int)) := hd 4 (by decide)
      clear hd
      clear hb4 hu4
      intro K hK
      simp only [rput, List.foldl_cons, List.foldl_nil, Act.put, List.setIfInBounds_toArray, List.set_cons_zero, List.set_cons_succ, p4]
      go_simp; (with_reducible refine hK.out _ _ ?_ ?_); exact rfl; exact ⟨Keeps.refl _ _, rfl⟩
    case s6 =>
      intro V wx hE hd
      obtain ⟨u0, hb0, hu0, p0⟩ : ∃ U, Keeps NoB w16.drew U ∧ Keeps NoB U wx ∧ ((V 30) = Value.slice Ak 15 ck) := hd 0 (by decide)
      obtain ⟨u5, hb5, hu5, p5⟩ : ∃ U, Keeps NoB w16.drew U ∧ Keeps NoB U wx ∧ ((V 35) = Value.int .u64 (B : Int)) := hd 5 (by decide)
      clear hd
      clear hb0 hu0
      clear hb5 hu5
      intro K hK
      simp only [rput, List.foldl_cons, List.foldl_nil, Act.put, List.setIfInBounds_toArray, List.set_cons_zero, List.set_cons_succ, p0, p5]
      go_simp; refine (rput_own (((([] ++ beN 2 16716) ++ beN 1 1) ++ beN 8 S) ++ beN 4 N) Ak 15 ck B 2 z0 wx (OwnInts.kept HOk.out ((Keeps.refl NoB w16).drew.fresh hE)) HLk.out (by have := HZk.out; have := ((Keeps.refl NoB w16).drew.fresh hE).size; omega) (by omega) (by omega) (by omega) (by omega)).mono ?_; rintro e w5 ⟨A5, c5, rfl, ho5, hk5⟩; (with_reducible refine hK.out _ _ ?_ ?_); exact rfl; exact ⟨hk5, A5, c5, rfl, hid ho5⟩
    case s7 =>
      intro V wx hE hd
      clear hd
      intro K hK
      simp only [rput, List.foldl_cons, List.foldl_nil, Act.put, List.setIfInBounds_toArray, List.set_cons_zero, List.set_cons_succ]
      go_simp; (with_reducible refine hK.out _ _ ?_ ?_); exact rfl; exact ⟨Keeps.refl _ _, rfl⟩
    case s8 =>
      intro V wx hE hd
      obtain ⟨u7, hb7, hu7, p7⟩ : ∃ U, Keeps NoB w16.drew U ∧ Keeps NoB U wx ∧ ((V 37) = Value.pointer (some ⟨pb, 0, none⟩)) := hd 7 (by decide)
      clear hd
      clear hb7 hu7
      intro K hK
      simp only [rput, List.foldl_cons, List.foldl_nil, Act.put, List.setIfInBounds_toArray, List.set_cons_zero, List.set_cons_succ, p7]
      go_simp; (with_reducible refine hK.out _ _ ?_ ?_); exact rfl; exact ⟨Keeps.refl _ _, rfl⟩
    case s9 =>
      intro V wx hE hd
      obtain ⟨u8, hb8, hu8, p8⟩ : ∃ U, Keeps NoB w16.drew U ∧ Keeps NoB U wx ∧ ((V 38) = Value.pointer (some ⟨pb, 1, none⟩)) := hd 8 (by decide)
      clear hd
      clear hb8 hu8
      intro K hK
      simp only [rput, List.foldl_cons, List.foldl_nil, Act.put, List.setIfInBounds_toArray, List.set_cons_zero, List.set_cons_succ, p8]
      go_simp; (with_reducible refine hK.out _ _ ?_ ?_); exact rfl; exact ⟨Keeps.refl _ _, rfl⟩
    case s10 =>
      intro V wx hE hd
      obtain ⟨u9, hb9, hu9, p9⟩ : ∃ U, Keeps NoB w16.drew U ∧ Keeps NoB U wx ∧ ((V 39) = Value.pointer (some ⟨pb, 3, none⟩)) := hd 9 (by decide)
      clear hd
      clear hb9 hu9
      intro K hK
      simp only [rput, List.foldl_cons, List.foldl_nil, Act.put, List.setIfInBounds_toArray, List.set_cons_zero, List.set_cons_succ, p9]
      obtain ⟨l0, l1, l2, l3, l4, l5, l6, l7, l8⟩ := HLD.out wx ((HKk.out.drew).fresh hE); go_simp; (with_reducible refine hK.out _ _ ?_ ?_); exact rfl; exact ⟨Keeps.refl _ _, rfl⟩
    case s11 =>
      intro V wx hE hd
      obtain ⟨u10, hb10, hu10, p10⟩ : ∃ U, Keeps NoB w16.drew U ∧ Keeps NoB U wx ∧ ((V 40) = Value.int .i64 (Q : Int)) := hd 10 (by decide)
      clear hd
      clear hb10 hu10
      intro K hK
      simp only [rput, List.foldl_cons, List.foldl_nil, Act.put, List.setIfInBounds_toArray, List.set_cons_zero, List.set_cons_succ, p10]
      go_simp; (with_reducible refine hK.out _ _ ?_ ?_); exact rfl; exact ⟨Keeps.refl _ _, rfl⟩
    case s12 =>
      intro V wx hE hd
      obtain ⟨u6, hb6, hu6, p6⟩ : ∃ U, Keeps NoB w16.drew U ∧ Keeps NoB U wx ∧ (∃ A5 c5, (V 36) = Value.slice A5 17 c5 ∧ Hid (OwnB U z0 (Value.slice A5 17 c5) ((((([] ++ beN 2 16716) ++ beN 1 1) ++ beN 8 S) ++ beN 4 N) ++ beN 2 B))) := hd 6 (by decide)
      obtain ⟨u11, hb11, hu11, p11⟩ : ∃ U, Keeps NoB w16.drew U ∧ Keeps NoB U wx ∧ ((V 41) = Value.int .u64 (Q : Int)) := hd 11 (by decide)
      clear hd
      clear hb11 hu11
      obtain ⟨A5, c5, q6, ho5⟩ := p6
      intro K hK
      simp only [rput, List.foldl_cons, List.foldl_nil, Act.put, List.setIfInBounds_toArray, List.set_cons_zero, List.set_cons_succ, p11, q6]
      go_simp; refine (rput_own ((((([] ++ beN 2 16716) ++ beN 1 1) ++ beN 8 S) ++ beN 4 N) ++ beN 2 B) A5 17 c5 Q 1 z0 wx (OwnInts.kept ho5.out hu6) (by rw [List.length_append, HLk.out, beN_length]) (by have := HZk.out; have := ((Keeps.refl NoB w16).drew.fresh hE).size; omega) (by omega) (by omega) (by omega) (by omega)).mono ?_; rintro e w6 ⟨A6, c6, rfl, ho6, hk6⟩; (with_reducible refine hK.out _ _ ?_ ?_); exact rfl; exact ⟨hk6, A6, c6, rfl, hid ho6⟩
    case s13 =>
      intro V wx hE hd
      obtain ⟨u12, hb12, hu12, p12⟩ : ∃ U, Keeps NoB w16.drew U ∧ Keeps NoB U wx ∧ (∃ A5 c5, (V 42) = Value.slice A5 18 c5 ∧ Hid (OwnB U z0 (Value.slice A5 18 c5) (((((([] ++ beN 2 16716) ++ beN 1 1) ++ beN 8 S) ++ beN 4 N) ++ beN 2 B) ++ beN 1 Q))) := hd 12 (by decide)
      clear hd
      obtain ⟨A5, c5, q12, ho5⟩ := p12
      intro K hK
      simp only [rput, List.foldl_cons, List.foldl_nil, Act.put, List.setIfInBounds_toArray, List.set_cons_zero, List.set_cons_succ, q12]
      go_simp; (with_reducible refine hK.out _ _ ?_ ?_); exact rfl; exact ⟨Keeps.refl _ _, A5, c5, rfl, hid (OwnInts.kept ho5.out hu12)⟩
    case fin7 =>
      intro V wz hE hd
      obtain ⟨u13, hb13, hu13, p13⟩ : ∃ U, Keeps NoB w16.drew U ∧ Keeps NoB U wz ∧ (∃ A5 c5, (V 4) = Value.slice A5 18 c5 ∧ Hid (OwnB U z0 (Value.slice A5 18 c5) (((((([] ++ beN 2 16716) ++ beN 1 1) ++ beN 8 S) ++ beN 4 N) ++ beN 2 B) ++ beN 1 Q))) := hd 13 (by decide)
      clear hd
      obtain ⟨A5, c5, q13, ho5⟩ := p13
      simp only [rput, List.foldl_cons, List.foldl_nil, Act.put, List.setIfInBounds_toArray, List.set_cons_zero, List.set_cons_succ, q13]
      have HKk := hid (HKk.out.drew.fresh hE)
      have HOk := hid (OwnInts.kept ho5.out hu13)
      have HZk := hid (show z0 ≤ wz.heap.size by have := HZk.out; have := ((Keeps.refl NoB w16).drew.fresh hE).size; omega)
      have HLk := hid (show ((((((([] ++ beN 2 16716) ++ beN 1 1) ++ beN 8 S) ++ beN 4 N) ++ beN 2 B) ++ beN 1 Q)).length = 18 by rw [List.length_append, List.length_append, HLk.out, beN_length, beN_length])
      clear hE ho5 hu13 hb13 q13
      generalize wz = w17 at *
      generalize A5 = Ak at *
      generalize c5 = ck at *
      go_wp2_with fail
      refine wp_region_list [([], [43], []), ([], [44], []), ([1], [45], [44]), ([1, 2], [46], [44, 45]), ([1, 2, 3], [47], [44, 45, 46]), ([1, 2, 3, 4], [48], [44, 45, 46, 47]), ([0, 1, 2, 3, 4, 5], [49], [43, 44, 45, 46, 47, 48]), ([], [50], []), ([7], [51], [50]), ([7, 8], [52], [50, 51]), ([7, 8, 9], [53], [50, 51, 52]), ([7, 8, 9, 10], [54], [50, 51, 52, 53]), ([0, 1, 2, 3, 4, 5, 6, 7, 8, 9, 10, 11], [55], [43, 44, 45, 46, 47, 48, 49, 50, 51, 52, 53, 54]), ([0, 1, 2, 3, 4, 5, 6, 7, 8, 9, 10, 11, 12], [4], [43, 44, 45, 46, 47, 48, 49, 50, 51, 52, 53, 54, 55])] [43, 44, 45, 46, 47, 48, 49, 50, 51, 52, 53, 54, 55, 4] (Keeps NoB) (fun (i : Nat) => ([(fun rs__ U => (rs__.getD 0 undef) = Value.slice Ak 18 ck), (fun rs__ U => (rs__.getD 0 undef) = Value.pointer (some ⟨pb, 0, none⟩)), (fun rs__ U => (rs__.getD 0 undef) = Value.pointer (some ⟨pb, 1, none⟩)), (fun rs__ U => (rs__.getD 0 undef) = Value.pointer (some ⟨pb, 4, none⟩)), (fun rs__ U => (rs__.getD 0 undef) = Value.int .i64 (E : Int)), (fun rs__ U => (rs__.getD 0 undef) = Value.int .u64 (E : Int)), (fun rs__ U => ∃ A5 c5, (rs__.getD 0 undef) = Value.slice A5 20 c5 ∧ Hid (OwnB U z0 (Value.slice A5 20 c5) ((((((([] ++ beN 2 16716) ++ beN 1 1) ++ beN 8 S) ++ beN 4 N) ++ beN 2 B) ++ beN 1 Q) ++ beN 2 E))), (fun rs__ U => (rs__.getD 0 undef) = Value.pointer (some ⟨pb, 0, none⟩)), (fun rs__ U => (rs__.getD 0 undef) = Value.pointer (some ⟨pb, 1, none⟩)), (fun rs__ U => (rs__.getD 0 undef) = Value.pointer (some ⟨pb, 5, none⟩)), (fun rs__ U => (rs__.getD 0 undef) = Value.int .i64 (F : Int)), (fun rs__ U => (rs__.getD 0 undef) = Value.int .u64 (F : Int)), (fun rs__ U => ∃ A5 c5, (rs__.getD 0 undef) = Value.slice A5 22 c5 ∧ Hid (OwnB U z0 (Value.slice A5 22 c5) (((((((([] ++ beN 2 16716) ++ beN 1 1) ++ beN 8 S) ++ beN 4 N) ++ beN 2 B) ++ beN 1 Q) ++ beN 2 E) ++ beN 2 F))), (fun rs__ U => ∃ A5 c5, (rs__.getD 0 undef) = Value.slice A5 22 c5 ∧ Hid (OwnB U z0 (Value.slice A5 22 c5) (((((((([] ++ beN 2 16716) ++ beN 1 1) ++ beN 8 S) ++ beN 4 N) ++ beN 2 B) ++ beN 1 Q) ++ beN 2 E) ++ beN 2 F)))] : List (List Value → World → Prop)).getD i (fun _ _ => True)) (by kernel_rfl) (by kernel_rfl) (by kernel_rfl) (fun _ _ _ h1 h2 => h1.fresh h2) (fun _ => Keeps.refl _ _) (RL.cons ?s0 (RL.cons ?s1 (RL.cons ?s2 (RL.cons ?s3 (RL.cons ?s4 (RL.cons ?s5 (RL.cons ?s6 (RL.cons ?s7 (RL.cons ?s8 (RL.cons ?s9 (RL.cons ?s10 (RL.cons ?s11 (RL.cons ?s12 (RL.cons ?s13 (RL.nil _ _))))))))))))))) ?fin8
      case s0 =>
        intro V wx hE hd
        clear hd
        intro K hK
        simp only [rput, List.foldl_cons, List.foldl_nil, Act.put, List.setIfInBounds_toArray, List.set_cons_zero, List.set_cons_succ]
        go_simp; (with_reducible refine hK.out _ _ ?_ ?_); exact rfl; exact ⟨Keeps.refl _ _, rfl⟩
      case s1 =>
        intro V wx hE hd
        clear hd
        intro K hK
        simp only [rput, List.foldl_cons, List.foldl_nil, Act.put, List.setIfInBounds_toArray, List.set_cons_zero, List.set_cons_succ]
        go_simp; (with_reducible refine hK.out _ _ ?_ ?_); exact rfl; exact ⟨Keeps.refl _ _, rfl⟩
      case s2 =>
        intro V wx hE hd
        obtain ⟨u1, hb1, hu1, p1⟩ : ∃ U, Keeps NoB w17.drew U ∧ Keeps NoB U wx ∧ ((V 44) = Value.pointer (some ⟨pb, 0, none⟩)) := hd 1 (by decide)
        clear hd
        clear hb1 hu1
        intro K hK
        simp only [rput, List.foldl_cons, List.foldl_nil, Act.put, List.setIfInBounds_toArray, List.set_cons_zero, List.set_cons_succ, p1]
        go_simp; (with_reducible refine hK.out _ _ ?_ ?_); exact rfl; exact ⟨Keeps.refl _ _, rfl⟩
      case s3 =>
        intro V wx hE hd
        obtain ⟨u2, hb2, hu2, p2⟩ : ∃ U, Keeps NoB w17.drew U ∧ Keeps NoB U wx ∧ ((V 45) = Value.pointer (some ⟨pb, 1, none⟩)) := hd 2 (by decide)
        clear hd
        clear hb2 hu2
        intro K hK
        simp only [rput, List.foldl_cons, List.foldl_nil, Act.put, List.setIfInBounds_toArray, List.set_cons_zero, List.set_cons_succ, p2]
        go_simp; (with_reducible refine hK.out _ _ ?_ ?_); exact rfl; exact ⟨Keeps.refl _ _, rfl⟩
      case s4 =>
        intro V wx hE hd
        obtain ⟨u3, hb3, hu3, p3⟩ : ∃ U, Keeps NoB w17.drew U ∧ Keeps NoB U wx ∧ ((V 46) = Value.pointer (some ⟨pb, 4, none⟩)) := hd 3 (by decide)
        clear hd
        clear hb3 hu3
        intro K hK
        simp only [rput, List.foldl_cons, List.foldl_nil, Act.put, List.setIfInBounds_toArray, List.set_cons_zero, List.set_cons_succ, p3]
        obtain ⟨l0, l1, l2, l3, l4, l5, l6, l7, l8⟩ := HLD.out wx ((HKk.out.drew).fresh hE); go_simp; (with_reducible refine hK.out _ _ ?_ ?_); exact rfl; exact ⟨Keeps.refl _ _, rfl⟩
      case s5 =>
        intro V wx hE hd
        obtain ⟨u4, hb4, hu4, p4⟩ : ∃ U, Keeps NoB w17.drew U ∧ Keeps NoB U wx ∧ ((V 47) = Value.int .i64 (E : Int)) := hd 4 (by decide)
        clear hd
        clear hb4 hu4
        intro K hK
        simp only [rput, List.foldl_cons, List.foldl_nil, Act.put, List.setIfInBounds_toArray, List.set_cons_zero, List.set_cons_succ, p4]
        go_simp; (with_reducible refine hK.out _ _ ?_ ?_); exact rfl; exact ⟨Keeps.refl _ _, rfl⟩
      case s6 =>
        intro V wx hE hd
        obtain ⟨u0, hb0, hu0, p0⟩ : ∃ U, Keeps NoB w17.drew U ∧ Keeps NoB U wx ∧ ((V 43) = Value.slice Ak 18 ck) := hd 0 (by decide)
        obtain ⟨u5, hb5, hu5, p5⟩ : ∃ U, Keeps NoB w17.drew U ∧ Keeps NoB U wx ∧ ((V 48) = Value.int .u64 (E : Int)) := hd 5 (by decide)
        clear hd
        clear hb0 hu0
        clear hb5 hu5
        intro K hK
        simp only [rput, List.foldl_cons, List.foldl_nil, Act.put, List.setIfInBounds_toArray, List.set_cons_zero, List.set_cons_succ, p0, p5]
        go_simp; refine (rput_own (((((([] ++ beN 2 16716) ++ beN 1 1) ++ beN 8 S) ++ beN 4 N) ++ beN 2 B) ++ beN 1 Q) Ak 18 ck E 2 z0 wx (OwnInts.kept HOk.out ((Keeps.refl NoB w17).drew.fresh hE)) HLk.out (by have := HZk.out; have := ((Keeps.refl NoB w17).drew.fresh hE).size; omega) (by omega) (by omega) (by omega) (by omega)).mono ?_; rintro e w5 ⟨A5, c5, rfl, ho5, hk5⟩; (with_reducible refine hK.out _ _ ?_ ?_); exact rfl; exact ⟨hk5, A5, c5, rfl, hid ho5⟩
      case s7 =>
        intro V wx hE hd
        clear hd
        intro K hK
        simp only [rput, List.foldl_cons, List.foldl_nil, Act.put, List.setIfInBounds_toArray, List.set_cons_zero, List.set_cons_succ]
        go_simp; (with_reducible refine hK.out _ _ ?_ ?_); exact rfl; exact ⟨Keeps.refl _ _, rfl⟩
      case s8 =>
        intro V wx hE hd
        obtain ⟨u7, hb7, hu7, p7⟩ : ∃ U, Keeps NoB w17.drew U ∧ Keeps NoB U wx ∧ ((V 50) = Value.pointer (some ⟨pb, 0, none⟩)) := hd 7 (by decide)
        clear hd
        clear hb7 hu7
        intro K hK
        simp only [rput, List.foldl_cons, List.foldl_nil, Act.put, List.setIfInBounds_toArray, List.set_cons_zero, List.set_cons_succ, p7]
        go_simp; (with_reducible refine hK.out _ _ ?_ ?_); exact rfl; exact ⟨Keeps.refl _ _, rfl⟩
      case s9 =>
        intro V wx hE hd
        obtain ⟨u8, hb8, hu8, p8⟩ : ∃ U, Keeps NoB w17.drew U ∧ Keeps NoB U wx ∧ ((V 51) = Value.pointer (some ⟨pb, 1, none⟩)) := hd 8 (by decide)
        clear hd
        clear hb8 hu8
        intro K hK
        simp only [rput, List.foldl_cons, List.foldl_nil, Act.put, List.setIfInBounds_toArray, List.set_cons_zero, List.set_cons_succ, p8]
        go_simp; (with_reducible refine hK.out _ _ ?_ ?_); exact rfl; exact ⟨Keeps.refl _ _, rfl⟩
      case s10 =>
        intro V wx hE hd
        obtain ⟨u9, hb9, hu9, p9⟩ : ∃ U, Keeps NoB w17.drew U ∧ Keeps NoB U wx ∧ ((V 52) = Value.pointer (some ⟨pb, 5, none⟩)) := hd 9 (by decide)
        clear hd
        clear hb9 hu9
        intro K hK
        simp only [rput, List.foldl_cons, List.foldl_nil, Act.put, List.setIfInBounds_toArray, List.set_cons_zero, List.set_cons_succ, p9]
        obtain ⟨l0, l1, l2, l3, l4, l5, l6, l7, l8⟩ := HLD.out wx ((HKk.out.drew).fresh hE); go_simp; (with_reducible refine hK.out _ _ ?_ ?_); exact rfl; exact ⟨Keeps.refl _ _, rfl⟩
      case s11 =>
        intro V wx hE hd
        obtain ⟨u10, hb10, hu10, p10⟩ : ∃ U, Keeps NoB w17.drew U ∧ Keeps NoB U wx ∧ ((V 53) = Value.int .i64 (F : Int)) := hd 10 (by decide)
        clear hd
        clear hb10 hu10
        intro K hK
        simp only [rput, List.foldl_cons, List.foldl_nil, Act.put, List.setIfInBounds_toArray, List.set_cons_zero, List.set_cons_succ, p10]
        go_simp; (with_reducible refine hK.out _ _ ?_ ?_); exact rfl; exact ⟨Keeps.refl _ _, rfl⟩
      case s12 =>
        intro V wx hE hd
        obtain ⟨u6, hb6, hu6, p6⟩ : ∃ U, Keeps NoB w17.drew U ∧ Keeps NoB U wx ∧ (∃ A5 c5, (V 49) = Value.slice A5 20 c5 ∧ Hid (OwnB U z0 (Value.slice A5 20 c5) ((((((([] ++ beN 2 16716) ++ beN 1 1) ++ beN 8 S) ++ beN 4 N) ++ beN 2 B) ++ beN 1 Q) ++ beN 2 E))) := hd 6 (by decide)
        obtain ⟨u11, hb11, hu11, p11⟩ : ∃ U, Keeps NoB w17.drew U ∧ Keeps NoB U wx ∧ ((V 54) = Value.int .u64 (F : Int)) := hd 11 (by decide)
        clear hd
        clear hb11 hu11
        obtain ⟨A5, c5, q6, ho5⟩ := p6
        intro K hK
        simp only [rput, List.foldl_cons, List.foldl_nil, Act.put, List.setIfInBounds_toArray, List.set_cons_zero, List.set_cons_succ, p11, q6]
        go_simp; refine (rput_own ((((((([] ++ beN 2 16716) ++ beN 1 1) ++ beN 8 S) ++ beN 4 N) ++ beN 2 B) ++ beN 1 Q) ++ beN 2 E) A5 20 c5 F 2 z0 wx (OwnInts.kept ho5.out hu6) (by rw [List.length_append, HLk.out, beN_length]) (by have := HZk.out; have := ((Keeps.refl NoB w17).drew.fresh hE).size; omega) (by omega) (by omega) (by omega) (by omega)).mono ?_; rintro e w6 ⟨A6, c6, rfl, ho6, hk6⟩; (with_reducible refine hK.out _ _ ?_ ?_); exact rfl; exact ⟨hk6, A6, c6, rfl, hid ho6⟩
      case s13 =>
        intro V wx hE hd
        obtain ⟨u12, hb12, hu12, p12⟩ : ∃ U, Keeps NoB w17.drew U ∧ Keeps NoB U wx ∧ (∃ A5 c5, (V 55) = Value.slice A5 22 c5 ∧ Hid (OwnB U z0 (Value.slice A5 22 c5) (((((((([] ++ beN 2 16716) ++ beN 1 1) ++ beN 8 S) ++ beN 4 N) ++ beN 2 B) ++ beN 1 Q) ++ beN 2 E) ++ beN 2 F))) := hd 12 (by decide)
        clear hd
        obtain ⟨A5, c5, q12, ho5⟩ := p12
        intro K hK
        simp only [rput, List.foldl_cons, List.foldl_nil, Act.put, List.setIfInBounds_toArray, List.set_cons_zero, List.set_cons_succ, q12]
        go_simp; (with_reducible refine hK.out _ _ ?_ ?_); exact rfl; exact ⟨Keeps.refl _ _, A5, c5, rfl, hid (OwnInts.kept ho5.out hu12)⟩
      case fin8 =>
        intro V wz hE hd
        obtain ⟨u13, hb13, hu13, p13⟩ : ∃ U, Keeps NoB w17.drew U ∧ Keeps NoB U wz ∧ (∃ A5 c5, (V 4) = Value.slice A5 22 c5 ∧ Hid (OwnB U z0 (Value.slice A5 22 c5) (((((((([] ++ beN 2 16716) ++ beN 1 1) ++ beN 8 S) ++ beN 4 N) ++ beN 2 B) ++ beN 1 Q) ++ beN 2 E) ++ beN 2 F))) := hd 13 (by decide)
        clear hd
        obtain ⟨A5, c5, q13, ho5⟩ := p13
        simp only [rput, List.foldl_cons, List.foldl_nil, Act.put, List.setIfInBounds_toArray, List.set_cons_zero, List.set_cons_succ, q13]
        have HKk := hid (HKk.out.drew.fresh hE)
        have HOk := hid (OwnInts.kept ho5.out hu13)
        have HZk := hid (show z0 ≤ wz.heap.size by have := HZk.out; have := ((Keeps.refl NoB w17).drew.fresh hE).size; omega)
        have HLk := hid (show ((((((((([] ++ beN 2 16716) ++ beN 1 1) ++ beN 8 S) ++ beN 4 N) ++ beN 2 B) ++ beN 1 Q) ++ beN 2 E) ++ beN 2 F)).length = 22 by rw [List.length_append, List.length_append, HLk.out, beN_length, beN_length])
        clear hE ho5 hu13 hb13 q13
        generalize wz = w18 at *
        generalize A5 = Ak at *
        generalize c5 = ck at *
        go_wp2_with fail
        refine wp_region_list [([], [56], []), ([], [57], []), ([1], [58], [57]), ([1, 2], [59], [57, 58]), ([1, 2, 3], [60], [57, 58, 59]), ([0, 1, 2, 3, 4], [61], [56, 57, 58, 59, 60]), ([], [62], []), ([6], [63], [62]), ([6, 7], [64], [62, 63]), ([0, 1, 2, 3, 4, 5, 6, 7, 8], [65], [56, 57, 58, 59, 60, 61, 62, 63, 64]), ([0, 1, 2, 3, 4, 5, 6, 7, 8, 9], [4], [56, 57, 58, 59, 60, 61, 62, 63, 64, 65])] [56, 57, 58, 59, 60, 61, 62, 63, 64, 65, 4] (Keeps NoB) (fun (i : Nat) => ([(fun rs__ U => (rs__.getD 0 undef) = Value.slice Ak 22 ck), (fun rs__ U => (rs__.getD 0 undef) = Value.pointer (some ⟨pb, 0, none⟩)), (fun rs__ U => (rs__.getD 0 undef) = Value.pointer (some ⟨pb, 6, none⟩)), (fun rs__ U => (rs__.getD 0 undef) = Value.int .i64 (L : Int)), (fun rs__ U => (rs__.getD 0 undef) = Value.int .u64 (L : Int)), (fun rs__ U => ∃ A5 c5, (rs__.getD 0 undef) = Value.slice A5 30 c5 ∧ Hid (OwnB U z0 (Value.slice A5 30 c5) ((((((((([] ++ beN 2 16716) ++ beN 1 1) ++ beN 8 S) ++ beN 4 N) ++ beN 2 B) ++ beN 1 Q) ++ beN 2 E) ++ beN 2 F) ++ beN 8 L))), (fun rs__ U => (rs__.getD 0 undef) = Value.pointer (some ⟨pb, 0, none⟩)), (fun rs__ U => (rs__.getD 0 undef) = Value.pointer (some ⟨pb, 7, none⟩)), (fun rs__ U => (rs__.getD 0 undef) = Value.int .u64 (I : Int)), (fun rs__ U => ∃ A5 c5, (rs__.getD 0 undef) = Value.slice A5 38 c5 ∧ Hid (OwnB U z0 (Value.slice A5 38 c5) (((((((((([] ++ beN 2 16716) ++ beN 1 1) ++ beN 8 S) ++ beN 4 N) ++ beN 2 B) ++ beN 1 Q) ++ beN 2 E) ++ beN 2 F) ++ beN 8 L) ++ beN 8 I))), (fun rs__ U => ∃ A5 c5, (rs__.getD 0 undef) = Value.slice A5 38 c5 ∧ Hid (OwnB U z0 (Value.slice A5 38 c5) (((((((((([] ++ beN 2 16716) ++ beN 1 1) ++ beN 8 S) ++ beN 4 N) ++ beN 2 B) ++ beN 1 Q) ++ beN 2 E) ++ beN 2 F) ++ beN 8 L) ++ beN 8 I)))] : List (List Value → World → Prop)).getD i (fun _ _ => True)) (by kernel_rfl) (by kernel_rfl) (by kernel_rfl) (fun _ _ _ h1 h2 => h1.fresh h2) (fun _ => Keeps.refl _ _) (RL.cons ?s0 (RL.cons ?s1 (RL.cons ?s2 (RL.cons ?s3 (RL.cons ?s4 (RL.cons ?s5 (RL.cons ?s6 (RL.cons ?s7 (RL.cons ?s8 (RL.cons ?s9 (RL.cons ?s10 (RL.nil _ _)))))))))))) ?fin9
        case s0 =>
          intro V wx hE hd
          clear hd
          intro K hK
          simp only [rput, List.foldl_cons, List.foldl_nil, Act.put, List.setIfInBounds_toArray, List.set_cons_zero, List.set_cons_succ]
          go_simp; (with_reducible refine hK.out _ _ ?_ ?_); exact rfl; exact ⟨Keeps.refl _ _, rfl⟩
        case s1 =>
          intro V wx hE hd
          clear hd
          intro K hK
          simp only [rput, List.foldl_cons, List.foldl_nil, Act.put, List.setIfInBounds_toArray, List.set_cons_zero, List.set_cons_succ]
          go_simp; (with_reducible refine hK.out _ _ ?_ ?_); exact rfl; exact ⟨Keeps.refl _ _, rfl⟩
        case s2 =>
          intro V wx hE hd
          obtain ⟨u1, hb1, hu1, p1⟩ : ∃ U, Keeps NoB w18.drew U ∧ Keeps NoB U wx ∧ ((V 57) = Value.pointer (some ⟨pb, 0, none⟩)) := hd 1 (by decide)
          clear hd
          clear hb1 hu1
          intro K hK
          simp only [rput, List.foldl_cons, List.foldl_nil, Act.put, List.setIfInBounds_toArray, List.set_cons_zero, List.set_cons_succ, p1]
          go_simp; (with_reducible refine hK.out _ _ ?_ ?_); exact rfl; exact ⟨Keeps.refl _ _, rfl⟩
        case s3 =>
          intro V wx hE hd
          obtain ⟨u2, hb2, hu2, p2⟩ : ∃ U, Keeps NoB w18.drew U ∧ Keeps NoB U wx ∧ ((V 58) = Value.pointer (some ⟨pb, 6, none⟩)) := hd 2 (by decide)
          clear hd
          clear hb2 hu2
          intro K hK
          simp only [rput, List.foldl_cons, List.foldl_nil, Act.put, List.setIfInBounds_toArray, List.set_cons_zero, List.set_cons_succ, p2]
          obtain ⟨l0, l1, l2, l3, l4, l5, l6, l7, l8⟩ := HLD.out wx ((HKk.out.drew).fresh hE); go_simp; (with_reducible refine hK.out _ _ ?_ ?_); exact rfl; exact ⟨Keeps.refl _ _, rfl⟩
        case s4 =>
          intro V wx hE hd
          obtain ⟨u3, hb3, hu3, p3⟩ : ∃ U, Keeps NoB w18.drew U ∧ Keeps NoB U wx ∧ ((V 59) = Value.int .i64 (L : Int)) := hd 3 (by decide)
          clear hd
          clear hb3 hu3
          intro K hK
          simp only [rput, List.foldl_cons, List.foldl_nil, Act.put, List.setIfInBounds_toArray, List.set_cons_zero, List.set_cons_succ, p3]
          go_simp; (with_reducible refine hK.out _ _ ?_ ?_); exact rfl; exact ⟨Keeps.refl _ _, rfl⟩
        case s5 =>
          intro V wx hE hd
          obtain ⟨u0, hb0, hu0, p0⟩ : ∃ U, Keeps NoB w18.drew U ∧ Keeps NoB U wx ∧ ((V 56) = Value.slice Ak 22 ck) := hd 0 (by decide)
          obtain ⟨u4, hb4, hu4, p4⟩ : ∃ U, Keeps NoB w18.drew U ∧ Keeps NoB U wx ∧ ((V 60) = Value.int .u64 (L : Int)) := hd 4 (by decide)
          clear hd
          clear hb0 hu0
          clear hb4 hu4
          intro K hK
          simp only [rput, List.foldl_cons, List.foldl_nil, Act.put, List.setIfInBounds_toArray, List.set_cons_zero, List.set_cons_succ, p0, p4]
          go_simp; refine (rput_own (((((((([] ++ beN 2 16716) ++ beN 1 1) ++ beN 8 S) ++ beN 4 N) ++ beN 2 B) ++ beN 1 Q) ++ beN 2 E) ++ beN 2 F) Ak 22 ck L 8 z0 wx (OwnInts.kept HOk.out ((Keeps.refl NoB w18).drew.fresh hE)) HLk.out (by have := HZk.out; have := ((Keeps.refl NoB w18).drew.fresh hE).size; omega) (by omega) (by omega) (by omega) (by omega)).mono ?_; rintro e w5 ⟨A5, c5, rfl, ho5, hk5⟩; (with_reducible refine hK.out _ _ ?_ ?_); exact rfl; exact ⟨hk5, A5, c5, rfl, hid ho5⟩
        case s6 =>
          intro V wx hE hd
          clear hd
          intro K hK
          simp only [rput, List.foldl_cons, List.foldl_nil, Act.put, List.setIfInBounds_toArray, List.set_cons_zero, List.set_cons_succ]
          go_simp; (with_reducible refine hK.out _ _ ?_ ?_); exact rfl; exact ⟨Keeps.refl _ _, rfl⟩
        case s7 =>
          intro V wx hE hd
          obtain ⟨u6, hb6, hu6, p6⟩ : ∃ U, Keeps NoB w18.drew U ∧ Keeps NoB U wx ∧ ((V 62) = Value.pointer (some ⟨pb, 0, none⟩)) := hd 6 (by decide)
          clear hd
          clear hb6 hu6
          intro K hK
          simp only [rput, List.foldl_cons, List.foldl_nil, Act.put, List.setIfInBounds_toArray, List.set_cons_zero, List.set_cons_succ, p6]
          go_simp; (with_reducible refine hK.out _ _ ?_ ?_); exact rfl; exact ⟨Keeps.refl _ _, rfl⟩
        case s8 =>
          intro V wx hE hd
          obtain ⟨u7, hb7, hu7, p7⟩ : ∃ U, Keeps NoB w18.drew U ∧ Keeps NoB U wx ∧ ((V 63) = Value.pointer (some ⟨pb, 7, none⟩)) := hd 7 (by decide)
          clear hd
          clear hb7 hu7
          intro K hK
          simp only [rput, List.foldl_cons, List.foldl_nil, Act.put, List.setIfInBounds_toArray, List.set_cons_zero, List.set_cons_succ, p7]
          obtain ⟨l0, l1, l2, l3, l4, l5, l6, l7, l8⟩ := HLD.out wx ((HKk.out.drew).fresh hE); go_simp; (with_reducible refine hK.out _ _ ?_ ?_); exact rfl; exact ⟨Keeps.refl _ _, rfl⟩
        case s9 =>
          intro V wx hE hd
          obtain ⟨u5, hb5, hu5, p5⟩ : ∃ U, Keeps NoB w18.drew U ∧ Keeps NoB U wx ∧ (∃ A5 c5, (V 61) = Value.slice A5 30 c5 ∧ Hid (OwnB U z0 (Value.slice A5 30 c5) ((((((((([] ++ beN 2 16716) ++ beN 1 1) ++ beN 8 S) ++ beN 4 N) ++ beN 2 B) ++ beN 1 Q) ++ beN 2 E) ++ beN 2 F) ++ beN 8 L))) := hd 5 (by decide)
          obtain ⟨u8, hb8, hu8, p8⟩ : ∃ U, Keeps NoB w18.drew U ∧ Keeps NoB U wx ∧ ((V 64) = Value.int .u64 (I : Int)) := hd 8 (by decide)
          clear hd
          clear hb8 hu8
          obtain ⟨A5, c5, q5, ho5⟩ := p5
          intro K hK
          simp only [rput, List.foldl_cons, List.foldl_nil, Act.put, List.setIfInBounds_toArray, List.set_cons_zero, List.set_cons_succ, p8, q5]
          go_simp; refine (rput_own ((((((((([] ++ beN 2 16716) ++ beN 1 1) ++ beN 8 S) ++ beN 4 N) ++ beN 2 B) ++ beN 1 Q) ++ beN 2 E) ++ beN 2 F) ++ beN 8 L) A5 30 c5 I 8 z0 wx (OwnInts.kept ho5.out hu5) (by rw [List.length_append, HLk.out, beN_length]) (by have := HZk.out; have := ((Keeps.refl NoB w18).drew.fresh hE).size; omega) (by omega) (by omega) (by omega) (by omega)).mono ?_; rintro e w6 ⟨A6, c6, rfl, ho6, hk6⟩; (with_reducible refine hK.out _ _ ?_ ?_); exact rfl; exact ⟨hk6, A6, c6, rfl, hid ho6⟩
        case s10 =>
          intro V wx hE hd
          obtain ⟨u9, hb9, hu9, p9⟩ : ∃ U, Keeps NoB w18.drew U ∧ Keeps NoB U wx ∧ (∃ A5 c5, (V 65) = Value.slice A5 38 c5 ∧ Hid (OwnB U z0 (Value.slice A5 38 c5) (((((((((([] ++ beN 2 16716) ++ beN 1 1) ++ beN 8 S) ++ beN 4 N) ++ beN 2 B) ++ beN 1 Q) ++ beN 2 E) ++ beN 2 F) ++ beN 8 L) ++ beN 8 I))) := hd 9 (by decide)
          clear hd
          obtain ⟨A5, c5, q9, ho5⟩ := p9
          intro K hK
          simp only [rput, List.foldl_cons, List.foldl_nil, Act.put, List.setIfInBounds_toArray, List.set_cons_zero, List.set_cons_succ, q9]
          go_simp; (with_reducible refine hK.out _ _ ?_ ?_); exact rfl; exact ⟨Keeps.refl _ _, A5, c5, rfl, hid (OwnInts.kept ho5.out hu9)⟩
        case fin9 =>
          intro V wz hE hd
          obtain ⟨u10, hb10, hu10, p10⟩ : ∃ U, Keeps NoB w18.drew U ∧ Keeps NoB U wz ∧ (∃ A5 c5, (V 4) = Value.slice A5 38 c5 ∧ Hid (OwnB U z0 (Value.slice A5 38 c5) (((((((((([] ++ beN 2 16716) ++ beN 1 1) ++ beN 8 S) ++ beN 4 N) ++ beN 2 B) ++ beN 1 Q) ++ beN 2 E) ++ beN 2 F) ++ beN 8 L) ++ beN 8 I))) := hd 10 (by decide)
          clear hd
          obtain ⟨A5, c5, q10, ho5⟩ := p10
          simp only [rput, List.foldl_cons, List.foldl_nil, Act.put, List.setIfInBounds_toArray, List.set_cons_zero, List.set_cons_succ, q10]
          have HKk := hid (HKk.out.drew.fresh hE)
          have HOk := hid (OwnInts.kept ho5.out hu10)
          have HZk := hid (show z0 ≤ wz.heap.size by have := HZk.out; have := ((Keeps.refl NoB w18).drew.fresh hE).size; omega)
          have HLk := hid (show ((((((((((([] ++ beN 2 16716) ++ beN 1 1) ++ beN 8 S) ++ beN 4 N) ++ beN 2 B) ++ beN 1 Q) ++ beN 2 E) ++ beN 2 F) ++ beN 8 L) ++ beN 8 I)).length = 38 by rw [List.length_append, List.length_append, HLk.out, beN_length, beN_length])
          clear hE ho5 hu10 hb10 q10
          generalize wz = w19 at *
          generalize A5 = Ak at *
          generalize c5 = ck at *
          obtain ⟨l0, l1, l2, l3, l4, l5, l6, l7, l8⟩ := HLD.out w19 HKk.out
          rw [hits.out] at HOk HLk
          have HKw := hid (HK01.out.fresh HKk.out)
          have HP2 := hid (HP.out.kept HKw.out)
          have hzk := HZk.out
          go_wp2_with (at_builtin; go_must (refine wpList_appB _ rfl _ _ 25 rfl z0 hui _ (headN h) rfl HOk.out A B cap pay rfl HPL.out HA.out HP2.out 38 HLk.out (by omega) (by omega) ?_); intro v4 w4 hown4 hgr4; have HK4 := hid (HKw.out.grown hgr4 (fun i e hlt => by have := (OwnInts.base_le HOk.out i e.symm).1; have := HZ0.out; omega)); have HO4 := hid hown4; obtain ⟨A9, c9, e9, _⟩ := OwnB.reads HO4.out; rw [HL38.out] at e9; subst e9; clear hown4 hgr4)
          obtain ⟨A8, c8, e8, hc8, hA8, hb8⟩ := OwnB.reads HO4.out
          rw [HL38.out] at e8
          injection e8 with e1 e2 e3
          subst e1 e3
          refine (rseal_calls (headN h ++ pay) A9 (38 + B) c9 _ _ HL38.out hA8 hb8 (by omega)).mono ?_
          rintro e w9 ⟨v9, rfl, ho9, hk9⟩
          rw [HEN.out] at ho9
          have HO9 := hid (OwnInts.lower (base' := z0) ho9 (by have := HK4.out.size; have := HZ0.out; omega))
          have HK9 := hid (HK4.out.fresh hk9)
          clear ho9 hk9 hb8
          go_wp2_with fail
          go_ret2
          exact ⟨_, rfl, by rw [HZ0.out]; exact HO9.out, HK9.out⟩
end Go.Proofs.YtnnkfopopanfjaaGreat
