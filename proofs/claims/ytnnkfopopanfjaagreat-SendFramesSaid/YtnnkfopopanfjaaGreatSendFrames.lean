/- Of any object frame by frame is the document's: the walk of the law SendFrames. Conditions: numbers are of their kinds. -/
import Derived.Test.YtnnkfopopanfjaaGreatSendOrder
import Derived.Test.YtnnkfopopanfjaaGreatRef14
set_option linter.unusedVariables false
set_option linter.unusedSimpArgs false
namespace Go.Proofs.YtnnkfopopanfjaaGreat
open Go.RowKit
attribute [local go_sem ↓] Go.wp_at_zero Go.wp_at_succ

theorem itN_eq (f : Nat) : ∀ k, itN f k = (f + k) % 18446744073709551616 ∨ k = 0
  | 0 => .inr rfl
  | k + 1 => .inl (by
    show nxt (itN f k) = _
    rw [nxt_eq]
    rcases itN_eq f k with h | h
    · rw [h]; omega
    · subst h; show (f + 1) % _ = _; rfl)
theorem itN_wrap {f : Nat} (hf : f < 18446744073709551616) (k : Nat) : IntKind.u64.wrap ((f : Int) + (k : Int)) = (itN f k : Int) := by
  have h : itN f k = (f + k) % 18446744073709551616 := by
    rcases itN_eq f k with h | h
    · exact h
    · subst h; show f = _; omega
  rw [h]
  unfold IntKind.wrap
  simp [IntKind.bits, IntKind.signed]
theorem idx_wrap (k : Nat) (hk : k ≤ 1000) : IntKind.u64.wrap (k : Int) = (k : Int) := by
  unfold IntKind.wrap
  simp [IntKind.bits, IntKind.signed]
  omega
set_option maxHeartbeats 4000000 in
set_option maxRecDepth 20000 in
theorem sendFrames_walk (p : Par) (session : Nat) (obj : List UInt8) (A : Option Addr) (c : Nat) (ids : List Nat) (D : Option Addr) (d : Nat) (first : Nat) (many : Int) (w : World) (hwf : p.wf) (hs : session < 18446744073709551616) (ho : BytesIn (fun _ => True) w A obj) (hcap : obj.length ≤ c) (hA : A = none → c = 0) (hids : NatsAt w D ids) (hf : first < 18446744073709551616) (hm0 : 0 ≤ many) (hm1 : many ≤ 255) :
    Calls Tryz.prog 3 #[.agg #[.int .i64 p.n, .int .i64 p.b, .int .i64 p.q, .int .i64 p.eps, .int .i64 p.f, .int .u64 (session : Int), .slice A obj.length c, .slice D ids.length d], .int .u64 (first : Int), .int .u8 many] w fun e w' => e = .returned (.bool true) ∧ Keeps NoB w w' := by
  have hu := Tryz.underlying23
  have huc := Tryz.underlying28
  have HO := hid ho
  have HID := hid hids
  have hlen := ho.len
  have hlen2 := hids.1.len
  rw [List.length_map] at hlen2
  obtain ⟨L, hL⟩ : ∃ L, obj.length = L := ⟨_, rfl⟩
  obtain ⟨M, hM⟩ : ∃ M, ids.length = M := ⟨_, rfl⟩
  have HL := hid hL
  have HM := hid hM
  rw [hL] at hcap hlen ⊢
  rw [hM] at hlen2 ⊢
  have HCP := hid hcap
  have HLN := hid hlen
  have HF := hid hf
  clear ho hwf hL hA hcap hlen hM hids
  obtain ⟨n, hn⟩ : ∃ n : Nat, many % 12 = (n : Int) := ⟨(many % 12).toNat, by omega⟩
  have hn12 : n ≤ 11 := by omega
  have HMN := hid hn
  clear hn
  have hbox := hid (heap_alloc_new w (.cells #[.int .i64 p.n, .int .i64 p.b, .int .i64 p.q, .int .i64 p.eps, .int .i64 p.f, .int .u64 (session : Int), .slice A L c, .slice D M d] 28))
  have HKa := hid ((Keeps.refl NoB w).alloc (.cells #[.int .i64 p.n, .int .i64 p.b, .int .i64 p.q, .int .i64 p.eps, .int .i64 p.f, .int .u64 (session : Int), .slice A L c, .slice D M d] 28))
  obtain ⟨wa, hwa⟩ : ∃ wa, w.alloc (.cells #[.int .i64 p.n, .int .i64 p.b, .int .i64 p.q, .int .i64 p.eps, .int .i64 p.f, .int .u64 (session : Int), .slice A L c, .slice D M d] 28) = wa := ⟨_, rfl⟩
  rw [hwa] at hbox HKa
  obtain ⟨pb, hpb⟩ : ∃ pb, w.heap.size = pb := ⟨_, rfl⟩
  rw [hpb] at hbox
  have HSM := hid (fun (W : World) => small23_calls p session A D L c M d W HLN.out)
  go_enter Tryz.func3, Tryz.ntmps3
  go_wp2_with fail
  refine (speaks23_calls _).mono ?_
  rintro e w1 ⟨rfl, HK1⟩
  have HC8 := hid (fun (W : World) (hW : Keeps NoB w1 W) => cells8' (hW.heap (HK1.heap hbox.out (fun h => h)) (fun h => h)))
  have HK1 := hid (HKa.out.fresh HK1)
  clear hbox HKa hwa hpb
  obtain ⟨b0, b1, b2, b3, b4, b5, b6, b7⟩ := HC8.out w1 (Keeps.refl _ _)
  by_cases hsm : small23 p L M = true
  case neg =>
    have hsm : small23 p L M = false := by simpa using hsm
    rw [hsm] at HSM
    clear hsm
    go_wp2_with fail
    refine (HSM.out _).mono ?_
    rintro e w2 ⟨rfl, hk2⟩
    have HK2 := hid (HK1.out.fresh hk2)
    clear hk2 b0 b1 b2 b3 b4 b5 b6 b7
    go_wp2_with fail
    go_ret
    exact ⟨rfl, HK2.out⟩
  obtain ⟨hm, hs1, hs2, hs3, hs4, hs5⟩ := small23_yes hsm
  rw [hsm] at HSM
  have HM20 := hid hs5
  have HN1 := hid (fun (W : World) (hW : Keeps NoB w W) => sndNew_yes p session first obj A L c (fun _ => True) HL.out W hm hs (HO.out.kept hW) HCP.out hs4)
  have HNX := hid (fun (s k : Nat) (W : World) (hk : k ≤ 20) (h : SndAt W s p session obj (itN first k) k false) => sndNext_yes s p session obj (itN first k) k W h hm (by rw [HL.out]; exact hs4) hs (itN_lt HF.out k) (by omega))
  have HSD := hid (fun (s : Nat) (W : World) (h : SndAt W s p session obj (itN first n) n false) (hi : NatsAt W D ids) (hE : ∀ b off, D = some ⟨b, off, none⟩ → 0 < M → b ≠ s) => sndSend_yes s p session obj (itN first n) n ids D M d W h hm (by rw [HL.out]; exact hs4) hs (by omega) hi HM.out (by omega) hE)
  have HRF := hid (fun (id : Nat) (W : World) (hi : id < 18446744073709551616) (hW : Keeps NoB w W) => rframe_calls p session obj A c id (fun _ => True) W hm (by rw [HL.out]; exact hs4) hs hi (HO.out.kept hW) (by omega))
  have HFL := hid (fun (id : Nat) => frameN_length hm session obj id)
  obtain ⟨B, hB⟩ : ∃ B, p.b.toNat = B := ⟨_, rfl⟩
  have HBB := hid (show B ≤ 40 by omega)
  rw [hB] at HNX HFL HRF
  rw [HL.out] at HRF
  unfold Par.val at HN1 HRF
  have HITW := hid (fun k => itN_wrap HF.out k)
  clear hsm hs1 hs2 hs3 hs4 hs5 hm hs hB hf
  go_wp2_with fail
  refine (HSM.out _).mono ?_
  rintro e w2 ⟨rfl, hk2⟩
  have HK12 := hid hk2
  have HK2 := hid (HK1.out.fresh hk2)
  clear hk2 b0 b1 b2 b3 b4 b5 b6 b7
  obtain ⟨b0, b1, b2, b3, b4, b5, b6, b7⟩ := HC8.out w2 HK12.out
  go_wp2_with fail
  refine (HN1.out _ HK2.out).mono ?_
  rintro e w3 ⟨s, rfl, hst, hsz, hk3⟩
  have HS3 := hid (hst w3 (Keeps.refl _ _))
  have HSZ := hid (show w.heap.size ≤ s by have := HK2.out.size; omega)
  have HC83 := hid (fun (W : World) (hW : Keeps (fun b => b = s) w3 W) => HC8.out W (by
    have h1 := (HK12.out.fresh hk3).then hW (T := fun b => b = s) (fun i h hl => by have h : i = s := h; have := HK12.out.size; have := hsz; omega)
    exact h1))
  have HK3 := hid (HK2.out.fresh hk3)
  clear hk3 hst hsz b0 b1 b2 b3 b4 b5 b6 b7
  go_wp2_with fail
  rw [HMN.out]
  have HIDW := hid (fun (W : World) (hW : Keeps NoB w W) => show NatsAt W D ids from ⟨HID.out.1.kept hW, HID.out.2⟩)
  have HDS := hid (show ∀ b off, D = some ⟨b, off, none⟩ → 0 < M → b ≠ s from fun b off e h => by
    have := HID.out.1.lt b off e (by rw [List.length_map, HM.out]; exact h)
    have := HSZ.out
    omega)
  go_loopw [44] (fun v44 wr => ∃ k : Nat, k ≤ n ∧ v44 = .int .i64 (k : Int) ∧ Hid (SndAt wr s p session obj (itN first k) k false) ∧ Hid (Keeps (fun b => b = s) w3 wr)) (fun v44 _ => n - (intOf v44).toNat)
  case atStart => exact ⟨0, Nat.zero_le _, rfl, HS3, Keeps.refl _ _⟩
  case round =>
    obtain ⟨k, hk, rfl, HSr, HKr⟩ := hrel
    by_cases hlt : k < n
    · go_wp2_with fail
      refine (HNX.out s k _ (by omega) HSr.out).mono ?_
      rintro e w7 ⟨A7, c7, rfl, ho7, hs7, hk7⟩
      have HS7 := hid (show SndAt w7 s p session obj (itN first (k + 1)) (k + 1) false from hs7)
      have HB7 := hid ((OwnB.bytes ho7).mono (R' := fun _ => True) (fun _ _ _ => trivial))
      have HK7 := hid (HKr.out.then hk7 (fun i h _ => h))
      have HKW := hid (show Keeps NoB w w7 from HK3.out.then HK7.out (fun i h hl => by have h : i = s := h; have := HSZ.out; omega))
      have HIx := hid (itN_lt HF.out k)
      have HNXW := hid (nxt_wrap (itN first k))
      have HRFk := hid (fun (W : World) (hW : Keeps NoB w7 W) => HRF.out (itN first k) W HIx.out (HKW.out.fresh hW))
      have HFLk := hid (HFL.out (itN first k))
      have ei := idx_wrap k (by omega)
      have ea := HITW.out k
      have eb : IntKind.u64.wrap (((itN first k : Nat) : Int) + 1) = ((itN first (k + 1) : Nat) : Int) := HNXW.out
      have hpb1 := hid (show ∀ W, Keeps NoB w7 W → _ from fun W hW => HC83.out W (HK7.out.fresh hW))
      clear ho7 hs7 hk7
      have HSIx := hid (fun (W : World) (hW : Keeps NoB w7 W) => sndID_calls s p session obj (itN first (k + 1)) (k + 1) false W (HS7.out.kept hW))
      generalize frameN p session obj (itN first k) = fr at *
      generalize hx0 : itN first k = x0 at *
      generalize hx1 : itN first (k + 1) = x1 at *
      have dl : ((strOf fr).toList != (strOf fr).toList) = false := by simp
      go_wp2_with fail
      have HKd := hid (Keeps.refl NoB w7).drew
      refine wp_region_list [([], [52], []), ([0], [53], [52]), ([0, 1], [54], [52, 53]), ([0, 1, 2], [55], [52, 53, 54]), ([0, 1, 2, 3], [56], [52, 53, 54, 55]), ([0, 1, 2], [57], [52, 53, 54]), ([0, 1, 2, 5], [58], [52, 53, 54, 57]), ([0, 1, 2], [59], [52, 53, 54]), ([0, 1, 2, 7], [60], [52, 53, 54, 59]), ([0, 1, 2], [61], [52, 53, 54]), ([0, 1, 2, 9], [62], [52, 53, 54, 61]), ([0, 1, 2], [63], [52, 53, 54]), ([0, 1, 2], [64], [52, 53, 54]), ([0, 1, 2, 12], [65], [52, 53, 54, 64]), ([0, 1, 2, 11, 12, 13], [66], [52, 53, 54, 63, 64, 65]), ([0, 1, 2, 5, 6, 7, 8, 9, 10, 11, 12, 13, 14], [67], [52, 53, 54, 57, 58, 59, 60, 61, 62, 63, 64, 65, 66]), ([0, 1, 2, 5, 6, 7, 8, 9, 10, 11, 12, 13, 14, 15], [68], [52, 53, 54, 57, 58, 59, 60, 61, 62, 63, 64, 65, 66, 67]), ([0, 1, 2, 3, 4, 5, 6, 7, 8, 9, 10, 11, 12, 13, 14, 15, 16], [69], [52, 53, 54, 55, 56, 57, 58, 59, 60, 61, 62, 63, 64, 65, 66, 67, 68]), ([0, 1, 2, 3, 4, 5, 6, 7, 8, 9, 10, 11, 12, 13, 14, 15, 16, 17], [70], [52, 53, 54, 55, 56, 57, 58, 59, 60, 61, 62, 63, 64, 65, 66, 67, 68, 69]), ([0, 1, 2, 3, 4, 5, 6, 7, 8, 9, 10, 11, 12, 13, 14, 15, 16, 17, 18], [71], [52, 53, 54, 55, 56, 57, 58, 59, 60, 61, 62, 63, 64, 65, 66, 67, 68, 69, 70]), ([0, 1, 2, 3, 4, 5, 6, 7, 8, 9, 10, 11, 12, 13, 14, 15, 16, 17, 18, 19], [72], [52, 53, 54, 55, 56, 57, 58, 59, 60, 61, 62, 63, 64, 65, 66, 67, 68, 69, 70, 71]), ([0, 1, 2, 3, 4, 5, 6, 7, 8, 9, 10, 11, 12, 13, 14, 15, 16, 17, 18, 19, 20], [73], [52, 53, 54, 55, 56, 57, 58, 59, 60, 61, 62, 63, 64, 65, 66, 67, 68, 69, 70, 71, 72]), ([0, 1, 2, 3, 4, 5, 6, 7, 8, 9, 10, 11, 12, 13, 14, 15, 16, 17, 18, 19], [74], [52, 53, 54, 55, 56, 57, 58, 59, 60, 61, 62, 63, 64, 65, 66, 67, 68, 69, 70, 71]), ([0, 1, 2, 3, 4, 5, 6, 7, 8, 9, 10, 11, 12, 13, 14, 15, 16, 17, 18, 19], [75], [52, 53, 54, 55, 56, 57, 58, 59, 60, 61, 62, 63, 64, 65, 66, 67, 68, 69, 70, 71]), ([0, 1, 2, 3, 4, 5, 6, 7, 8, 9, 10, 11, 12, 13, 14, 15, 16, 17, 18, 19, 23], [76], [52, 53, 54, 55, 56, 57, 58, 59, 60, 61, 62, 63, 64, 65, 66, 67, 68, 69, 70, 71, 75]), ([0, 1, 2, 3, 4, 5, 6, 7, 8, 9, 10, 11, 12, 13, 14, 15, 16, 17, 18, 19, 22, 23, 24], [77], [52, 53, 54, 55, 56, 57, 58, 59, 60, 61, 62, 63, 64, 65, 66, 67, 68, 69, 70, 71, 74, 75, 76]), ([0, 1, 2, 3, 4, 5, 6, 7, 8, 9, 10, 11, 12, 13, 14, 15, 16, 17, 18, 19, 22, 23, 24, 25], [78], [52, 53, 54, 55, 56, 57, 58, 59, 60, 61, 62, 63, 64, 65, 66, 67, 68, 69, 70, 71, 74, 75, 76, 77]), ([0, 1, 2, 3, 4, 5, 6, 7, 8, 9, 10, 11, 12, 13, 14, 15, 16, 17, 18, 19, 20, 21, 22, 23, 24, 25, 26], [79], [52, 53, 54, 55, 56, 57, 58, 59, 60, 61, 62, 63, 64, 65, 66, 67, 68, 69, 70, 71, 72, 73, 74, 75, 76, 77, 78]), ([0, 1, 2, 3, 4, 5, 6, 7, 8, 9, 10, 11, 12, 13, 14, 15, 16, 17, 18, 19, 20, 21, 22, 23, 24, 25, 26, 27], [80], [52, 53, 54, 55, 56, 57, 58, 59, 60, 61, 62, 63, 64, 65, 66, 67, 68, 69, 70, 71, 72, 73, 74, 75, 76, 77, 78, 79])] [52, 53, 54, 55, 56, 57, 58, 59, 60, 61, 62, 63, 64, 65, 66, 67, 68, 69, 70, 71, 72, 73, 74, 75, 76, 77, 78, 79, 80] (Keeps NoB) (fun (i : Nat) => ([(fun rs__ U => (rs__.getD 0 undef) = Value.bool true), (fun rs__ U => (rs__.getD 0 undef) = Value.bool false), (fun rs__ U => (rs__.getD 0 undef) = Value.bool false), (fun rs__ U => (rs__.getD 0 undef) = Value.slice A7 (42 + B) c7), (fun rs__ U => (rs__.getD 0 undef) = Value.string (strOf fr)), (fun rs__ U => (rs__.getD 0 undef) = Value.pointer (some ⟨pb, 0, none⟩)), (fun rs__ U => (rs__.getD 0 undef) = Value.agg #[.int .i64 p.n, .int .i64 p.b, .int .i64 p.q, .int .i64 p.eps, .int .i64 p.f]), (fun rs__ U => (rs__.getD 0 undef) = Value.pointer (some ⟨pb, 5, none⟩)), (fun rs__ U => (rs__.getD 0 undef) = Value.int .u64 (session : Int)), (fun rs__ U => (rs__.getD 0 undef) = Value.pointer (some ⟨pb, 6, none⟩)), (fun rs__ U => (rs__.getD 0 undef) = Value.slice A L c), (fun rs__ U => (rs__.getD 0 undef) = Value.int .u64 (first : Int)), (fun rs__ U => (rs__.getD 0 undef) = Value.int .i64 (k : Int)), (fun rs__ U => (rs__.getD 0 undef) = Value.int .u64 (k : Int)), (fun rs__ U => (rs__.getD 0 undef) = Value.int .u64 (x0 : Int)), (fun rs__ U => ∃ A5 c5, (rs__.getD 0 undef) = Value.slice A5 (42 + B) c5 ∧ Hid (BytesIn (fun _ => True) U A5 fr)), (fun rs__ U => (rs__.getD 0 undef) = Value.string (strOf fr)), (fun rs__ U => (rs__.getD 0 undef) = Value.bool false), (fun rs__ U => (rs__.getD 0 undef) = Value.bool false), (fun rs__ U => (rs__.getD 0 undef) = Value.bool false), (fun rs__ U => (rs__.getD 0 undef) = Value.pointer (some ⟨s, 0, none⟩)), (fun rs__ U => (rs__.getD 0 undef) = Value.int .u64 (x1 : Int)), (fun rs__ U => (rs__.getD 0 undef) = Value.int .u64 (first : Int)), (fun rs__ U => (rs__.getD 0 undef) = Value.int .i64 (k : Int)), (fun rs__ U => (rs__.getD 0 undef) = Value.int .u64 (k : Int)), (fun rs__ U => (rs__.getD 0 undef) = Value.int .u64 (x0 : Int)), (fun rs__ U => (rs__.getD 0 undef) = Value.int .u64 (x1 : Int)), (fun rs__ U => (rs__.getD 0 undef) = Value.bool false), (fun rs__ U => (rs__.getD 0 undef) = Value.bool false)] : List (List Value → World → Prop)).getD i (fun _ _ => True)) (by kernel_rfl) (by kernel_rfl) (by kernel_rfl) (fun _ _ _ h1 h2 => h1.fresh h2) (fun _ => Keeps.refl _ _) (RL.cons ?s0 (RL.cons ?s1 (RL.cons ?s2 (RL.cons ?s3 (RL.cons ?s4 (RL.cons ?s5 (RL.cons ?s6 (RL.cons ?s7 (RL.cons ?s8 (RL.cons ?s9 (RL.cons ?s10 (RL.cons ?s11 (RL.cons ?s12 (RL.cons ?s13 (RL.cons ?s14 (RL.cons ?s15 (RL.cons ?s16 (RL.cons ?s17 (RL.cons ?s18 (RL.cons ?s19 (RL.cons ?s20 (RL.cons ?s21 (RL.cons ?s22 (RL.cons ?s23 (RL.cons ?s24 (RL.cons ?s25 (RL.cons ?s26 (RL.cons ?s27 (RL.cons ?s28 (RL.nil _ _)))))))))))))))))))))))))))))) ?fin
      case s0 =>
        intro V wx hE hd
        clear hd
        intro K hK
        simp only [rput, List.foldl_cons, List.foldl_nil, Act.put, List.setIfInBounds_toArray, List.set_cons_zero, List.set_cons_succ]
        go_simp; (with_reducible refine hK.out _ _ ?_ ?_); exact rfl; exact ⟨Keeps.refl _ _, rfl⟩
      case s1 =>
        intro V wx hE hd
        obtain ⟨u0, hb0, hu0, p0⟩ : ∃ U, Keeps NoB w7.drew U ∧ Keeps NoB U wx ∧ ((V 52) = Value.bool true) := hd 0 (by decide)
        clear hd
        clear hb0 hu0
        intro K hK
        simp only [rput, List.foldl_cons, List.foldl_nil, Act.put, List.setIfInBounds_toArray, List.set_cons_zero, List.set_cons_succ, p0]
        go_simp; (with_reducible refine hK.out _ _ ?_ ?_); exact rfl; exact ⟨Keeps.refl _ _, rfl⟩
      case s2 =>
        intro V wx hE hd
        obtain ⟨u1, hb1, hu1, p1⟩ : ∃ U, Keeps NoB w7.drew U ∧ Keeps NoB U wx ∧ ((V 53) = Value.bool false) := hd 1 (by decide)
        clear hd
        clear hb1 hu1
        intro K hK
        simp only [rput, List.foldl_cons, List.foldl_nil, Act.put, List.setIfInBounds_toArray, List.set_cons_zero, List.set_cons_succ, p1]
        go_simp; (with_reducible refine hK.out _ _ ?_ ?_); exact rfl; exact ⟨Keeps.refl _ _, rfl⟩
      case s3 =>
        intro V wx hE hd
        obtain ⟨u2, hb2, hu2, p2⟩ : ∃ U, Keeps NoB w7.drew U ∧ Keeps NoB U wx ∧ ((V 54) = Value.bool false) := hd 2 (by decide)
        clear hd
        clear hb2 hu2
        intro K hK
        simp only [rput, List.foldl_cons, List.foldl_nil, Act.put, List.setIfInBounds_toArray, List.set_cons_zero, List.set_cons_succ, p2]
        go_simp; (with_reducible refine hK.out _ _ ?_ ?_); exact rfl; exact ⟨Keeps.refl _ _, rfl⟩
      case s4 =>
        intro V wx hE hd
        obtain ⟨u2, hb2, hu2, p2⟩ : ∃ U, Keeps NoB w7.drew U ∧ Keeps NoB U wx ∧ ((V 54) = Value.bool false) := hd 2 (by decide)
        obtain ⟨u3, hb3, hu3, p3⟩ : ∃ U, Keeps NoB w7.drew U ∧ Keeps NoB U wx ∧ ((V 55) = Value.slice A7 (42 + B) c7) := hd 3 (by decide)
        clear hd
        clear hb2 hu2
        clear hb3 hu3
        intro K hK
        simp only [rput, List.foldl_cons, List.foldl_nil, Act.put, List.setIfInBounds_toArray, List.set_cons_zero, List.set_cons_succ, p2, p3]
        have hcv := conv_run 25 9 Tryz.underlying25 Tryz.underlying9 (HB7.out.kept (HKd.out.fresh hE)) c7; rw [HFLk.out] at hcv; go_simp; (with_reducible refine hK.out _ _ ?_ ?_); exact rfl; exact ⟨Keeps.refl _ _, rfl⟩
      case s5 =>
        intro V wx hE hd
        obtain ⟨u2, hb2, hu2, p2⟩ : ∃ U, Keeps NoB w7.drew U ∧ Keeps NoB U wx ∧ ((V 54) = Value.bool false) := hd 2 (by decide)
        clear hd
        clear hb2 hu2
        intro K hK
        simp only [rput, List.foldl_cons, List.foldl_nil, Act.put, List.setIfInBounds_toArray, List.set_cons_zero, List.set_cons_succ, p2]
        go_simp; (with_reducible refine hK.out _ _ ?_ ?_); exact rfl; exact ⟨Keeps.refl _ _, rfl⟩
      case s6 =>
        intro V wx hE hd
        obtain ⟨u2, hb2, hu2, p2⟩ : ∃ U, Keeps NoB w7.drew U ∧ Keeps NoB U wx ∧ ((V 54) = Value.bool false) := hd 2 (by decide)
        obtain ⟨u5, hb5, hu5, p5⟩ : ∃ U, Keeps NoB w7.drew U ∧ Keeps NoB U wx ∧ ((V 57) = Value.pointer (some ⟨pb, 0, none⟩)) := hd 5 (by decide)
        clear hd
        clear hb2 hu2
        clear hb5 hu5
        intro K hK
        simp only [rput, List.foldl_cons, List.foldl_nil, Act.put, List.setIfInBounds_toArray, List.set_cons_zero, List.set_cons_succ, p2, p5]
        obtain ⟨b0, b1, b2, b3, b4, b5, b6, b7⟩ := hpb1.out wx (HKd.out.fresh hE); go_simp; (with_reducible refine hK.out _ _ ?_ ?_); exact rfl; exact ⟨Keeps.refl _ _, rfl⟩
      case s7 =>
        intro V wx hE hd
        obtain ⟨u2, hb2, hu2, p2⟩ : ∃ U, Keeps NoB w7.drew U ∧ Keeps NoB U wx ∧ ((V 54) = Value.bool false) := hd 2 (by decide)
        clear hd
        clear hb2 hu2
        intro K hK
        simp only [rput, List.foldl_cons, List.foldl_nil, Act.put, List.setIfInBounds_toArray, List.set_cons_zero, List.set_cons_succ, p2]
        go_simp; (with_reducible refine hK.out _ _ ?_ ?_); exact rfl; exact ⟨Keeps.refl _ _, rfl⟩
      case s8 =>
        intro V wx hE hd
        obtain ⟨u2, hb2, hu2, p2⟩ : ∃ U, Keeps NoB w7.drew U ∧ Keeps NoB U wx ∧ ((V 54) = Value.bool false) := hd 2 (by decide)
        obtain ⟨u7, hb7, hu7, p7⟩ : ∃ U, Keeps NoB w7.drew U ∧ Keeps NoB U wx ∧ ((V 59) = Value.pointer (some ⟨pb, 5, none⟩)) := hd 7 (by decide)
        clear hd
        clear hb2 hu2
        clear hb7 hu7
        intro K hK
        simp only [rput, List.foldl_cons, List.foldl_nil, Act.put, List.setIfInBounds_toArray, List.set_cons_zero, List.set_cons_succ, p2, p7]
        obtain ⟨b0, b1, b2, b3, b4, b5, b6, b7⟩ := hpb1.out wx (HKd.out.fresh hE); go_simp; (with_reducible refine hK.out _ _ ?_ ?_); exact rfl; exact ⟨Keeps.refl _ _, rfl⟩
      case s9 =>
        intro V wx hE hd
        obtain ⟨u2, hb2, hu2, p2⟩ : ∃ U, Keeps NoB w7.drew U ∧ Keeps NoB U wx ∧ ((V 54) = Value.bool false) := hd 2 (by decide)
        clear hd
        clear hb2 hu2
        intro K hK
        simp only [rput, List.foldl_cons, List.foldl_nil, Act.put, List.setIfInBounds_toArray, List.set_cons_zero, List.set_cons_succ, p2]
        go_simp; (with_reducible refine hK.out _ _ ?_ ?_); exact rfl; exact ⟨Keeps.refl _ _, rfl⟩
      case s10 =>
        intro V wx hE hd
        obtain ⟨u2, hb2, hu2, p2⟩ : ∃ U, Keeps NoB w7.drew U ∧ Keeps NoB U wx ∧ ((V 54) = Value.bool false) := hd 2 (by decide)
        obtain ⟨u9, hb9, hu9, p9⟩ : ∃ U, Keeps NoB w7.drew U ∧ Keeps NoB U wx ∧ ((V 61) = Value.pointer (some ⟨pb, 6, none⟩)) := hd 9 (by decide)
        clear hd
        clear hb2 hu2
        clear hb9 hu9
        intro K hK
        simp only [rput, List.foldl_cons, List.foldl_nil, Act.put, List.setIfInBounds_toArray, List.set_cons_zero, List.set_cons_succ, p2, p9]
        obtain ⟨b0, b1, b2, b3, b4, b5, b6, b7⟩ := hpb1.out wx (HKd.out.fresh hE); go_simp; (with_reducible refine hK.out _ _ ?_ ?_); exact rfl; exact ⟨Keeps.refl _ _, rfl⟩
      case s11 =>
        intro V wx hE hd
        obtain ⟨u2, hb2, hu2, p2⟩ : ∃ U, Keeps NoB w7.drew U ∧ Keeps NoB U wx ∧ ((V 54) = Value.bool false) := hd 2 (by decide)
        clear hd
        clear hb2 hu2
        intro K hK
        simp only [rput, List.foldl_cons, List.foldl_nil, Act.put, List.setIfInBounds_toArray, List.set_cons_zero, List.set_cons_succ, p2]
        go_simp; (with_reducible refine hK.out _ _ ?_ ?_); exact rfl; exact ⟨Keeps.refl _ _, rfl⟩
      case s12 =>
        intro V wx hE hd
        obtain ⟨u2, hb2, hu2, p2⟩ : ∃ U, Keeps NoB w7.drew U ∧ Keeps NoB U wx ∧ ((V 54) = Value.bool false) := hd 2 (by decide)
        clear hd
        clear hb2 hu2
        intro K hK
        simp only [rput, List.foldl_cons, List.foldl_nil, Act.put, List.setIfInBounds_toArray, List.set_cons_zero, List.set_cons_succ, p2]
        go_simp; (with_reducible refine hK.out _ _ ?_ ?_); exact rfl; exact ⟨Keeps.refl _ _, rfl⟩
      case s13 =>
        intro V wx hE hd
        obtain ⟨u2, hb2, hu2, p2⟩ : ∃ U, Keeps NoB w7.drew U ∧ Keeps NoB U wx ∧ ((V 54) = Value.bool false) := hd 2 (by decide)
        obtain ⟨u12, hb12, hu12, p12⟩ : ∃ U, Keeps NoB w7.drew U ∧ Keeps NoB U wx ∧ ((V 64) = Value.int .i64 (k : Int)) := hd 12 (by decide)
        clear hd
        clear hb2 hu2
        clear hb12 hu12
        intro K hK
        simp only [rput, List.foldl_cons, List.foldl_nil, Act.put, List.setIfInBounds_toArray, List.set_cons_zero, List.set_cons_succ, p2, p12]
        go_simp; (with_reducible refine hK.out _ _ ?_ ?_); exact rfl; exact ⟨Keeps.refl _ _, rfl⟩
      case s14 =>
        intro V wx hE hd
        obtain ⟨u2, hb2, hu2, p2⟩ : ∃ U, Keeps NoB w7.drew U ∧ Keeps NoB U wx ∧ ((V 54) = Value.bool false) := hd 2 (by decide)
        obtain ⟨u11, hb11, hu11, p11⟩ : ∃ U, Keeps NoB w7.drew U ∧ Keeps NoB U wx ∧ ((V 63) = Value.int .u64 (first : Int)) := hd 11 (by decide)
        obtain ⟨u13, hb13, hu13, p13⟩ : ∃ U, Keeps NoB w7.drew U ∧ Keeps NoB U wx ∧ ((V 65) = Value.int .u64 (k : Int)) := hd 13 (by decide)
        clear hd
        clear hb2 hu2
        clear hb11 hu11
        clear hb13 hu13
        intro K hK
        simp only [rput, List.foldl_cons, List.foldl_nil, Act.put, List.setIfInBounds_toArray, List.set_cons_zero, List.set_cons_succ, p2, p11, p13]
        go_simp; (with_reducible refine hK.out _ _ ?_ ?_); exact rfl; exact ⟨Keeps.refl _ _, rfl⟩
      case s15 =>
        intro V wx hE hd
        obtain ⟨u2, hb2, hu2, p2⟩ : ∃ U, Keeps NoB w7.drew U ∧ Keeps NoB U wx ∧ ((V 54) = Value.bool false) := hd 2 (by decide)
        obtain ⟨u6, hb6, hu6, p6⟩ : ∃ U, Keeps NoB w7.drew U ∧ Keeps NoB U wx ∧ ((V 58) = Value.agg #[.int .i64 p.n, .int .i64 p.b, .int .i64 p.q, .int .i64 p.eps, .int .i64 p.f]) := hd 6 (by decide)
        obtain ⟨u8, hb8, hu8, p8⟩ : ∃ U, Keeps NoB w7.drew U ∧ Keeps NoB U wx ∧ ((V 60) = Value.int .u64 (session : Int)) := hd 8 (by decide)
        obtain ⟨u10, hb10, hu10, p10⟩ : ∃ U, Keeps NoB w7.drew U ∧ Keeps NoB U wx ∧ ((V 62) = Value.slice A L c) := hd 10 (by decide)
        obtain ⟨u14, hb14, hu14, p14⟩ : ∃ U, Keeps NoB w7.drew U ∧ Keeps NoB U wx ∧ ((V 66) = Value.int .u64 (x0 : Int)) := hd 14 (by decide)
        clear hd
        clear hb2 hu2
        clear hb6 hu6
        clear hb8 hu8
        clear hb10 hu10
        clear hb14 hu14
        intro K hK
        simp only [rput, List.foldl_cons, List.foldl_nil, Act.put, List.setIfInBounds_toArray, List.set_cons_zero, List.set_cons_succ, p2, p6, p8, p10, p14]
        go_simp; refine (HRFk.out wx (HKd.out.fresh hE)).mono ?_; rintro e w9 ⟨A5, c5, rfl, ho9, hk9⟩; (with_reducible refine hK.out _ _ ?_ ?_); exact rfl; exact ⟨hk9, A5, c5, rfl, hid ((OwnB.bytes ho9).mono (fun _ _ _ => trivial))⟩
      case s16 =>
        intro V wx hE hd
        obtain ⟨u2, hb2, hu2, p2⟩ : ∃ U, Keeps NoB w7.drew U ∧ Keeps NoB U wx ∧ ((V 54) = Value.bool false) := hd 2 (by decide)
        obtain ⟨u15, hb15, hu15, p15⟩ : ∃ U, Keeps NoB w7.drew U ∧ Keeps NoB U wx ∧ (∃ A5 c5, (V 67) = Value.slice A5 (42 + B) c5 ∧ Hid (BytesIn (fun _ => True) U A5 fr)) := hd 15 (by decide)
        clear hd
        clear hb2 hu2
        obtain ⟨A5, c5, q15, hby⟩ := p15
        intro K hK
        simp only [rput, List.foldl_cons, List.foldl_nil, Act.put, List.setIfInBounds_toArray, List.set_cons_zero, List.set_cons_succ, p2, q15]
        have hcv := conv_run 25 9 Tryz.underlying25 Tryz.underlying9 (hby.out.kept hu15) c5; rw [HFLk.out] at hcv; go_simp; (with_reducible refine hK.out _ _ ?_ ?_); exact rfl; exact ⟨Keeps.refl _ _, rfl⟩
      case s17 =>
        intro V wx hE hd
        obtain ⟨u2, hb2, hu2, p2⟩ : ∃ U, Keeps NoB w7.drew U ∧ Keeps NoB U wx ∧ ((V 54) = Value.bool false) := hd 2 (by decide)
        obtain ⟨u4, hb4, hu4, p4⟩ : ∃ U, Keeps NoB w7.drew U ∧ Keeps NoB U wx ∧ ((V 56) = Value.string (strOf fr)) := hd 4 (by decide)
        obtain ⟨u16, hb16, hu16, p16⟩ : ∃ U, Keeps NoB w7.drew U ∧ Keeps NoB U wx ∧ ((V 68) = Value.string (strOf fr)) := hd 16 (by decide)
        clear hd
        clear hb2 hu2
        clear hb4 hu4
        clear hb16 hu16
        intro K hK
        simp only [rput, List.foldl_cons, List.foldl_nil, Act.put, List.setIfInBounds_toArray, List.set_cons_zero, List.set_cons_succ, p2, p4, p16]
        go_simp; (with_reducible refine hK.out _ _ ?_ ?_); exact rfl; exact ⟨Keeps.refl _ _, rfl⟩
      case s18 =>
        intro V wx hE hd
        obtain ⟨u2, hb2, hu2, p2⟩ : ∃ U, Keeps NoB w7.drew U ∧ Keeps NoB U wx ∧ ((V 54) = Value.bool false) := hd 2 (by decide)
        obtain ⟨u17, hb17, hu17, p17⟩ : ∃ U, Keeps NoB w7.drew U ∧ Keeps NoB U wx ∧ ((V 69) = Value.bool false) := hd 17 (by decide)
        clear hd
        clear hb2 hu2
        clear hb17 hu17
        intro K hK
        simp only [rput, List.foldl_cons, List.foldl_nil, Act.put, List.setIfInBounds_toArray, List.set_cons_zero, List.set_cons_succ, p2, p17]
        go_simp; (with_reducible refine hK.out _ _ ?_ ?_); exact rfl; exact ⟨Keeps.refl _ _, rfl⟩
      case s19 =>
        intro V wx hE hd
        obtain ⟨u18, hb18, hu18, p18⟩ : ∃ U, Keeps NoB w7.drew U ∧ Keeps NoB U wx ∧ ((V 70) = Value.bool false) := hd 18 (by decide)
        clear hd
        clear hb18 hu18
        intro K hK
        simp only [rput, List.foldl_cons, List.foldl_nil, Act.put, List.setIfInBounds_toArray, List.set_cons_zero, List.set_cons_succ, p18]
        go_simp; (with_reducible refine hK.out _ _ ?_ ?_); exact rfl; exact ⟨Keeps.refl _ _, rfl⟩
      case s20 =>
        intro V wx hE hd
        obtain ⟨u19, hb19, hu19, p19⟩ : ∃ U, Keeps NoB w7.drew U ∧ Keeps NoB U wx ∧ ((V 71) = Value.bool false) := hd 19 (by decide)
        clear hd
        clear hb19 hu19
        intro K hK
        simp only [rput, List.foldl_cons, List.foldl_nil, Act.put, List.setIfInBounds_toArray, List.set_cons_zero, List.set_cons_succ, p19]
        go_simp; (with_reducible refine hK.out _ _ ?_ ?_); exact rfl; exact ⟨Keeps.refl _ _, rfl⟩
      case s21 =>
        intro V wx hE hd
        obtain ⟨u19, hb19, hu19, p19⟩ : ∃ U, Keeps NoB w7.drew U ∧ Keeps NoB U wx ∧ ((V 71) = Value.bool false) := hd 19 (by decide)
        obtain ⟨u20, hb20, hu20, p20⟩ : ∃ U, Keeps NoB w7.drew U ∧ Keeps NoB U wx ∧ ((V 72) = Value.pointer (some ⟨s, 0, none⟩)) := hd 20 (by decide)
        clear hd
        clear hb19 hu19
        clear hb20 hu20
        intro K hK
        simp only [rput, List.foldl_cons, List.foldl_nil, Act.put, List.setIfInBounds_toArray, List.set_cons_zero, List.set_cons_succ, p19, p20]
        go_simp; refine (HSIx.out wx (HKd.out.fresh hE)).mono ?_; rintro e w9 ⟨rfl, hk9⟩; (with_reducible refine hK.out _ _ ?_ ?_); exact rfl; exact ⟨hk9, rfl⟩
      case s22 =>
        intro V wx hE hd
        obtain ⟨u19, hb19, hu19, p19⟩ : ∃ U, Keeps NoB w7.drew U ∧ Keeps NoB U wx ∧ ((V 71) = Value.bool false) := hd 19 (by decide)
        clear hd
        clear hb19 hu19
        intro K hK
        simp only [rput, List.foldl_cons, List.foldl_nil, Act.put, List.setIfInBounds_toArray, List.set_cons_zero, List.set_cons_succ, p19]
        go_simp; (with_reducible refine hK.out _ _ ?_ ?_); exact rfl; exact ⟨Keeps.refl _ _, rfl⟩
      case s23 =>
        intro V wx hE hd
        obtain ⟨u19, hb19, hu19, p19⟩ : ∃ U, Keeps NoB w7.drew U ∧ Keeps NoB U wx ∧ ((V 71) = Value.bool false) := hd 19 (by decide)
        clear hd
        clear hb19 hu19
        intro K hK
        simp only [rput, List.foldl_cons, List.foldl_nil, Act.put, List.setIfInBounds_toArray, List.set_cons_zero, List.set_cons_succ, p19]
        go_simp; (with_reducible refine hK.out _ _ ?_ ?_); exact rfl; exact ⟨Keeps.refl _ _, rfl⟩
      case s24 =>
        intro V wx hE hd
        obtain ⟨u19, hb19, hu19, p19⟩ : ∃ U, Keeps NoB w7.drew U ∧ Keeps NoB U wx ∧ ((V 71) = Value.bool false) := hd 19 (by decide)
        obtain ⟨u23, hb23, hu23, p23⟩ : ∃ U, Keeps NoB w7.drew U ∧ Keeps NoB U wx ∧ ((V 75) = Value.int .i64 (k : Int)) := hd 23 (by decide)
        clear hd
        clear hb19 hu19
        clear hb23 hu23
        intro K hK
        simp only [rput, List.foldl_cons, List.foldl_nil, Act.put, List.setIfInBounds_toArray, List.set_cons_zero, List.set_cons_succ, p19, p23]
        go_simp; (with_reducible refine hK.out _ _ ?_ ?_); exact rfl; exact ⟨Keeps.refl _ _, rfl⟩
      case s25 =>
        intro V wx hE hd
        obtain ⟨u19, hb19, hu19, p19⟩ : ∃ U, Keeps NoB w7.drew U ∧ Keeps NoB U wx ∧ ((V 71) = Value.bool false) := hd 19 (by decide)
        obtain ⟨u22, hb22, hu22, p22⟩ : ∃ U, Keeps NoB w7.drew U ∧ Keeps NoB U wx ∧ ((V 74) = Value.int .u64 (first : Int)) := hd 22 (by decide)
        obtain ⟨u24, hb24, hu24, p24⟩ : ∃ U, Keeps NoB w7.drew U ∧ Keeps NoB U wx ∧ ((V 76) = Value.int .u64 (k : Int)) := hd 24 (by decide)
        clear hd
        clear hb19 hu19
        clear hb22 hu22
        clear hb24 hu24
        intro K hK
        simp only [rput, List.foldl_cons, List.foldl_nil, Act.put, List.setIfInBounds_toArray, List.set_cons_zero, List.set_cons_succ, p19, p22, p24]
        go_simp; (with_reducible refine hK.out _ _ ?_ ?_); exact rfl; exact ⟨Keeps.refl _ _, rfl⟩
      case s26 =>
        intro V wx hE hd
        obtain ⟨u19, hb19, hu19, p19⟩ : ∃ U, Keeps NoB w7.drew U ∧ Keeps NoB U wx ∧ ((V 71) = Value.bool false) := hd 19 (by decide)
        obtain ⟨u25, hb25, hu25, p25⟩ : ∃ U, Keeps NoB w7.drew U ∧ Keeps NoB U wx ∧ ((V 77) = Value.int .u64 (x0 : Int)) := hd 25 (by decide)
        clear hd
        clear hb19 hu19
        clear hb25 hu25
        intro K hK
        simp only [rput, List.foldl_cons, List.foldl_nil, Act.put, List.setIfInBounds_toArray, List.set_cons_zero, List.set_cons_succ, p19, p25]
        go_simp; (with_reducible refine hK.out _ _ ?_ ?_); exact rfl; exact ⟨Keeps.refl _ _, rfl⟩
      case s27 =>
        intro V wx hE hd
        obtain ⟨u19, hb19, hu19, p19⟩ : ∃ U, Keeps NoB w7.drew U ∧ Keeps NoB U wx ∧ ((V 71) = Value.bool false) := hd 19 (by decide)
        obtain ⟨u21, hb21, hu21, p21⟩ : ∃ U, Keeps NoB w7.drew U ∧ Keeps NoB U wx ∧ ((V 73) = Value.int .u64 (x1 : Int)) := hd 21 (by decide)
        obtain ⟨u26, hb26, hu26, p26⟩ : ∃ U, Keeps NoB w7.drew U ∧ Keeps NoB U wx ∧ ((V 78) = Value.int .u64 (x1 : Int)) := hd 26 (by decide)
        clear hd
        clear hb19 hu19
        clear hb21 hu21
        clear hb26 hu26
        intro K hK
        simp only [rput, List.foldl_cons, List.foldl_nil, Act.put, List.setIfInBounds_toArray, List.set_cons_zero, List.set_cons_succ, p19, p21, p26]
        go_simp; (with_reducible refine hK.out _ _ ?_ ?_); exact rfl; exact ⟨Keeps.refl _ _, rfl⟩
      case s28 =>
        intro V wx hE hd
        obtain ⟨u19, hb19, hu19, p19⟩ : ∃ U, Keeps NoB w7.drew U ∧ Keeps NoB U wx ∧ ((V 71) = Value.bool false) := hd 19 (by decide)
        obtain ⟨u27, hb27, hu27, p27⟩ : ∃ U, Keeps NoB w7.drew U ∧ Keeps NoB U wx ∧ ((V 79) = Value.bool false) := hd 27 (by decide)
        clear hd
        clear hb19 hu19
        clear hb27 hu27
        intro K hK
        simp only [rput, List.foldl_cons, List.foldl_nil, Act.put, List.setIfInBounds_toArray, List.set_cons_zero, List.set_cons_succ, p19, p27]
        go_simp; (with_reducible refine hK.out _ _ ?_ ?_); exact rfl; exact ⟨Keeps.refl _ _, rfl⟩
      case fin =>
        intro V wz hE hd
        obtain ⟨u28, hb28, hu28, p28⟩ : ∃ U, Keeps NoB w7.drew U ∧ Keeps NoB U wz ∧ ((V 80) = Value.bool false) := hd 28 (by decide)
        clear hd
        clear hb28 hu28
        simp only [rput, List.foldl_cons, List.foldl_nil, Act.put, List.setIfInBounds_toArray, List.set_cons_zero, List.set_cons_succ, p28]
        clear p28
        have HSz := hid (HS7.out.kept (HKd.out.fresh hE))
        have HKz := hid (HK7.out.fresh (HKd.out.fresh hE))
        clear ei ea eb dl
        go_wp2_with fail
        go_roundw
        case rel => exact ⟨k + 1, by omega, by go_num, hid (by rw [hx1]; exact HSz.out), HKz⟩
        case measure => simp [intOf]; omega
    · obtain rfl : n = k := by omega
      have HCw := hid (HC83.out wr HKr.out)
      obtain ⟨b0, b1, b2, b3, b4, b5, b6, b7⟩ := HCw.out
      have HKW := hid (show Keeps NoB w wr from HK3.out.then HKr.out (fun i h hl => by have h : i = s := h; have := HSZ.out; omega))
      go_wp2_with fail
      refine (HSD.out s wr HSr.out (HIDW.out wr HKW.out) HDS.out).mono ?_
      rintro e w9 ⟨v9, rfl, ho9, hs9, hk9⟩
      have HS9 := hid hs9
      have HK9 := hid (HKr.out.then hk9 (fun i h _ => h))
      have HKW9 := hid (show Keeps NoB w w9 from HK3.out.then HK9.out (fun i h hl => by have h : i = s := h; have := HSZ.out; omega))
      obtain ⟨A9, c9, rfl, hc9, hA9, hr9⟩ := ho9.reads
      rw [framesN_length, HM.out]
      have HR9 := hid hr9
      have HC9 := hid (fun (W : World) (hW : Keeps NoB w9 W) => HC83.out W (HK9.out.fresh hW))
      have HQI := hid (fun (W : World) (hW : Keeps NoB w9 W) => sndID_calls s p session obj (itN first n) (n + M) false W (HS9.out.kept hW))
      have HQS := hid (fun (W : World) (hW : Keeps NoB w9 W) => sndSent_calls s p session obj (itN first n) (n + M) false W (HS9.out.kept hW))
      have HQT := hid (fun (W : World) (hW : Keeps NoB w9 W) => sndStop_calls s p session obj (itN first n) (n + M) false W (HS9.out.kept hW))
      have HGF := hid (fun (j : Nat) (hj : j < M) => show gr (framesN p session obj ids) j = frameN p session obj (ids.getD j 0) from by
        rw [gr_eq _ j (by rw [framesN_length, HM.out]; exact hj)]
        unfold framesN
        rw [List.getElem_map]
        congr 1
        rw [List.getD_eq_getElem?_getD, List.getElem?_eq_getElem (by rw [HM.out]; exact hj)]; rfl)
      have HFL9 := hid (framesN_length p session obj ids)
      rw [HM.out] at HFL9
      clear ho9 hs9 hk9 hr9 b0 b1 b2 b3 b4 b5 b6 b7 HCw
      obtain ⟨b0, b1, b2, b3, b4, b5, b6, b7⟩ := HC9.out w9 (Keeps.refl _ _)
      have hm20 := HM20.out
      have ei := idx_wrap n (by omega)
      have ea := HITW.out n
      go_wp2_with fail
      refine (HQS.out _ (Keeps.refl _ _)).mono ?_
      rintro e w10 ⟨rfl, hk10⟩
      have HK10 := hid hk10
      clear hk10 b0 b1 b2 b3 b4 b5 b6 b7
      obtain ⟨b0, b1, b2, b3, b4, b5, b6, b7⟩ := HC9.out w10 HK10.out
      go_wp2_with fail
      refine (HQI.out _ HK10.out).mono ?_
      rintro e w11 ⟨rfl, hk11⟩
      have HK11 := hid (HK10.out.fresh hk11)
      clear hk11 b0 b1 b2 b3 b4 b5 b6 b7
      obtain ⟨b0, b1, b2, b3, b4, b5, b6, b7⟩ := HC9.out w11 HK11.out
      go_wp2_with fail
      clear b0 b1 b2 b3 b4 b5 b6 b7
      have HBASE := hid (HK11)
      go_loopw [113] (fun v113 wq => ∃ k : Nat, k ≤ M ∧ v113 = .int .i64 (k : Int) ∧ Hid (Keeps NoB w9 wq)) (fun v113 _ => M - (intOf v113).toNat)
      case atStart => exact ⟨0, Nat.zero_le _, rfl, HK11⟩
      case round =>
        obtain ⟨k, hk, rfl, HKq⟩ := hrel
        by_cases hlt : k < M
        · obtain ⟨b1, o1, e1, _, hc1⟩ := (HR9.out.kept HKq.out).2 (by rw [HFL9.out]; omega)
          obtain ⟨u1, k1, A1, d1, rfl, _, _, r1⟩ := hc1 k (by rw [HFL9.out]; exact hlt)
          have hgf := HGF.out k hlt
          rw [hgf] at r1 k1
          have hfl := HFL.out (ids.getD k 0)
          rw [hfl] at k1
          obtain ⟨b2, off, e2, hc⟩ := HID.out.1.get (by rw [List.length_map, HM.out]; omega)
          have hck := hc k (by rw [List.length_map, HM.out]; exact hlt)
          rw [gi_map ids k (by rw [HM.out]; exact hlt)] at hck
          have hid64 := HID.out.2 (ids.getD k 0) (getD_mem ids 0 (by rw [HM.out]; exact hlt))
          have hckq := (HKW9.out.fresh HKq.out).cell hck (fun h => h)
          have HRFk := hid (fun (W : World) (hW : Keeps NoB w W) => HRF.out (ids.getD k 0) W hid64 hW)
          have HFLk := hid hfl
          have HB1 := hid r1
          have HKX := hid (HKW9.out.fresh HKq.out)
          generalize frameN p session obj (ids.getD k 0) = fr at *
          generalize ids.getD k 0 = id at *
          subst e1 e2
          have dl : ((strOf fr).toList != (strOf fr).toList) = false := by simp
          have q0 : (0 : Int) ≤ (k : Int) := by omega
          have q1 : (k : Int) < (M : Int) := by omega
          clear hc1 r1 hgf hfl hc hck hid64
          go_wp2_with fail
          have HKd := hid (Keeps.refl NoB wr).drew
          have HC1 := hid (fun (W : World) (hW : Keeps NoB wr W) => hW.cell k1 (fun h => h))
          have HC9k := hid (fun (W : World) (hW : Keeps NoB wr W) => HC9.out W (HKq.out.fresh hW))
          refine wp_region_list [([], [118], []), ([], [119], []), ([0, 1], [120], [118, 119]), ([0, 1, 2], [121], [118, 119, 120]), ([0, 1, 2, 3], [122], [118, 119, 120, 121]), ([], [123], []), ([5], [124], [123]), ([], [125], []), ([7], [126], [125]), ([], [127], []), ([9], [128], [127]), ([], [129], []), ([5, 6, 7, 8, 9, 10, 11], [130], [123, 124, 125, 126, 127, 128, 129]), ([5, 6, 7, 8, 9, 10, 11, 12], [131], [123, 124, 125, 126, 127, 128, 129, 130]), ([0, 1, 2, 3, 4, 5, 6, 7, 8, 9, 10, 11, 12, 13], [132], [118, 119, 120, 121, 122, 123, 124, 125, 126, 127, 128, 129, 130, 131])] [118, 119, 120, 121, 122, 123, 124, 125, 126, 127, 128, 129, 130, 131, 132] (Keeps NoB) (fun (i : Nat) => ([(fun rs__ U => (rs__.getD 0 undef) = Value.slice (some ⟨b1, o1, none⟩) M c9), (fun rs__ U => (rs__.getD 0 undef) = Value.int .i64 (k : Int)), (fun rs__ U => (rs__.getD 0 undef) = Value.pointer (some ⟨b1, o1 + k, none⟩)), (fun rs__ U => (rs__.getD 0 undef) = Value.slice A1 (42 + B) d1), (fun rs__ U => (rs__.getD 0 undef) = Value.string (strOf fr)), (fun rs__ U => (rs__.getD 0 undef) = Value.pointer (some ⟨pb, 0, none⟩)), (fun rs__ U => (rs__.getD 0 undef) = Value.agg #[.int .i64 p.n, .int .i64 p.b, .int .i64 p.q, .int .i64 p.eps, .int .i64 p.f]), (fun rs__ U => (rs__.getD 0 undef) = Value.pointer (some ⟨pb, 5, none⟩)), (fun rs__ U => (rs__.getD 0 undef) = Value.int .u64 (session : Int)), (fun rs__ U => (rs__.getD 0 undef) = Value.pointer (some ⟨pb, 6, none⟩)), (fun rs__ U => (rs__.getD 0 undef) = Value.slice A L c), (fun rs__ U => (rs__.getD 0 undef) = Value.int .u64 (id : Int)), (fun rs__ U => ∃ A5 c5, (rs__.getD 0 undef) = Value.slice A5 (42 + B) c5 ∧ Hid (BytesIn (fun _ => True) U A5 fr)), (fun rs__ U => (rs__.getD 0 undef) = Value.string (strOf fr)), (fun rs__ U => (rs__.getD 0 undef) = Value.bool false)] : List (List Value → World → Prop)).getD i (fun _ _ => True)) (by kernel_rfl) (by kernel_rfl) (by kernel_rfl) (fun _ _ _ h1 h2 => h1.fresh h2) (fun _ => Keeps.refl _ _) (RL.cons ?s0 (RL.cons ?s1 (RL.cons ?s2 (RL.cons ?s3 (RL.cons ?s4 (RL.cons ?s5 (RL.cons ?s6 (RL.cons ?s7 (RL.cons ?s8 (RL.cons ?s9 (RL.cons ?s10 (RL.cons ?s11 (RL.cons ?s12 (RL.cons ?s13 (RL.cons ?s14 (RL.nil _ _)))))))))))))))) ?fin
          case s0 =>
            intro V wx hE hd
            clear hd
            intro K hK
            simp only [rput, List.foldl_cons, List.foldl_nil, Act.put, List.setIfInBounds_toArray, List.set_cons_zero, List.set_cons_succ]
            go_simp; (with_reducible refine hK.out _ _ ?_ ?_); exact rfl; exact ⟨Keeps.refl _ _, rfl⟩
          case s1 =>
            intro V wx hE hd
            clear hd
            intro K hK
            simp only [rput, List.foldl_cons, List.foldl_nil, Act.put, List.setIfInBounds_toArray, List.set_cons_zero, List.set_cons_succ]
            go_simp; (with_reducible refine hK.out _ _ ?_ ?_); exact rfl; exact ⟨Keeps.refl _ _, rfl⟩
          case s2 =>
            intro V wx hE hd
            obtain ⟨u0, hb0, hu0, p0⟩ : ∃ U, Keeps NoB wr.drew U ∧ Keeps NoB U wx ∧ ((V 118) = Value.slice (some ⟨b1, o1, none⟩) M c9) := hd 0 (by decide)
            obtain ⟨u1, hb1, hu1, p1⟩ : ∃ U, Keeps NoB wr.drew U ∧ Keeps NoB U wx ∧ ((V 119) = Value.int .i64 (k : Int)) := hd 1 (by decide)
            clear hd
            clear hb0 hu0
            clear hb1 hu1
            intro K hK
            simp only [rput, List.foldl_cons, List.foldl_nil, Act.put, List.setIfInBounds_toArray, List.set_cons_zero, List.set_cons_succ, p0, p1]
            go_simp; (with_reducible refine hK.out _ _ ?_ ?_); exact rfl; exact ⟨Keeps.refl _ _, rfl⟩
          case s3 =>
            intro V wx hE hd
            obtain ⟨u2, hb2, hu2, p2⟩ : ∃ U, Keeps NoB wr.drew U ∧ Keeps NoB U wx ∧ ((V 120) = Value.pointer (some ⟨b1, o1 + k, none⟩)) := hd 2 (by decide)
            clear hd
            clear hb2 hu2
            intro K hK
            simp only [rput, List.foldl_cons, List.foldl_nil, Act.put, List.setIfInBounds_toArray, List.set_cons_zero, List.set_cons_succ, p2]
            have hc1 := HC1.out wx (HKd.out.fresh hE); go_simp; (with_reducible refine hK.out _ _ ?_ ?_); exact rfl; exact ⟨Keeps.refl _ _, rfl⟩
          case s4 =>
            intro V wx hE hd
            obtain ⟨u3, hb3, hu3, p3⟩ : ∃ U, Keeps NoB wr.drew U ∧ Keeps NoB U wx ∧ ((V 121) = Value.slice A1 (42 + B) d1) := hd 3 (by decide)
            clear hd
            clear hb3 hu3
            intro K hK
            simp only [rput, List.foldl_cons, List.foldl_nil, Act.put, List.setIfInBounds_toArray, List.set_cons_zero, List.set_cons_succ, p3]
            have hcv := conv_run 25 9 Tryz.underlying25 Tryz.underlying9 (HB1.out.kept (HKd.out.fresh hE)) d1; rw [HFLk.out] at hcv; go_simp; (with_reducible refine hK.out _ _ ?_ ?_); exact rfl; exact ⟨Keeps.refl _ _, rfl⟩
          case s5 =>
            intro V wx hE hd
            clear hd
            intro K hK
            simp only [rput, List.foldl_cons, List.foldl_nil, Act.put, List.setIfInBounds_toArray, List.set_cons_zero, List.set_cons_succ]
            go_simp; (with_reducible refine hK.out _ _ ?_ ?_); exact rfl; exact ⟨Keeps.refl _ _, rfl⟩
          case s6 =>
            intro V wx hE hd
            obtain ⟨u5, hb5, hu5, p5⟩ : ∃ U, Keeps NoB wr.drew U ∧ Keeps NoB U wx ∧ ((V 123) = Value.pointer (some ⟨pb, 0, none⟩)) := hd 5 (by decide)
            clear hd
            clear hb5 hu5
            intro K hK
            simp only [rput, List.foldl_cons, List.foldl_nil, Act.put, List.setIfInBounds_toArray, List.set_cons_zero, List.set_cons_succ, p5]
            obtain ⟨e0, e1, e2, e3, e4, e5, e6, e7⟩ := HC9k.out wx (HKd.out.fresh hE); go_simp; (with_reducible refine hK.out _ _ ?_ ?_); exact rfl; exact ⟨Keeps.refl _ _, rfl⟩
          case s7 =>
            intro V wx hE hd
            clear hd
            intro K hK
            simp only [rput, List.foldl_cons, List.foldl_nil, Act.put, List.setIfInBounds_toArray, List.set_cons_zero, List.set_cons_succ]
            go_simp; (with_reducible refine hK.out _ _ ?_ ?_); exact rfl; exact ⟨Keeps.refl _ _, rfl⟩
          case s8 =>
            intro V wx hE hd
            obtain ⟨u7, hb7, hu7, p7⟩ : ∃ U, Keeps NoB wr.drew U ∧ Keeps NoB U wx ∧ ((V 125) = Value.pointer (some ⟨pb, 5, none⟩)) := hd 7 (by decide)
            clear hd
            clear hb7 hu7
            intro K hK
            simp only [rput, List.foldl_cons, List.foldl_nil, Act.put, List.setIfInBounds_toArray, List.set_cons_zero, List.set_cons_succ, p7]
            obtain ⟨e0, e1, e2, e3, e4, e5, e6, e7⟩ := HC9k.out wx (HKd.out.fresh hE); go_simp; (with_reducible refine hK.out _ _ ?_ ?_); exact rfl; exact ⟨Keeps.refl _ _, rfl⟩
          case s9 =>
            intro V wx hE hd
            clear hd
            intro K hK
            simp only [rput, List.foldl_cons, List.foldl_nil, Act.put, List.setIfInBounds_toArray, List.set_cons_zero, List.set_cons_succ]
            go_simp; (with_reducible refine hK.out _ _ ?_ ?_); exact rfl; exact ⟨Keeps.refl _ _, rfl⟩
          case s10 =>
            intro V wx hE hd
            obtain ⟨u9, hb9, hu9, p9⟩ : ∃ U, Keeps NoB wr.drew U ∧ Keeps NoB U wx ∧ ((V 127) = Value.pointer (some ⟨pb, 6, none⟩)) := hd 9 (by decide)
            clear hd
            clear hb9 hu9
            intro K hK
            simp only [rput, List.foldl_cons, List.foldl_nil, Act.put, List.setIfInBounds_toArray, List.set_cons_zero, List.set_cons_succ, p9]
            obtain ⟨e0, e1, e2, e3, e4, e5, e6, e7⟩ := HC9k.out wx (HKd.out.fresh hE); go_simp; (with_reducible refine hK.out _ _ ?_ ?_); exact rfl; exact ⟨Keeps.refl _ _, rfl⟩
          case s11 =>
            intro V wx hE hd
            clear hd
            intro K hK
            simp only [rput, List.foldl_cons, List.foldl_nil, Act.put, List.setIfInBounds_toArray, List.set_cons_zero, List.set_cons_succ]
            go_simp; (with_reducible refine hK.out _ _ ?_ ?_); exact rfl; exact ⟨Keeps.refl _ _, rfl⟩
          case s12 =>
            intro V wx hE hd
            obtain ⟨u6, hb6, hu6, p6⟩ : ∃ U, Keeps NoB wr.drew U ∧ Keeps NoB U wx ∧ ((V 124) = Value.agg #[.int .i64 p.n, .int .i64 p.b, .int .i64 p.q, .int .i64 p.eps, .int .i64 p.f]) := hd 6 (by decide)
            obtain ⟨u8, hb8, hu8, p8⟩ : ∃ U, Keeps NoB wr.drew U ∧ Keeps NoB U wx ∧ ((V 126) = Value.int .u64 (session : Int)) := hd 8 (by decide)
            obtain ⟨u10, hb10, hu10, p10⟩ : ∃ U, Keeps NoB wr.drew U ∧ Keeps NoB U wx ∧ ((V 128) = Value.slice A L c) := hd 10 (by decide)
            obtain ⟨u11, hb11, hu11, p11⟩ : ∃ U, Keeps NoB wr.drew U ∧ Keeps NoB U wx ∧ ((V 129) = Value.int .u64 (id : Int)) := hd 11 (by decide)
            clear hd
            clear hb6 hu6
            clear hb8 hu8
            clear hb10 hu10
            clear hb11 hu11
            intro K hK
            simp only [rput, List.foldl_cons, List.foldl_nil, Act.put, List.setIfInBounds_toArray, List.set_cons_zero, List.set_cons_succ, p6, p8, p10, p11]
            go_simp; refine (HRFk.out wx (HKX.out.fresh (HKd.out.fresh hE))).mono ?_; rintro e w19 ⟨A5, c5, rfl, ho9, hk9⟩; (with_reducible refine hK.out _ _ ?_ ?_); exact rfl; exact ⟨hk9, A5, c5, rfl, hid ((OwnB.bytes ho9).mono (fun _ _ _ => trivial))⟩
          case s13 =>
            intro V wx hE hd
            obtain ⟨u12, hb12, hu12, p12⟩ : ∃ U, Keeps NoB wr.drew U ∧ Keeps NoB U wx ∧ (∃ A5 c5, (V 130) = Value.slice A5 (42 + B) c5 ∧ Hid (BytesIn (fun _ => True) U A5 fr)) := hd 12 (by decide)
            clear hd
            obtain ⟨A5, c5, q12, hby⟩ := p12
            intro K hK
            simp only [rput, List.foldl_cons, List.foldl_nil, Act.put, List.setIfInBounds_toArray, List.set_cons_zero, List.set_cons_succ, q12]
            have hcv := conv_run 25 9 Tryz.underlying25 Tryz.underlying9 (hby.out.kept hu12) c5; rw [HFLk.out] at hcv; go_simp; (with_reducible refine hK.out _ _ ?_ ?_); exact rfl; exact ⟨Keeps.refl _ _, rfl⟩
          case s14 =>
            intro V wx hE hd
            obtain ⟨u4, hb4, hu4, p4⟩ : ∃ U, Keeps NoB wr.drew U ∧ Keeps NoB U wx ∧ ((V 122) = Value.string (strOf fr)) := hd 4 (by decide)
            obtain ⟨u13, hb13, hu13, p13⟩ : ∃ U, Keeps NoB wr.drew U ∧ Keeps NoB U wx ∧ ((V 131) = Value.string (strOf fr)) := hd 13 (by decide)
            clear hd
            clear hb4 hu4
            clear hb13 hu13
            intro K hK
            simp only [rput, List.foldl_cons, List.foldl_nil, Act.put, List.setIfInBounds_toArray, List.set_cons_zero, List.set_cons_succ, p4, p13]
            go_simp; (with_reducible refine hK.out _ _ ?_ ?_); exact rfl; exact ⟨Keeps.refl _ _, rfl⟩
          case fin =>
            intro V wz hE hd
            obtain ⟨u14, hb14, hu14, p14⟩ : ∃ U, Keeps NoB wr.drew U ∧ Keeps NoB U wz ∧ ((V 132) = Value.bool false) := hd 14 (by decide)
            clear hd
            clear hb14 hu14
            simp only [rput, List.foldl_cons, List.foldl_nil, Act.put, List.setIfInBounds_toArray, List.set_cons_zero, List.set_cons_succ, p14]
            clear p14
            have HKz := hid (HKq.out.fresh (HKd.out.fresh hE))
            clear dl
            go_wp2_with fail
            go_roundw
            case rel => exact ⟨k + 1, by omega, by go_num, HKz⟩
            case measure => simp [intOf]; omega
        · obtain rfl : M = k := by omega
          go_wp2_with fail
          refine (HQT.out _ HKq.out).mono ?_
          rintro e w12 ⟨rfl, hs12, hk12⟩
          have HS12 := hid hs12
          have HK12s := hid (HK9.out.then (HKq.out.mono (T := fun b => b = s) (fun _ h _ => h.elim)) (fun i h _ => h) |>.then hk12 (fun i h _ => h))
          have HC12 := hid (fun (W : World) (hW : Keeps NoB w12 W) => HC83.out W (HK12s.out.fresh hW))
          clear hs12 hk12
          go_wp2_with fail
          refine (sndNext_no s p session obj (itN first n) (n + M) w12 HS12.out).mono ?_
          rintro e w13 ⟨rfl, hk13⟩
          have HK13 := hid hk13
          obtain ⟨b0, b1, b2, b3, b4, b5, b6, b7⟩ := HC12.out w13 hk13
          clear hk13
          go_wp2_with fail
          refine (sndSend_no s p session obj (itN first n) (n + M) D M d w13 (HS12.out.kept HK13.out)).mono ?_
          rintro e w14 ⟨rfl, hk14⟩
          have HK14 := hid (HK13.out.fresh hk14)
          clear hk14 b0 b1 b2 b3 b4 b5 b6 b7
          go_wp2_with fail
          refine (sndSent_calls s p session obj (itN first n) (n + M) true w14 (HS12.out.kept HK14.out)).mono ?_
          rintro e w15 ⟨rfl, hk15⟩
          have HK15 := hid (HK14.out.fresh hk15)
          clear hk15
          go_wp2_with fail
          refine (sndID_calls s p session obj (itN first n) (n + M) true w15 (HS12.out.kept HK15.out)).mono ?_
          rintro e w16 ⟨rfl, hk16⟩
          have HK16 := hid (HK15.out.fresh hk16)
          clear hk16
          go_wp2_with fail
          go_ret
          exact ⟨rfl, HK3.out.then (HK12s.out.fresh HK16.out) (fun i h hl => by have h : i = s := h; have := HSZ.out; omega)⟩
end Go.Proofs.YtnnkfopopanfjaaGreat
