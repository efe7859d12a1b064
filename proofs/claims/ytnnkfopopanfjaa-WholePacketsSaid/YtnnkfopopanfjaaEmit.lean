/- Frames of an object: the walks of emit.New, Packet. Conditions: numbers are of their kinds. -/
import Derived.Test.YtnnkfopopanfjaaEncode
import Derived.Test.YtnnkfopopanfjaaCompose
import Derived.Test.YtnnkfopopanfjaaG4
import Derived.Test.YtnnkfopopanfjaaLaw11
set_option linter.unusedVariables false
set_option linter.unusedSimpArgs false
namespace Go.Proofs.Ytnnkfopopanfjaa
open Go.RowKit

theorem cells8' {w : World} {b : Nat} {x0 x1 x2 x3 x4 x5 x6 x7 : Value} {T : TypeId} {fr : Nat × Nat} (h : w.heap[b]? = some (.cells #[x0, x1, x2, x3, x4, x5, x6, x7] T fr)) :
    w.cell? ⟨b, 0, none⟩ = some x0 ∧ w.cell? ⟨b, 1, none⟩ = some x1 ∧ w.cell? ⟨b, 2, none⟩ = some x2 ∧ w.cell? ⟨b, 3, none⟩ = some x3 ∧ w.cell? ⟨b, 4, none⟩ = some x4 ∧ w.cell? ⟨b, 5, none⟩ = some x5 ∧ w.cell? ⟨b, 6, none⟩ = some x6 ∧ w.cell? ⟨b, 7, none⟩ = some x7 := by
  simp [World.cell?, h]
theorem heap_setAt {w : World} {b : Nat} {xs : Array Value} {T : TypeId} {fr : Nat × Nat} (h : w.heap[b]? = some (.cells xs T fr)) (i : Nat) (v : Value) : (w.setCell ⟨b, i, none⟩ v).heap[b]? = some (.cells (xs.setIfInBounds i v) T fr) := by
  show (w.heap.modify b _)[b]? = _
  rw [Array.getElem?_modify, if_pos rfl, h]; rfl
/-- The payload of an ID. -/
noncomputable def payN (p : Par) (session : Nat) (obj : List UInt8) (id : Nat) : List UInt8 := sumB p.b.toNat (pickR (compN p session obj) (blkN p session id))
theorem compN_length' (p : Par) (session : Nat) (obj : List UInt8) : (compN p session obj).length = p.n.toNat + (auxN p).toNat := by unfold compN; rw [compK_length]
theorem blkN_range {p : Par} (hm : p.may) (session id : Nat) (obj : List UInt8) : inRange (compN p session obj).length (blkN p session id) := by
  intro i hi
  have := someN_below _ _ _ i hi
  rw [compN_length']
  have h2 := auxN_bounds hm
  have h3 : p.all = p.n + auxN p := rfl
  have h4 := hm.1
  omega
theorem comp_checkB {p : Par} (hm : p.may) (session id : Nat) (obj : List UInt8) : checkB p.b (compN p session obj) (blkN p session id) = true := by
  have hr := blkN_range hm session id obj
  have hb : 1 ≤ p.b := hm.2.2.1
  unfold checkB
  rw [decide_eq_true (by omega : 0 ≤ p.b), Bool.true_and, List.all_eq_true]
  intro i hi
  obtain ⟨h1, h2⟩ := hr i hi
  have h3 := comp_fit hm session obj (auxN p).toNat (gr (compN p session obj) i.toNat) (gr_mem _ _ h2)
  unfold okAt
  rw [decide_eq_true h1, decide_eq_true (by omega : i < ((compN p session obj).length : Int)), h3, decide_eq_true (by omega)]
  rfl
theorem payN_length {p : Par} (hm : p.may) (session : Nat) (obj : List UInt8) (id : Nat) : (payN p session obj id).length = p.b.toNat := by
  obtain ⟨_, _, _, h⟩ := checkB_yes (comp_checkB hm session id obj)
  exact sumB_length h
/-- An encoder of an object. -/
def EncAt (w : World) (c : Nat) (p : Par) (session : Nat) (obj : List UInt8) : Prop :=
  ∃ (s k : Nat) (Ab : Option Addr) (cap : Nat), w.heap[c]? = some (.cells #[.pointer (some ⟨s, 0, none⟩), .pointer (some ⟨k, 0, none⟩), .int .u64 (session : Int), .int .i64 p.n, .int .i64 p.b, .int .i64 p.q, .int .i64 p.eps, .int .i64 p.f, .int .i64 (obj.length : Int), .int .u64 0, .slice Ab (compN p session obj).length cap] 83 (0, 0)) ∧ SrcAt w s p session ∧ CodAt w k ∧ RowsIn (fun _ => True) w Ab (compN p session obj) ∧ (compN p session obj).length ≤ cap ∧ (Ab = none → cap = 0)
theorem EncAt.kept {w w1 : World} {c : Nat} {p : Par} {session : Nat} {obj : List UInt8} (h : EncAt w c p session obj) (hk : Keeps NoB w w1) : EncAt w1 c p session obj := by
  obtain ⟨s, k, Ab, cap, h1, h2, h3, h4, h5⟩ := h
  exact ⟨s, k, Ab, cap, hk.heap h1 (fun h => h), h2.kept hk, h3.kept hk, h4.kept hk, h5⟩
set_option maxHeartbeats 2000000 in
set_option maxRecDepth 20000 in
theorem packet_calls (c : Nat) (p : Par) (session : Nat) (obj : List UInt8) (id : Nat) (w : World) (h : EncAt w c p session obj) (hm : p.may) (hs : session < 18446744073709551616) (hi : id < 18446744073709551616) :
    Calls Try.prog 18 #[.pointer (some ⟨c, 0, none⟩), .int .u64 (id : Int)] w fun e w' => ∃ (Ap : Option Addr) (cp : Nat), e = .returned (.agg #[.int .u64 (session : Int), .int .i64 p.n, .int .i64 p.b, .int .i64 p.q, .int .i64 p.eps, .int .i64 p.f, .int .i64 (obj.length : Int), .int .u64 (id : Int), .slice Ap p.b.toNat cp]) ∧ OwnB w' w.heap.size (.slice Ap p.b.toNat cp) (payN p session obj id) ∧ Keeps NoB w w' := by
  have hu := Try.underlying23
  have huh := Try.underlying50
  have hup := Try.underlying52
  obtain ⟨s, k, Ab, cap, h1, h2, h3, h4, h5, h6⟩ := h
  obtain ⟨N, B, hpn, hpb, hpn2, hpb2, hN1, hN2, hB1, hB2, hNB, hNB2⟩ := par_sizes hm
  have HPL := hid ((payN_length hm session obj id).trans hpb2)
  have hblk := blkN_range hm session id obj
  have hcl := compN_length' p session obj
  have hab := auxN_bounds hm
  have hbl : (blkN p session id).length ≤ 1073741824 := by
    have := blkN_length hm session id
    have := all_bounds hm
    omega
  have HIB := hid (fun (W : World) (hW : Keeps NoB w W) => iblocks_calls p session id s W hm hs hi (h2.kept hW))
  have HCG := hid (fun (W : World) (A4 : Option Addr) (c4 : Nat) (hW : Keeps NoB w W) (hat : IntsAt W .i64 A4 (blkN p session id)) => check_good p.b (compN p session obj) (blkN p session id) Ab cap A4 c4 _ W (by omega) (h4.kept hW) hat hbl (comp_checkB hm session id obj))
  obtain ⟨nb, hnb⟩ : ∃ nb, (blkN p session id).length = nb := ⟨_, rfl⟩
  obtain ⟨m, hmm⟩ : ∃ m, (compN p session obj).length = m := ⟨_, rfl⟩
  obtain ⟨L, hL⟩ : ∃ L, obj.length = L := ⟨_, rfl⟩
  have hpy : sumB p.b.toNat (pickR (compN p session obj) (blkN p session id)) = payN p session obj id := rfl
  rw [hnb, hmm, hpy] at HCG
  rw [hmm, hL] at h1
  rw [hL, hpb2]
  have HNB := hid hnb
  rw [hpb] at h1 HCG ⊢
  have h1' := hid h1
  have HLD0 := hid (fun (W : World) (hW : Keeps NoB w W) => (show W.cell? ⟨c, 0, none⟩ = some (.pointer (some ⟨s, 0, none⟩)) ∧ W.cell? ⟨c, 10, none⟩ = some (.slice Ab m cap) ∧ W.cell? ⟨c, 2, none⟩ = some (.int .u64 (session : Int)) ∧ W.cell? ⟨c, 3, none⟩ = some (.int .i64 p.n) ∧ W.cell? ⟨c, 4, none⟩ = some (.int .i64 (B : Int)) ∧ W.cell? ⟨c, 5, none⟩ = some (.int .i64 p.q) ∧ W.cell? ⟨c, 6, none⟩ = some (.int .i64 p.eps) ∧ W.cell? ⟨c, 7, none⟩ = some (.int .i64 p.f) ∧ W.cell? ⟨c, 8, none⟩ = some (.int .i64 (L : Int)) ∧ W.cell? ⟨c, 9, none⟩ = some (.int .u64 0) by
    have := hW.heap h1'.out (fun h => h)
    simp [World.cell?, this]))
  generalize payN p session obj id = pay at *
  generalize blkN p session id = bl at *
  clear h1 h2 h3 h4 h5 h6 hpn hpb hpn2 hpb2 hNB hNB2 hblk hcl hab hbl hnb hmm hL hpy hs hi hm
  have HK1 := hid ((Keeps.refl NoB w).alloc (.cells #[.int .u64 0, .int .i64 0, .int .i64 0, .int .i64 0, .int .i64 0, .int .i64 0, .int .i64 0, .int .u64 0, .slice none 0 0] 52))
  have HR1 := hid (heap_alloc_new w (.cells #[.int .u64 0, .int .i64 0, .int .i64 0, .int .i64 0, .int .i64 0, .int .i64 0, .int .i64 0, .int .u64 0, .slice none 0 0] 52))
  obtain ⟨w1, hw1⟩ : ∃ w1, w.alloc (.cells #[.int .u64 0, .int .i64 0, .int .i64 0, .int .i64 0, .int .i64 0, .int .i64 0, .int .i64 0, .int .u64 0, .slice none 0 0] 52) = w1 := ⟨_, rfl⟩
  rw [hw1] at HK1 HR1
  obtain ⟨z0, hz0⟩ : ∃ z0, w.heap.size = z0 := ⟨_, rfl⟩
  rw [hz0] at HR1 ⊢
  have HZ0 := hid hz0
  go_enter Try.func18, Try.ntmps18
  go_upto_region 1 with fail
  clear hw1
  obtain ⟨d0, d1, d2, d3, d4, d5, d6, d7, d8, d9⟩ := HLD0.out w1 HK1.out
  have HH := hid (heap_alloc_new w1 (.cells #[.int .u64 (session : Int), .int .i64 p.n, .int .i64 (B : Int), .int .i64 p.q, .int .i64 p.eps, .int .i64 p.f, .int .i64 (L : Int), .int .u64 0] 50))
  go_wp2_with fail
  have HH := hid (heap_alloc_new w1 (.cells #[.int .u64 (session : Int), .int .i64 p.n, .int .i64 (B : Int), .int .i64 p.q, .int .i64 p.eps, .int .i64 p.f, .int .i64 (L : Int), .int .u64 (id : Int)] 50))
  have HK13 := hid ((Keeps.refl NoB w1).alloc (.cells #[.int .u64 (session : Int), .int .i64 p.n, .int .i64 (B : Int), .int .i64 p.q, .int .i64 p.eps, .int .i64 p.f, .int .i64 (L : Int), .int .u64 (id : Int)] 50))
  generalize w1.alloc (.cells #[.int .u64 (session : Int), .int .i64 p.n, .int .i64 (B : Int), .int .i64 p.q, .int .i64 p.eps, .int .i64 p.f, .int .i64 (L : Int), .int .u64 (id : Int)] 50) = w3 at *
  obtain ⟨hb, hhb⟩ : ∃ hb, w1.heap.size = hb := ⟨_, rfl⟩
  rw [hhb] at HH ⊢
  have HK3 := hid (HK1.out.fresh HK13.out)
  have HR3 := hid (HK13.out.heap HR1.out (fun h => h))
  have HLD := hid (fun (W : World) (hW : Keeps NoB w3 W) => (show W.cell? ⟨hb, 2, none⟩ = some (.int .i64 (B : Int)) ∧ W.cell? ⟨c, 10, none⟩ = some (.slice Ab m cap) ∧ W.cell? ⟨c, 0, none⟩ = some (.pointer (some ⟨s, 0, none⟩)) by
    have h1 := hW.heap HH.out (fun h => h)
    have h2 := HLD0.out W (HK3.out.fresh hW)
    exact ⟨by simp [World.cell?, h1], h2.2.1, h2.1⟩))
  have HZ := hid (show z0 ≤ w3.heap.size by have := HK3.out.size; have := HZ0.out; omega)
  have HIB := hid (fun (W : World) (hW : Keeps NoB w3 W) => HIB.out W (HK3.out.fresh hW))
  have HCG := hid (fun (W : World) (A4 : Option Addr) (c4 : Nat) (hW : Keeps NoB w3 W) (hat : IntsAt W .i64 A4 bl) => HCG.out W A4 c4 (HK3.out.fresh hW) hat)
  have HKd := hid (Keeps.refl NoB w3).drew
  clear d0 d1 d2 d3 d4 d5 d6 d7 d8 d9 hhb
  refine wp_region_list [([], [15], []), ([0], [16], [15]), ([0, 1], [17], [15, 16]), ([], [18], []), ([3], [19], [18]), ([3, 4], [20], [18, 19]), ([3, 4, 5], [21], [18, 19, 20]), ([], [22], []), ([7], [23], [22]), ([7, 8], [24], [22, 23]), ([7, 8, 9], [25], [22, 23, 24]), ([], [26], []), ([7, 8, 9, 10, 11], [27], [22, 23, 24, 25, 26]), ([0, 1, 2, 3, 4, 5, 6, 7, 8, 9, 10, 11, 12], [28], [15, 16, 17, 18, 19, 20, 21, 22, 23, 24, 25, 26, 27]), ([0, 1, 2, 3, 4, 5, 6, 7, 8, 9, 10, 11, 12, 13], [14, 28], [15, 16, 17, 18, 19, 20, 21, 22, 23, 24, 25, 26, 27, 28]), ([0, 1, 2, 3, 4, 5, 6, 7, 8, 9, 10, 11, 12, 13, 14], [29], [15, 16, 17, 18, 19, 20, 21, 22, 23, 24, 25, 26, 27, 28, 14]), ([0, 1, 2, 3, 4, 5, 6, 7, 8, 9, 10, 11, 12, 13, 14], [30], [15, 16, 17, 18, 19, 20, 21, 22, 23, 24, 25, 26, 27, 28, 14]), ([0, 1, 2, 3, 4, 5, 6, 7, 8, 9, 10, 11, 12, 13, 14, 15], [6], [15, 16, 17, 18, 19, 20, 21, 22, 23, 24, 25, 26, 27, 28, 14, 29]), ([0, 1, 2, 3, 4, 5, 6, 7, 8, 9, 10, 11, 12, 13, 14, 15, 16, 17], [7], [15, 16, 17, 18, 19, 20, 21, 22, 23, 24, 25, 26, 27, 28, 14, 29, 30, 6])] [15, 16, 17, 18, 19, 20, 21, 22, 23, 24, 25, 26, 27, 28, 14, 29, 30, 6, 7] (Keeps NoB) (fun (i : Nat) => ([(fun rs__ U => (rs__.getD 0 undef) = Value.pointer (some ⟨hb, 1, none⟩)), (fun rs__ U => (rs__.getD 0 undef) = Value.pointer (some ⟨hb, 2, none⟩)), (fun rs__ U => (rs__.getD 0 undef) = Value.int .i64 (B : Int)), (fun rs__ U => (rs__.getD 0 undef) = Value.pointer (some ⟨c, 0, none⟩)), (fun rs__ U => (rs__.getD 0 undef) = Value.pointer (some ⟨c, 0, none⟩)), (fun rs__ U => (rs__.getD 0 undef) = Value.pointer (some ⟨c, 10, none⟩)), (fun rs__ U => (rs__.getD 0 undef) = Value.slice Ab m cap), (fun rs__ U => (rs__.getD 0 undef) = Value.pointer (some ⟨c, 0, none⟩)), (fun rs__ U => (rs__.getD 0 undef) = Value.pointer (some ⟨c, 0, none⟩)), (fun rs__ U => (rs__.getD 0 undef) = Value.pointer (some ⟨c, 0, none⟩)), (fun rs__ U => (rs__.getD 0 undef) = Value.pointer (some ⟨s, 0, none⟩)), (fun rs__ U => (rs__.getD 0 undef) = Value.int .u64 (id : Int)), (fun rs__ U => ∃ A4 c4, (rs__.getD 0 undef) = Value.slice A4 nb c4 ∧ Hid (IntsAt U .i64 A4 bl)), (fun rs__ U => ∃ A5 c5, (rs__.getD 0 undef) = Value.tuple #[Value.slice A5 B c5, Value.bool true] ∧ Hid (OwnB U z0 (Value.slice A5 B c5) pay)), (fun rs__ U => (rs__.getD 0 undef) = (rs__.getD 1 undef)), (fun rs__ U => ∃ A5 c5, (rs__.getD 0 undef) = Value.slice A5 B c5 ∧ Hid (OwnB U z0 (Value.slice A5 B c5) pay)), (fun rs__ U => (rs__.getD 0 undef) = Value.bool true), (fun rs__ U => ∃ A5 c5, (rs__.getD 0 undef) = Value.slice A5 B c5 ∧ Hid (OwnB U z0 (Value.slice A5 B c5) pay)), (fun rs__ U => (rs__.getD 0 undef) = Value.bool true)] : List (List Value → World → Prop)).getD i (fun _ _ => True)) (by kernel_rfl) (by kernel_rfl) (by kernel_rfl) (fun _ _ _ h1 h2 => h1.fresh h2) (fun _ => Keeps.refl _ _) (RL.cons ?s0 (RL.cons ?s1 (RL.cons ?s2 (RL.cons ?s3 (RL.cons ?s4 (RL.cons ?s5 (RL.cons ?s6 (RL.cons ?s7 (RL.cons ?s8 (RL.cons ?s9 (RL.cons ?s10 (RL.cons ?s11 (RL.cons ?s12 (RL.cons ?s13 (RL.cons ?s14 (RL.cons ?s15 (RL.cons ?s16 (RL.cons ?s17 (RL.cons ?s18 (RL.nil _ _)))))))))))))))))))) ?fin
  case s0 =>
    intro V wx hE hd
    clear hd
    intro K hK
    simp only [rput, List.foldl_cons, List.foldl_nil, Act.put, List.setIfInBounds_toArray, List.set_cons_zero, List.set_cons_succ]
    go_simp; (with_reducible refine hK.out _ _ ?_ ?_); exact rfl; exact ⟨Keeps.refl _ _, rfl⟩
  case s1 =>
    intro V wx hE hd
    obtain ⟨u0, hb0, hu0, p0⟩ : ∃ U, Keeps NoB w3.drew U ∧ Keeps NoB U wx ∧ ((V 15) = Value.pointer (some ⟨hb, 1, none⟩)) := hd 0 (by decide)
    clear hd
    clear hb0 hu0
    intro K hK
    simp only [rput, List.foldl_cons, List.foldl_nil, Act.put, List.setIfInBounds_toArray, List.set_cons_zero, List.set_cons_succ, p0]
    go_simp; (with_reducible refine hK.out _ _ ?_ ?_); exact rfl; exact ⟨Keeps.refl _ _, rfl⟩
  case s2 =>
    intro V wx hE hd
    obtain ⟨u1, hb1, hu1, p1⟩ : ∃ U, Keeps NoB w3.drew U ∧ Keeps NoB U wx ∧ ((V 16) = Value.pointer (some ⟨hb, 2, none⟩)) := hd 1 (by decide)
    clear hd
    clear hb1 hu1
    intro K hK
    simp only [rput, List.foldl_cons, List.foldl_nil, Act.put, List.setIfInBounds_toArray, List.set_cons_zero, List.set_cons_succ, p1]
    obtain ⟨l1, l2, l3⟩ := HLD.out wx (HKd.out.fresh hE); go_simp; (with_reducible refine hK.out _ _ ?_ ?_); exact rfl; exact ⟨Keeps.refl _ _, rfl⟩
  case s3 =>
    intro V wx hE hd
    clear hd
    intro K hK
    simp only [rput, List.foldl_cons, List.foldl_nil, Act.put, List.setIfInBounds_toArray, List.set_cons_zero, List.set_cons_succ]
    go_simp; (with_reducible refine hK.out _ _ ?_ ?_); exact rfl; exact ⟨Keeps.refl _ _, rfl⟩
  case s4 =>
    intro V wx hE hd
    obtain ⟨u3, hb3, hu3, p3⟩ : ∃ U, Keeps NoB w3.drew U ∧ Keeps NoB U wx ∧ ((V 18) = Value.pointer (some ⟨c, 0, none⟩)) := hd 3 (by decide)
    clear hd
    clear hb3 hu3
    intro K hK
    simp only [rput, List.foldl_cons, List.foldl_nil, Act.put, List.setIfInBounds_toArray, List.set_cons_zero, List.set_cons_succ, p3]
    go_simp; (with_reducible refine hK.out _ _ ?_ ?_); exact rfl; exact ⟨Keeps.refl _ _, rfl⟩
  case s5 =>
    intro V wx hE hd
    obtain ⟨u4, hb4, hu4, p4⟩ : ∃ U, Keeps NoB w3.drew U ∧ Keeps NoB U wx ∧ ((V 19) = Value.pointer (some ⟨c, 0, none⟩)) := hd 4 (by decide)
    clear hd
    clear hb4 hu4
    intro K hK
    simp only [rput, List.foldl_cons, List.foldl_nil, Act.put, List.setIfInBounds_toArray, List.set_cons_zero, List.set_cons_succ, p4]
    go_simp; (with_reducible refine hK.out _ _ ?_ ?_); exact rfl; exact ⟨Keeps.refl _ _, rfl⟩
  case s6 =>
    intro V wx hE hd
    obtain ⟨u5, hb5, hu5, p5⟩ : ∃ U, Keeps NoB w3.drew U ∧ Keeps NoB U wx ∧ ((V 20) = Value.pointer (some ⟨c, 10, none⟩)) := hd 5 (by decide)
    clear hd
    clear hb5 hu5
    intro K hK
    simp only [rput, List.foldl_cons, List.foldl_nil, Act.put, List.setIfInBounds_toArray, List.set_cons_zero, List.set_cons_succ, p5]
    obtain ⟨l1, l2, l3⟩ := HLD.out wx (HKd.out.fresh hE); go_simp; (with_reducible refine hK.out _ _ ?_ ?_); exact rfl; exact ⟨Keeps.refl _ _, rfl⟩
  case s7 =>
    intro V wx hE hd
    clear hd
    intro K hK
    simp only [rput, List.foldl_cons, List.foldl_nil, Act.put, List.setIfInBounds_toArray, List.set_cons_zero, List.set_cons_succ]
    go_simp; (with_reducible refine hK.out _ _ ?_ ?_); exact rfl; exact ⟨Keeps.refl _ _, rfl⟩
  case s8 =>
    intro V wx hE hd
    obtain ⟨u7, hb7, hu7, p7⟩ : ∃ U, Keeps NoB w3.drew U ∧ Keeps NoB U wx ∧ ((V 22) = Value.pointer (some ⟨c, 0, none⟩)) := hd 7 (by decide)
    clear hd
    clear hb7 hu7
    intro K hK
    simp only [rput, List.foldl_cons, List.foldl_nil, Act.put, List.setIfInBounds_toArray, List.set_cons_zero, List.set_cons_succ, p7]
    go_simp; (with_reducible refine hK.out _ _ ?_ ?_); exact rfl; exact ⟨Keeps.refl _ _, rfl⟩
  case s9 =>
    intro V wx hE hd
    obtain ⟨u8, hb8, hu8, p8⟩ : ∃ U, Keeps NoB w3.drew U ∧ Keeps NoB U wx ∧ ((V 23) = Value.pointer (some ⟨c, 0, none⟩)) := hd 8 (by decide)
    clear hd
    clear hb8 hu8
    intro K hK
    simp only [rput, List.foldl_cons, List.foldl_nil, Act.put, List.setIfInBounds_toArray, List.set_cons_zero, List.set_cons_succ, p8]
    go_simp; (with_reducible refine hK.out _ _ ?_ ?_); exact rfl; exact ⟨Keeps.refl _ _, rfl⟩
  case s10 =>
    intro V wx hE hd
    obtain ⟨u9, hb9, hu9, p9⟩ : ∃ U, Keeps NoB w3.drew U ∧ Keeps NoB U wx ∧ ((V 24) = Value.pointer (some ⟨c, 0, none⟩)) := hd 9 (by decide)
    clear hd
    clear hb9 hu9
    intro K hK
    simp only [rput, List.foldl_cons, List.foldl_nil, Act.put, List.setIfInBounds_toArray, List.set_cons_zero, List.set_cons_succ, p9]
    obtain ⟨l1, l2, l3⟩ := HLD.out wx (HKd.out.fresh hE); go_simp; (with_reducible refine hK.out _ _ ?_ ?_); exact rfl; exact ⟨Keeps.refl _ _, rfl⟩
  case s11 =>
    intro V wx hE hd
    clear hd
    intro K hK
    simp only [rput, List.foldl_cons, List.foldl_nil, Act.put, List.setIfInBounds_toArray, List.set_cons_zero, List.set_cons_succ]
    go_simp; (with_reducible refine hK.out _ _ ?_ ?_); exact rfl; exact ⟨Keeps.refl _ _, rfl⟩
  case s12 =>
    intro V wx hE hd
    obtain ⟨u10, hb10, hu10, p10⟩ : ∃ U, Keeps NoB w3.drew U ∧ Keeps NoB U wx ∧ ((V 25) = Value.pointer (some ⟨s, 0, none⟩)) := hd 10 (by decide)
    obtain ⟨u11, hb11, hu11, p11⟩ : ∃ U, Keeps NoB w3.drew U ∧ Keeps NoB U wx ∧ ((V 26) = Value.int .u64 (id : Int)) := hd 11 (by decide)
    clear hd
    clear hb10 hu10
    clear hb11 hu11
    intro K hK
    simp only [rput, List.foldl_cons, List.foldl_nil, Act.put, List.setIfInBounds_toArray, List.set_cons_zero, List.set_cons_succ, p10, p11]
    go_simp; refine (HIB.out _ (HKd.out.fresh hE)).mono ?_; rintro e w4 ⟨v4, rfl, ho4, hk4⟩; obtain ⟨A4, c4, hv4, _, hat4⟩ := OwnInts.reads ho4; rw [HNB.out] at hv4; subst hv4; (with_reducible refine hK.out _ _ ?_ ?_); exact rfl; exact ⟨hk4, A4, c4, rfl, hid hat4⟩
  case s13 =>
    intro V wx hE hd
    obtain ⟨u2, hb2, hu2, p2⟩ : ∃ U, Keeps NoB w3.drew U ∧ Keeps NoB U wx ∧ ((V 17) = Value.int .i64 (B : Int)) := hd 2 (by decide)
    obtain ⟨u6, hb6, hu6, p6⟩ : ∃ U, Keeps NoB w3.drew U ∧ Keeps NoB U wx ∧ ((V 21) = Value.slice Ab m cap) := hd 6 (by decide)
    obtain ⟨u12, hb12, hu12, p12⟩ : ∃ U, Keeps NoB w3.drew U ∧ Keeps NoB U wx ∧ (∃ A4 c4, (V 27) = Value.slice A4 nb c4 ∧ Hid (IntsAt U .i64 A4 bl)) := hd 12 (by decide)
    clear hd
    clear hb2 hu2
    clear hb6 hu6
    obtain ⟨A4, c4, q12, hat4⟩ := p12
    intro K hK
    simp only [rput, List.foldl_cons, List.foldl_nil, Act.put, List.setIfInBounds_toArray, List.set_cons_zero, List.set_cons_succ, p2, p6, q12]
    go_simp; refine (HCG.out wx A4 c4 (HKd.out.fresh hE) (hat4.out.kept hu12)).mono ?_; rintro e w5 ⟨v5, rfl, ho5, hk5⟩; obtain ⟨A5, c5, hv5, _⟩ := OwnB.reads ho5; rw [HPL.out] at hv5; subst hv5; (with_reducible refine hK.out _ _ ?_ ?_); exact rfl; exact ⟨hk5, A5, c5, rfl, hid (OwnInts.lower ho5 (Nat.le_trans HZ.out (HKd.out.fresh hE).size))⟩
  case s14 =>
    intro V wx hE hd
    obtain ⟨u13, hb13, hu13, p13⟩ : ∃ U, Keeps NoB w3.drew U ∧ Keeps NoB U wx ∧ (∃ A5 c5, (V 28) = Value.tuple #[Value.slice A5 B c5, Value.bool true] ∧ Hid (OwnB U z0 (Value.slice A5 B c5) pay)) := hd 13 (by decide)
    clear hd
    obtain ⟨A5, c5, q13, ho5⟩ := p13
    intro K hK
    simp only [rput, List.foldl_cons, List.foldl_nil, Act.put, List.setIfInBounds_toArray, List.set_cons_zero, List.set_cons_succ, q13]
    go_simp; (with_reducible refine hK.out _ _ ?_ ?_); exact rfl; exact ⟨Keeps.refl _ _, q13.symm⟩
  case s15 =>
    intro V wx hE hd
    obtain ⟨u13, hb13, hu13, p13⟩ : ∃ U, Keeps NoB w3.drew U ∧ Keeps NoB U wx ∧ (∃ A5 c5, (V 28) = Value.tuple #[Value.slice A5 B c5, Value.bool true] ∧ Hid (OwnB U z0 (Value.slice A5 B c5) pay)) := hd 13 (by decide)
    obtain ⟨u14, hb14, hu14, p14⟩ : ∃ U, Keeps NoB w3.drew U ∧ Keeps NoB U wx ∧ ((V 14) = (V 28)) := hd 14 (by decide)
    clear hd
    clear hb14 hu14
    obtain ⟨A5, c5, q13, ho5⟩ := p13
    intro K hK
    simp only [rput, List.foldl_cons, List.foldl_nil, Act.put, List.setIfInBounds_toArray, List.set_cons_zero, List.set_cons_succ, p14, q13]
    go_simp; (with_reducible refine hK.out _ _ ?_ ?_); exact rfl; exact ⟨Keeps.refl _ _, A5, c5, rfl, hid (OwnInts.kept ho5.out hu13)⟩
  case s16 =>
    intro V wx hE hd
    obtain ⟨u13, hb13, hu13, p13⟩ : ∃ U, Keeps NoB w3.drew U ∧ Keeps NoB U wx ∧ (∃ A5 c5, (V 28) = Value.tuple #[Value.slice A5 B c5, Value.bool true] ∧ Hid (OwnB U z0 (Value.slice A5 B c5) pay)) := hd 13 (by decide)
    obtain ⟨u14, hb14, hu14, p14⟩ : ∃ U, Keeps NoB w3.drew U ∧ Keeps NoB U wx ∧ ((V 14) = (V 28)) := hd 14 (by decide)
    clear hd
    clear hb14 hu14
    obtain ⟨A5, c5, q13, ho5⟩ := p13
    intro K hK
    simp only [rput, List.foldl_cons, List.foldl_nil, Act.put, List.setIfInBounds_toArray, List.set_cons_zero, List.set_cons_succ, p14, q13]
    go_simp; (with_reducible refine hK.out _ _ ?_ ?_); exact rfl; exact ⟨Keeps.refl _ _, rfl⟩
  case s17 =>
    intro V wx hE hd
    obtain ⟨u15, hb15, hu15, p15⟩ : ∃ U, Keeps NoB w3.drew U ∧ Keeps NoB U wx ∧ (∃ A5 c5, (V 29) = Value.slice A5 B c5 ∧ Hid (OwnB U z0 (Value.slice A5 B c5) pay)) := hd 15 (by decide)
    clear hd
    obtain ⟨A5, c5, q15, ho5⟩ := p15
    intro K hK
    simp only [rput, List.foldl_cons, List.foldl_nil, Act.put, List.setIfInBounds_toArray, List.set_cons_zero, List.set_cons_succ, q15]
    go_simp; (with_reducible refine hK.out _ _ ?_ ?_); exact rfl; exact ⟨Keeps.refl _ _, A5, c5, rfl, hid (OwnInts.kept ho5.out hu15)⟩
  case s18 =>
    intro V wx hE hd
    obtain ⟨u16, hb16, hu16, p16⟩ : ∃ U, Keeps NoB w3.drew U ∧ Keeps NoB U wx ∧ ((V 30) = Value.bool true) := hd 16 (by decide)
    clear hd
    clear hb16 hu16
    intro K hK
    simp only [rput, List.foldl_cons, List.foldl_nil, Act.put, List.setIfInBounds_toArray, List.set_cons_zero, List.set_cons_succ, p16]
    go_simp; (with_reducible refine hK.out _ _ ?_ ?_); exact rfl; exact ⟨Keeps.refl _ _, rfl⟩
  case fin =>
    intro V wz hE hd
    obtain ⟨u17, hb17, hu17, p17⟩ : ∃ U, Keeps NoB w3.drew U ∧ Keeps NoB U wz ∧ (∃ A5 c5, (V 6) = Value.slice A5 B c5 ∧ Hid (OwnB U z0 (Value.slice A5 B c5) pay)) := hd 17 (by decide)
    obtain ⟨u18, hb18, hu18, p18⟩ : ∃ U, Keeps NoB w3.drew U ∧ Keeps NoB U wz ∧ ((V 7) = Value.bool true) := hd 18 (by decide)
    clear hd
    clear hb18 hu18
    obtain ⟨A5, c5, q17, ho5⟩ := p17
    simp only [rput, List.foldl_cons, List.foldl_nil, Act.put, List.setIfInBounds_toArray, List.set_cons_zero, List.set_cons_succ, p18, q17]
    clear p18
    have HHz := hid ((HKd.out.fresh hE).heap HH.out (fun h => h))
    have HRz := hid ((HKd.out.fresh hE).heap HR3.out (fun h => h))
    have HO := hid (OwnInts.kept ho5.out hu17)
    have HKz := hid (HK3.out.fresh (HKd.out.fresh hE))
    obtain ⟨e0, e1, e2, e3, e4, e5, e6, e7⟩ := cells8' HHz.out
    obtain ⟨r0, r1, r2, r3, r4, r5, r6, r7, r8⟩ := cells9 HRz.out
    have f0 : wz.frozen? ⟨z0, 0, none⟩ = false := by simp [World.frozen?, HRz.out]
    have f1 : wz.frozen? ⟨z0, 1, none⟩ = false := by simp [World.frozen?, HRz.out]
    have f2 : wz.frozen? ⟨z0, 2, none⟩ = false := by simp [World.frozen?, HRz.out]
    have f3 : wz.frozen? ⟨z0, 3, none⟩ = false := by simp [World.frozen?, HRz.out]
    have f4 : wz.frozen? ⟨z0, 4, none⟩ = false := by simp [World.frozen?, HRz.out]
    have f5 : wz.frozen? ⟨z0, 5, none⟩ = false := by simp [World.frozen?, HRz.out]
    have f6 : wz.frozen? ⟨z0, 6, none⟩ = false := by simp [World.frozen?, HRz.out]
    have f7 : wz.frozen? ⟨z0, 7, none⟩ = false := by simp [World.frozen?, HRz.out]
    have f8 : wz.frozen? ⟨z0, 8, none⟩ = false := by simp [World.frozen?, HRz.out]
    clear hE HLD HIB HCG ho5 hu17
    go_wp2_with fail
    have hfin := heap_setAt (heap_setAt (heap_setAt (heap_setAt (heap_setAt (heap_setAt (heap_setAt (heap_setAt (heap_setAt HRz.out 0 (.int .u64 (session : Int))) 1 (.int .i64 p.n)) 2 (.int .i64 (B : Int))) 3 (.int .i64 p.q)) 4 (.int .i64 p.eps)) 5 (.int .i64 p.f)) 6 (.int .i64 (L : Int))) 7 (.int .u64 (id : Int))) 8 (.slice A5 B c5)
    simp only [List.setIfInBounds_toArray, List.set_cons_zero, List.set_cons_succ] at hfin
    have HFN := hid hfin
    have HK9 := hid (show Keeps (· = z0) wz _ from (((((((((Keeps.refl (· = z0) wz).setCell (p := ⟨z0, 0, none⟩) (fun _ => rfl) (.int .u64 (session : Int))).setCell (p := ⟨z0, 1, none⟩) (fun _ => rfl) (.int .i64 p.n)).setCell (p := ⟨z0, 2, none⟩) (fun _ => rfl) (.int .i64 (B : Int))).setCell (p := ⟨z0, 3, none⟩) (fun _ => rfl) (.int .i64 p.q)).setCell (p := ⟨z0, 4, none⟩) (fun _ => rfl) (.int .i64 p.eps)).setCell (p := ⟨z0, 5, none⟩) (fun _ => rfl) (.int .i64 p.f)).setCell (p := ⟨z0, 6, none⟩) (fun _ => rfl) (.int .i64 (L : Int))).setCell (p := ⟨z0, 7, none⟩) (fun _ => rfl) (.int .u64 (id : Int))).setCell (p := ⟨z0, 8, none⟩) (fun _ => rfl) (.slice A5 B c5))
    clear hfin r0 r1 r2 r3 r4 r5 r6 r7 r8 e0 e1 e2 e3 e4 e5 e6 e7
    generalize (((((((((wz.setCell ⟨z0, 0, none⟩ (.int .u64 (session : Int))).setCell ⟨z0, 1, none⟩ (.int .i64 p.n)).setCell ⟨z0, 2, none⟩ (.int .i64 (B : Int))).setCell ⟨z0, 3, none⟩ (.int .i64 p.q)).setCell ⟨z0, 4, none⟩ (.int .i64 p.eps)).setCell ⟨z0, 5, none⟩ (.int .i64 p.f)).setCell ⟨z0, 6, none⟩ (.int .i64 (L : Int))).setCell ⟨z0, 7, none⟩ (.int .u64 (id : Int))).setCell ⟨z0, 8, none⟩ (.slice A5 B c5)) = W9 at *
    refine bodyPost_ret (results_cell_row rfl _ _ z0 52 _ (0, 0) _ rfl HFN.out hup rfl (by kernel_rfl)) rfl ?_
    exact ⟨A5, c5, rfl, OwnInts.keeps HO.out HK9.out (fun b hb e => by
      have e : b = z0 := e
      rw [e] at hb
      exact own_ne (show wz.ownsRow z0 5 1 _ _ _ from HO.out) HRz.out (by decide) hb), HKz.out.then HK9.out (fun i e hlt => by have := HZ0.out; have e : i = z0 := e; omega)⟩
end Go.Proofs.Ytnnkfopopanfjaa
