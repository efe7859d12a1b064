/- The reference's sealed bytes, and its numbers as bytes: the walks of almonryref01.Seal, almonryref02.Put. Conditions: lengths that memory bears. -/
import Derived.Test.YtnnkfopopanfjaaGreatRefCrc
set_option linter.unusedVariables false
set_option linter.unusedSimpArgs false
namespace Go.Proofs.YtnnkfopopanfjaaGreat
open Go.RowKit

set_option maxHeartbeats 2000000 in
set_option maxRecDepth 20000 in
theorem rseal_calls (l : List UInt8) (A : Option Addr) (n c : Nat) (R : Nat → Prop) (w : World) (hn : l.length = n) (hA : A = none → c = 0) (h : BytesIn R w A l) (hm : n ≤ 1073741824) :
    Calls Tryz.prog 25 #[.slice A n c] w fun e w' => ∃ v, e = .returned v ∧ OwnB w' w.heap.size v (sealB l) ∧ Keeps NoB w w' := by
  have hui := Tryz.underlying25
  have H := hid h
  have HN := hid hn
  have HA := hid hA
  have HS := hid (rsum32_calls l A n c R w hn h hm)
  clear h hn hA
  go_enter Tryz.func25, Tryz.ntmps25
  go_wp2_with fail
  refine HS.out.mono ?_
  rintro e w1 ⟨rfl, rfl⟩
  have hs0 := (crcN l).isLt
  have HB4 := hid (be4_cells (crcN l).toNat (by omega))
  have HL4 := hid (beN_length 4 (crcN l).toNat)
  have hse := hid (show l ++ beN 4 (crcN l).toNat = sealB l from rfl)
  generalize (crcN l).toNat = s at *
  have s0 : (0 : Int) ≤ (s : Int) := by omega
  have s1 : (s : Int) ≤ 4294967295 := by omega
  have HKA := hid ((Keeps.refl NoB w1).alloc (.cells #[] 5))
  have hOE := hid (OwnInts.empty w1 w1.heap.size .u8 5 (Nat.le_refl _))
  have tk1 : True := trivial
  clear hs0 HS
  go_wp2_with (first
    | (at_builtin; clear tk1; go_must (refine wpList_appB _ rfl _ _ 25 rfl w1.heap.size hui _ [] rfl hOE.out A n c l rfl HN.out HA.out (H.out.kept HKA.out) 0 rfl (by omega) (by simp) ?_); intro v4 w4 hown4 hgr4; have HK4 := hid (HKA.out.grown hgr4 (fun i e hlt => by have e : some i = some w1.heap.size := e; have e := Option.some.inj e; omega)); have HO4 := hid (show OwnB w4 w1.heap.size v4 l from hown4); have hz4 := HK4.out.size; have hb4 := hid (fun i e => OwnInts.base_le HO4.out i e); clear hown4 hgr4)
    | (at_builtin; go_must (refine wpList_appB _ rfl _ _ 25 rfl w1.heap.size hui _ l rfl (OwnInts.alloc HO4.out _) (some ⟨w4.heap.size, 0, none⟩) 4 4 (beN 4 s) rfl HL4.out (fun e => by cases e) (R := fun _ => True) ⟨IntsAt.ofBlock _ (by rw [HB4.out]; exact heap_alloc_new w4 _) (by rw [enc8_length, HL4.out]; omega), fun _ _ _ _ => trivial⟩ n HN.out (by omega) (by simp; omega) ?_); intro v5 w5 hown5 hgr5; have HK5 := hid ((HK4.out.alloc _).grown hgr5 (fun i e hlt => by have := hb4.out i e.symm; omega))))
  go_ret
  exact ⟨_, rfl, by rw [← hse.out]; exact hown5, HK5.out⟩

/-- The bytes of a number that are written behind j rounds. -/
def putTo (size n j : Nat) : List UInt8 := List.replicate (size - j) 0 ++ (beN size n).drop (size - j)
theorem putTo_length (size n j : Nat) (h : j ≤ size) : (putTo size n j).length = size := by unfold putTo; rw [List.length_append, List.length_drop, beN_length, List.length_replicate]; omega
theorem putTo_set (size n j : Nat) (h : j < size) : (putTo size n j).set (size - 1 - j) (UInt8.ofNat (n / 256 ^ j)) = putTo size n (j + 1) := by
  unfold putTo
  have e1 : size - j = (size - 1 - j) + 1 := by omega
  rw [e1, List.replicate_succ', List.append_assoc, List.set_append_right _ _ (by simp), List.length_replicate, Nat.sub_self]
  have hd : (beN size n).drop (size - 1 - j) = (beN size n)[size - 1 - j]'(by rw [beN_length]; omega) :: (beN size n).drop (size - 1 - j + 1) := List.drop_eq_getElem_cons _
  have e2 : size - (j + 1) = size - 1 - j := by omega
  rw [e2, hd]
  have e3 : (beN size n)[size - 1 - j]'(by rw [beN_length]; omega) = UInt8.ofNat (n / 256 ^ j) := by
    simp only [beN, List.getElem_map, List.getElem_range]
    congr 3; omega
  rw [e3]; rfl
theorem putTo_zero (size n : Nat) : putTo size n 0 = List.replicate size 0 := by unfold putTo; rw [Nat.sub_zero, List.drop_eq_nil_of_le (by rw [beN_length]; exact Nat.le_refl _), List.append_nil]
theorem putTo_full (size n : Nat) : putTo size n size = beN size n := by unfold putTo; rw [Nat.sub_self]; rfl
set_option maxHeartbeats 3000000 in
set_option maxRecDepth 20000 in
theorem rput_calls (bs : List UInt8) (A : Option Addr) (m c : Nat) (N size : Nat) (R : Nat → Prop) (w : World) (hn : bs.length = m) (hA : A = none → c = 0) (h : BytesIn R w A bs) (h1 : 1 ≤ size) (h8 : size ≤ 8) (hN : N < 18446744073709551616) (hm : m ≤ 1073741824) :
    Calls Tryz.prog 24 #[.slice A m c, .int .u64 (N : Int), .int .i64 (size : Int)] w fun e w' => ∃ v, e = .returned v ∧ OwnB w' w.heap.size v (bs ++ beN size N) ∧ Keeps NoB w w' := by
  have hui := Tryz.underlying25
  obtain ⟨i1, hi', hz0', hz1', hz2'⟩ := info_parts info_u8
  have H := hid h
  have HN := hid hn
  have HA := hid hA
  have s0 : (1 : Int) ≤ (size : Int) := by omega
  have s1 : (size : Int) ≤ 8 := by omega
  have s2 : (0 : Int) ≤ (size : Int) := by omega
  have hp0 := hid (putTo_zero size N)
  have hpl := hid (fun j hj => putTo_length size N j hj)
  have hps := hid (fun j hj => putTo_set size N j hj)
  have hpf := hid (putTo_full size N)
  have HNN := hid hN
  clear h hn hA hN
  go_enter Tryz.func24, Tryz.ntmps24
  go_wp2_with (at_make; go_must (refine wpList_make_full _ rfl _ _ _ rfl w.heap.size 5 i1 (.int .u8 0) 1 hui hi' hz0' hz1' .i64 .i64 _ _ size rfl rfl rfl rfl (by rw [hz2']; omega) (by unfold maxLen; omega) (Nat.le_refl _) ?_); intro w3 hown3 hgr3; have HO3 := hid (OwnB.ofMake hown3); have HK3 := hid ((Keeps.refl NoB w).grown hgr3 (fun i e => by cases e)); clear hown3 hgr3)
  go_loopw [1, 8] (fun v1 v8 wr => ∃ (j M : Nat) (i : Int), j ≤ size ∧ -1 ≤ i ∧ i ≤ 7 ∧ v8 = .int .i64 i ∧ v1 = .int .u64 (M : Int) ∧ Hid (i = (size : Int) - 1 - (j : Int)) ∧ Hid (M = N / 256 ^ j) ∧ Hid (OwnB wr w.heap.size (.slice (some ⟨w.heap.size, 0, none⟩) size size) (putTo size N j)) ∧ Hid (Keeps NoB w wr)) (fun _ v8 _ => (intOf v8 + 1).toNat)
  case atStart => exact ⟨0, N, (size : Int) - 1, by omega, by omega, by omega, rfl, rfl, hid (by omega), hid (by simp), by rw [hp0.out]; exact HO3, HK3⟩
  case round =>
    obtain ⟨j, M, i, hj, hi0, hi1, rfl, rfl, HI, HM, HO, HK⟩ := hrel
    have hMl : M < 18446744073709551616 := by rw [HM.out]; exact Nat.lt_of_le_of_lt (Nat.div_le_self _ _) HNN.out
    have m0 : (0 : Int) ≤ (M : Int) := by omega
    have m1 : (M : Int) ≤ 18446744073709551615 := by omega
    clear hMl
    by_cases hlt : 0 ≤ i
    · obtain ⟨k, rfl⟩ : ∃ k : Nat, i = (k : Int) := ⟨i.toNat, by omega⟩
      have hk : size - 1 - j = k := by have := HI.out; omega
      have hj2 : j < size := by have := HI.out; omega
      have hset := hid (hps.out j hj2)
      have hM2 := hid (show M / 256 = N / 256 ^ (j + 1) by rw [HM.out, Nat.div_div_eq_div_mul, Nat.pow_succ])
      obtain ⟨x, hx⟩ : ∃ x, UInt8.ofNat (N / 256 ^ j) = x := ⟨_, rfl⟩
      rw [hk, hx] at hset
      have hxv := hid (show (M : Int) % 256 = (x.toNat : Int) by rw [← hx, HM.out]; simp)
      have hpj := hpl.out j hj
      have hce := OwnInts.cell HO.out (j := k) (by rw [enc8_length, hpj]; omega)
      have hfr := OwnInts.free HO.out k
      have k0 : (0 : Int) ≤ (k : Int) := by omega
      have k1 : (k : Int) < (size : Int) := by omega
      have hsi := hid (show (k : Int) - 1 = (size : Int) - 1 - ((j + 1 : Nat) : Int) by have := HI.out; omega)
      have hki := hid (show k < (enc8 (putTo size N j)).length by rw [enc8_length, hpj]; omega)
      have hkw := hid (Keeps.setCell (p := ⟨w.heap.size, k, none⟩) HK.out (fun h => absurd h (Nat.lt_irrefl _)))
      clear hx hk hpj
      go_wp2_with fail
      go_roundw
      case rel => exact ⟨j + 1, M / 256, (k : Int) - 1, by omega, by omega, by omega, rfl, by first | rfl | (congr 1; omega), hsi, hM2, hid (by
        rw [← hset.out]
        have := OwnInts.set HO.out hki.out (x.toNat : Int)
        rw [enc8_set] at this
        rw [hxv.out]
        exact this), hid (hkw.out _)⟩
      case measure => first | (simp [intOf]; done) | (simp [intOf]; omega)
    · have hjz : j = size := by have := HI.out; omega
      have HO2 := hid (show OwnB wr w.heap.size (.slice (some ⟨w.heap.size, 0, none⟩) size size) (beN size N) by
        have h9 := HO.out
        rw [hjz, hpf.out] at h9
        exact h9)
      clear hjz HO HI HM
      have HKA := hid ((Keeps.refl NoB wr).alloc (.cells #[] 5))
      have HK2 := hid (HK.out.fresh HKA.out)
      have hOE := hid (OwnInts.empty wr w.heap.size .u8 5 HK.out.size)
      have hsz := HK.out.size
      have tk1 : True := trivial
      go_wp2_with (first
        | (at_builtin; clear tk1; go_must (refine wpList_appB _ rfl _ _ 25 rfl w.heap.size hui _ [] rfl hOE.out A m c bs rfl HN.out HA.out (H.out.kept HK2.out) 0 rfl (by omega) (by simp; omega) ?_); intro v4 w4 hown4 hgr4; have HK14 := hid (HKA.out.grown hgr4 (fun i e hlt => by have e : some i = some wr.heap.size := e; have e := Option.some.inj e; omega)); have HK4 := hid (HK.out.fresh HK14.out); have HO4 := hid (show OwnB w4 w.heap.size v4 bs from hown4); have HB4 := hid (OwnB.bytes (OwnInts.kept HO2.out HK14.out)); have hb4 := hid (fun i e => OwnInts.base_le HO4.out i e); have hz4 := HK4.out.size; clear hown4 hgr4)
        | (at_builtin; go_must (refine wpList_appB _ rfl _ _ 25 rfl w.heap.size hui _ bs rfl HO4.out (some ⟨w.heap.size, 0, none⟩) size size (beN size N) rfl (beN_length size N) (fun e => by cases e) HB4.out m HN.out (by omega) hz4 ?_); intro v5 w5 hown5 hgr5; have HK5 := hid (HK4.out.grown hgr5 (fun i e hlt => by have := hb4.out i e.symm; omega))))
      go_ret
      exact ⟨_, rfl, hown5, HK5.out⟩
end Go.Proofs.YtnnkfopopanfjaaGreat
