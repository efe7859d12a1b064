/- Sums of 32 bits: the walks of crc.New, Sum, Seal, Right. Conditions: lengths that memory bears. -/
import Derived.Test.YtnnkfopopanfjaaJoin
import Derived.Test.YtnnkfopopanfjaaG3
import Derived.Deep.CutBlock
import Derived.Deep.CutRange
set_option linter.unusedVariables false
namespace Go.Proofs.Ytnnkfopopanfjaa
open Go.RowKit

/-- The table's entries. -/
def crcE (i : Nat) : Int := ((cTab (BitVec.ofNat 32 i)).toNat : Int)
/-- The table, of which k entries are reckoned. -/
def crcC (k : Nat) : Array Value := ((List.range 256).map fun i => if i < k then .int .u32 (crcE i) else .int .u32 0).toArray
set_option maxRecDepth 20000 in
theorem crcC_zero : Try.zeroCells131 = crcC 0 := by
  have h1 : Try.zeroCells131 = Array.replicate 256 (.int .u32 0) := rfl
  have h2 : (List.range 256).map (fun i => if i < 0 then (Value.int .u32 (crcE i)) else .int .u32 0) = List.replicate 256 (.int .u32 0) := by
    rw [List.eq_replicate_iff]
    refine ⟨by simp, fun b hb => ?_⟩
    obtain ⟨i, _, rfl⟩ := List.mem_map.1 hb
    rw [if_neg (by omega)]
  rw [h1]
  unfold crcC
  rw [h2, List.toArray_replicate]
theorem crcC_size (k : Nat) : (crcC k).size = 256 := by simp [crcC]
theorem crcC_set (k : Nat) (h : k < 256) : (crcC k).setIfInBounds k (.int .u32 (crcE k)) = crcC (k + 1) := by
  apply Array.ext
  · simp [crcC]
  · intro i h1 h2
    rw [Array.getElem_setIfInBounds (by simpa using h1)]
    simp only [crcC, List.getElem_toArray, List.getElem_map, List.getElem_range]
    by_cases e : k = i
    · subst e; simp
    · rw [if_neg e]
      by_cases hi : i < k
      · rw [if_pos hi, if_pos (by omega)]
      · rw [if_neg hi, if_neg (by omega)]
theorem crcC_at (k i : Nat) (h : i < 256) : (crcC k)[i]? = some (if i < k then .int .u32 (crcE i) else .int .u32 0) := by
  simp [crcC, h]
theorem cF_hi (R : BitVec 32) (h : 2147483648 ≤ R.toNat) : bits BinOp.xor IntKind.u32 ((R.toNat : Int) * 2 % 4294967296) 79764919 = ((cF R).toNat : Int) := by
  have hR := R.isLt
  have e : (R.toNat : Int) * 2 % 4294967296 = ((R.toNat * 2 % 4294967296 : Nat) : Int) := by omega
  rw [e]
  have hx := u32_xor_nat (R.toNat * 2 % 4294967296) 79764919 (by omega) (by omega)
  have e2 : ((79764919 : Nat) : Int) = 79764919 := rfl
  rw [e2] at hx
  rw [hx]
  congr 1
  unfold cF
  have hm : R.msb = true := by rw [BitVec.msb_eq_decide]; simpa using h
  rw [hm, if_pos rfl, BitVec.toNat_xor, BitVec.toNat_shiftLeft, Nat.shiftLeft_eq]
  rfl
theorem cF_lo (R : BitVec 32) (h : R.toNat < 2147483648) : (R.toNat : Int) * 2 = ((cF R).toNat : Int) := by
  rw [cF_low R h, BitVec.toNat_shiftLeft, Nat.shiftLeft_eq]
  omega
theorem crcE_bounds (i : Nat) : 0 ≤ crcE i ∧ crcE i ≤ 4294967295 := by
  unfold crcE
  have := (cTab (BitVec.ofNat 32 i)).isLt
  omega
/-- A byte more. -/
theorem cByte_walk (R : BitVec 32) (x : UInt8) : ∃ m : Nat, m < 256 ∧ bits BinOp.xor IntKind.u8 ((R.toNat : Int) / 16777216) (x.toNat : Int) = (m : Int) ∧ bits BinOp.xor IntKind.u32 ((R.toNat : Int) * 256 % 4294967296) (crcE m) = ((cByte R x).toNat : Int) := by
  have hR := R.isLt
  have hx := x.toNat_lt
  have h8 : R.toNat / 16777216 < 256 := by omega
  have hm : (R.toNat / 16777216) ^^^ x.toNat < 256 := Nat.xor_lt_two_pow (n := 8) h8 hx
  refine ⟨(R.toNat / 16777216) ^^^ x.toNat, hm, ?_, ?_⟩
  · have e : (R.toNat : Int) / 16777216 = ((R.toNat / 16777216 : Nat) : Int) := by omega
    rw [e, u8_xor_nat _ _ h8 hx]
  · have e : (R.toNat : Int) * 256 % 4294967296 = ((R.toNat * 256 % 4294967296 : Nat) : Int) := by omega
    unfold crcE
    rw [e, u32_xor_nat _ _ (by omega) (cTab _).isLt]
    congr 1
    unfold cByte
    rw [BitVec.toNat_xor, BitVec.toNat_shiftLeft, Nat.shiftLeft_eq]
    congr 3
    apply BitVec.eq_of_toNat_eq
    rw [BitVec.toNat_ofNat, BitVec.toNat_xor, BitVec.toNat_ushiftRight, BitVec.toNat_ofNat, Nat.shiftRight_eq_div_pow]
    have e2 : x.toNat % 2 ^ 32 = x.toNat := Nat.mod_eq_of_lt (by omega)
    rw [e2]
    exact Nat.mod_eq_of_lt (Nat.lt_trans hm (by decide))

set_option maxHeartbeats 3000000 in
set_option maxRecDepth 20000 in
theorem crcNew_calls (w : World) : Calls Try.prog 42 #[] w fun e w' => e = .returned (.pointer (some ⟨w.heap.size, 0, none⟩)) ∧ w'.heap[w.heap.size]? = some (.cells (crcC 256) 131 (0, 0)) ∧ Keeps NoB w w' := by
  go_enter Try.func42, Try.ntmps42
  go_wp2_with fail
  rw [crcC_zero]
  have HB0 := hid (heap_alloc_new w (.cells (crcC 0) 131))
  have HK0 := hid ((Keeps.refl NoB w).alloc (.cells (crcC 0) 131))
  generalize w.alloc (.cells (crcC 0) 131) = w1 at *
  obtain ⟨b, hb⟩ : ∃ b, w.heap.size = b := ⟨_, rfl⟩
  rw [hb] at HB0 ⊢
  have HBE := hid hb
  clear hb
  go_loopw [2, 3, 6] (fun _ _ v6 wr => ∃ k : Nat, k ≤ 256 ∧ v6 = .int .i64 (k : Int) ∧ Hid (wr.heap[b]? = some (.cells (crcC k) 131 (0, 0))) ∧ Hid (Keeps NoB w wr)) (fun _ _ v6 _ => 256 - (intOf v6).toNat)
  case atStart => exact ⟨0, by omega, rfl, HB0, HK0⟩
  case round =>
    obtain ⟨k, hk, rfl, HB, HK⟩ := hrel
    by_cases hlt : k < 256
    · have hs0 := hid (show cIt (8 - 0) (BitVec.ofNat 32 k <<< 24) = cTab (BitVec.ofNat 32 k) from rfl)
      have hn0 := hid (show (BitVec.ofNat 32 k <<< 24).toNat = k * 16777216 by
        rw [BitVec.toNat_shiftLeft, BitVec.toNat_ofNat, Nat.shiftLeft_eq]; omega)
      have q0 : (0 : Int) ≤ (k : Int) := by omega
      have q1 : (k : Int) < 256 := by omega
      go_wp2_with fail
      generalize wr = wo at *
      go_loopw [3, 12] (fun v3 v12 w2 => ∃ (j : Nat) (R : BitVec 32), j ≤ 8 ∧ v12 = .int .i64 (j : Int) ∧ v3 = .int .u32 (R.toNat : Int) ∧ Hid (cIt (8 - j) R = cTab (BitVec.ofNat 32 k)) ∧ wo = w2) (fun _ v12 _ => 8 - (intOf v12).toNat)
      case atStart => exact ⟨0, BitVec.ofNat 32 k <<< 24, by omega, rfl, by rw [hn0.out]; simp, hs0, rfl⟩
      case round =>
        obtain ⟨j, R, hj, rfl, rfl, HR, rfl⟩ := hrel
        have hRl := R.isLt
        by_cases hjl : j < 8
        · have hst := hid (show cIt (8 - (j + 1)) (cF R) = cTab (BitVec.ofNat 32 k) by
            rw [← HR.out, show 8 - j = (8 - (j + 1)) + 1 by omega]; rfl)
          obtain ⟨n, hn⟩ : ∃ n, R.toNat = n := ⟨_, rfl⟩
          rw [hn] at hRl ⊢
          have HN := hid hn
          clear hn
          have p0 : (0 : Int) ≤ (n : Int) := by omega
          have p1 : (n : Int) ≤ 4294967295 := by omega
          have j0 : (0 : Int) ≤ (j : Int) := by omega
          have j1 : (j : Int) < 8 := by omega
          clear hRl
          by_cases hmsb : 2147483648 ≤ n
          · have d0 : ((n : Int) / 2147483648 == 1) = true := by rw [beq_iff_eq]; omega
            go_wp2_with fail
            go_roundw
            case rel =>
              have := cF_hi R (by rw [HN.out]; exact hmsb)
              rw [HN.out] at this
              exact ⟨j + 1, cF R, by omega, by go_num, by rw [this], hst, trivial⟩
            case measure => simp [intOf]; omega
          · have d0 : ((n : Int) / 2147483648 == 1) = false := by rw [beq_eq_false_iff_ne]; omega
            go_wp2_with fail
            go_roundw
            case rel =>
              have := cF_lo R (by rw [HN.out]; omega)
              rw [HN.out] at this
              exact ⟨j + 1, cF R, by omega, by go_num, by rw [this], hst, trivial⟩
            case measure => simp [intOf]; omega
        · obtain rfl : j = 8 := by omega
          have hR8 : R = cTab (BitVec.ofNat 32 k) := HR.out
          have hv := hid (show (R.toNat : Int) = crcE k by rw [hR8]; rfl)
          have c0 : wo.cell? ⟨b, k, none⟩ = some (.int .u32 0) := by
            have := crcC_at k k hlt
            rw [if_neg (Nat.lt_irrefl k)] at this
            simp [World.cell?, HB.out, this]
          have f0 : wo.frozen? ⟨b, k, none⟩ = false := by simp [World.frozen?, HB.out]
          have hset := hid (crcC_set k hlt)
          clear HR hR8 hs0 hn0 hRl
          rw [hv.out]
          go_wp2_with fail
          go_roundw
          case rel => exact ⟨k + 1, by omega, by go_num, hid (by
            show (wo.heap.modify b _)[b]? = _
            rw [Array.getElem?_modify, if_pos rfl, HB.out]
            rw [← hset.out]; rfl), hid (HK.out.setCell (p := ⟨b, k, none⟩) (fun h => by have h : b < w.heap.size := h; have := HBE.out; omega) _)⟩
          case measure => simp [intOf]; omega
    · obtain rfl : k = 256 := by omega
      go_wp2_with fail
      go_ret
      exact ⟨by rw [HBE.out]; rfl, by rw [HBE.out]; exact HB.out, HK.out⟩

/-- The table lies at a block. -/
def CrcAt (w : World) (b : Nat) : Prop := w.heap[b]? = some (.cells (crcC 256) 131 (0, 0))
theorem CrcAt.kept {w w1 : World} {b : Nat} (h : CrcAt w b) {S : Nat → Prop} (hk : Keeps S w w1) (hn : ¬ S b) : CrcAt w1 b := hk.heap h hn
theorem CrcAt.cell {w : World} {b : Nat} (h : CrcAt w b) {m : Nat} (hm : m < 256) : w.cell? ⟨b, m, none⟩ = some (.int .u32 (crcE m)) := by
  have := crcC_at 256 m hm
  rw [if_pos hm] at this
  unfold CrcAt at h
  simp [World.cell?, h, this]

set_option maxHeartbeats 2000000 in
set_option maxRecDepth 20000 in
theorem crcSum_calls (b : Nat) (ls : List (List UInt8)) (A : Option Addr) (c : Nat) (R : Nat → Prop) (w : World) (hT : CrcAt w b) (h : RowsIn R w A ls) :
    Calls Try.prog 74 #[.pointer (some ⟨b, 0, none⟩), .slice A ls.length c] w fun e w' => e = .returned (.int .u32 ((crcN ls.flatten).toNat : Int)) ∧ w' = w := by
  have HT := hid hT
  have HR := hid h
  have hlen := h.len
  obtain ⟨m, hm⟩ : ∃ m, ls.length = m := ⟨_, rfl⟩
  rw [hm] at hlen ⊢
  have HM := hid hm
  clear hT h hm
  go_enter Try.func74, Try.ntmps74
  go_wp2_with fail
  go_loop [5, 7, 9, 12] (fun v5 _ _ v12 => ∃ (k : Nat) (r : BitVec 32), k ≤ m ∧ v12 = .int .i64 (k : Int) ∧ v5 = .int .u32 (r.toNat : Int) ∧ Hid (r = crcR (ls.take k).flatten)) (fun _ _ _ v12 => m - (intOf v12).toNat)
  case atStart => exact ⟨0, BitVec.allOnes 32, Nat.zero_le _, rfl, rfl, hid rfl⟩
  case round =>
    obtain ⟨k, r, hk, rfl, rfl, Hr⟩ := hrel
    by_cases hlt : k < m
    · obtain ⟨b1, o1, rfl, _, hc⟩ := HR.out.2 (by rw [HM.out]; omega)
      obtain ⟨u1, h1, B1, d1, rfl, hd1, hz1, r1⟩ := hc k (by rw [HM.out]; exact hlt)
      have hfl := hid (show (ls.take (k + 1)).flatten = (ls.take k).flatten ++ gr ls k by
        rw [List.take_succ_eq_append_getElem (by rw [HM.out]; exact hlt), List.flatten_append, gr_eq ls k (by rw [HM.out]; exact hlt)]
        simp)
      have R1 := hid r1
      have hl1 := r1.len
      obtain ⟨l, hl⟩ : ∃ l, gr ls k = l := ⟨_, rfl⟩
      rw [hl] at h1 hd1 R1 hfl hl1
      obtain ⟨n, hn⟩ : ∃ n, l.length = n := ⟨_, rfl⟩
      rw [hn] at h1 hd1 hl1
      have HN := hid hn
      have q0 : (0 : Int) ≤ (k : Int) := by omega
      have q1 : (k : Int) < (m : Int) := by omega
      clear hc hl r1 hn hz1
      go_wp2_with fail
      go_loop [5, 9, 18] (fun v5 _ v18 => ∃ (j : Nat) (r2 : BitVec 32), j ≤ n ∧ v18 = .int .i64 (j : Int) ∧ v5 = .int .u32 (r2.toNat : Int) ∧ Hid (r2 = crcR ((ls.take k).flatten ++ l.take j))) (fun _ _ v18 => n - (intOf v18).toNat)
      case atStart => exact ⟨0, r, Nat.zero_le _, rfl, rfl, hid (by rw [Hr.out, List.take_zero, List.append_nil])⟩
      case round =>
        obtain ⟨j, r2, hj, rfl, rfl, Hr2⟩ := hrel
        by_cases hjl : j < n
        · obtain ⟨b2, o2, rfl, _, hc2⟩ := R1.out.get (by rw [HN.out]; omega)
          have x1 := hc2 j (by rw [HN.out]; exact hjl)
          obtain ⟨x, hx⟩ : ∃ x, gb l j = x := ⟨_, rfl⟩
          rw [hx] at x1
          have hr3 := hid (show cByte r2 x = crcR ((ls.take k).flatten ++ l.take (j + 1)) by
            rw [List.take_succ_eq_append_getElem (by rw [HN.out]; exact hjl), ← gb_eq l j (by rw [HN.out]; exact hjl), hx, ← List.append_assoc, Hr2.out]
            unfold crcR
            rw [List.foldl_append, List.foldl_append, List.foldl_append]; rfl)
          obtain ⟨i, hi, e1, e2⟩ := cByte_walk r2 x
          have t1 := HT.out.cell hi
          have p0 : (0 : Int) ≤ (r2.toNat : Int) := by omega
          have p1 : (r2.toNat : Int) ≤ 4294967295 := by have := r2.isLt; omega
          have y0 : (0 : Int) ≤ (x.toNat : Int) := by omega
          have y1 : (x.toNat : Int) ≤ 255 := by have := x.toNat_lt; omega
          have i0 : (0 : Int) ≤ (i : Int) := by omega
          have i1 : (i : Int) < 256 := by omega
          have j0 : (0 : Int) ≤ (j : Int) := by omega
          have j1 : (j : Int) < (n : Int) := by omega
          have E2 := hid e2
          generalize r2.toNat = rn at *
          generalize crcE i = ei at *
          clear hx hc2 Hr2 e2
          go_wp2_with fail
          go_round
          case rel => exact ⟨j + 1, cByte r2 x, by omega, by go_num, by rw [← E2.out], hr3⟩
          case measure => simp [intOf]; omega
        · obtain rfl : j = n := by omega
          have hr3 := hid (show r2 = crcR (ls.take (k + 1)).flatten by rw [Hr2.out, hfl.out, ← HN.out, List.take_length])
          clear Hr2
          go_wp2_with fail
          go_round
          case rel => exact ⟨k + 1, r2, by omega, by go_num, rfl, hr3⟩
          case measure => simp [intOf]; omega
    · obtain rfl : k = m := by omega
      have hres := hid (show bits BinOp.xor IntKind.u32 IntKind.u32.max (r.toNat : Int) = ((crcN ls.flatten).toNat : Int) by
        have h1 : r = crcR ls.flatten := by rw [Hr.out, ← HM.out, List.take_length]
        unfold crcN
        rw [← h1, show IntKind.u32.max = ((4294967295 : Nat) : Int) from rfl, u32_xor_nat _ _ (by omega) r.isLt]
        rw [← BitVec.allOnes_xor, BitVec.toNat_xor]; rfl)
      clear Hr
      have p0 : (0 : Int) ≤ (r.toNat : Int) := by omega
      have p1 : (r.toNat : Int) ≤ 4294967295 := by have := r.isLt; omega
      go_wp2_with fail
      go_ret
      exact ⟨congrArg (fun z => Ending.returned (.int .u32 z)) hres.out, rfl⟩

/-- Bytes, with their sum behind them. -/
def sumB4 (l : List UInt8) : List UInt8 := beN 4 (crcN l).toNat
def sealB (l : List UInt8) : List UInt8 := l ++ sumB4 l
theorem sumB4_length (l : List UInt8) : (sumB4 l).length = 4 := beN_length _ _
theorem sealB_length (l : List UInt8) : (sealB l).length = l.length + 4 := by unfold sealB; rw [List.length_append, sumB4_length]
theorem be4_cells (s : Nat) (h : s ≤ 4294967295) : ((enc8 (beN 4 s)).map (Value.int .u8)) = [.int .u8 ((s : Int) / 16777216), .int .u8 ((s : Int) / 65536 % 256), .int .u8 ((s : Int) / 256 % 256), .int .u8 ((s : Int) % 256)] := by
  have e : beN 4 s = [UInt8.ofNat (s / 256 ^ 3), UInt8.ofNat (s / 256 ^ 2), UInt8.ofNat (s / 256 ^ 1), UInt8.ofNat (s / 256 ^ 0)] := rfl
  rw [e]
  simp only [enc8, List.map_cons, List.map_nil, UInt8.toNat_ofNat']
  refine List.cons_eq_cons.2 ⟨?_, List.cons_eq_cons.2 ⟨?_, List.cons_eq_cons.2 ⟨?_, List.cons_eq_cons.2 ⟨?_, rfl⟩⟩⟩⟩ <;> congr 1 <;> omega
theorem RowsIn.one {R : Nat → Prop} {w : World} {b : Nat} {e : TypeId} {fr : Nat × Nat} {A : Option Addr} {n c : Nat} {l : List UInt8} (h : w.heap[b]? = some (.cells #[.slice A n c] e fr)) (hl : l.length = n) (hc : n ≤ c) (hA : A = none → c = 0) (hR : R b) (hb : BytesIn R w A l) : RowsIn R w (some ⟨b, 0, none⟩) [l] :=
  ⟨by simp, fun _ => ⟨b, 0, rfl, hR, fun j hj => by
    have hj : j = 0 := by simp at hj; omega
    subst hj
    exact ⟨.slice A n c, by simp [World.cell?, h], A, c, by rw [← hl]; rfl, by rw [← hl] at hc; exact hc, hA, hb⟩⟩⟩
set_option maxHeartbeats 2000000 in
set_option maxRecDepth 20000 in
theorem seal_calls (b : Nat) (l : List UInt8) (A : Option Addr) (n c : Nat) (R : Nat → Prop) (w : World) (hT : CrcAt w b) (hn : l.length = n) (hc : n ≤ c) (hA : A = none → c = 0) (h : BytesIn R w A l) (hm : n ≤ 1073741824) :
    Calls Try.prog 60 #[.pointer (some ⟨b, 0, none⟩), .slice A n c] w fun e w' => ∃ v, e = .returned v ∧ OwnB w' w.heap.size v (sealB l) ∧ Keeps NoB w w' := by
  have hui := Try.underlying25
  obtain ⟨i1, hi', hz0', hz1', hz2'⟩ := info_parts info_u8
  have HT := hid hT
  have H := hid h
  have HN := hid hn
  have HA := hid hA
  have hblt := hid (lt_of_heap hT)
  clear hT h hn hA
  go_enter Try.func60, Try.ntmps60
  go_wp2_with fail
  have HK1 := hid ((Keeps.refl NoB w).alloc (.cells #[.slice A n c] 25))
  have HS := hid (crcSum_calls b [l] (some ⟨w.heap.size, 0, none⟩) 1 (fun _ => True) (w.alloc (.cells #[.slice A n c] 25)) (HT.out.kept HK1.out (fun h => h)) (RowsIn.one (heap_alloc_new w _) HN.out hc HA.out trivial ((H.out.kept HK1.out).mono (fun _ _ _ => trivial))))
  rw [show [l].flatten = l by simp] at HS
  generalize w.alloc (.cells #[.slice A n c] 25) = w1 at *
  refine HS.out.mono ?_
  rintro e w2 ⟨rfl, rfl⟩
  have hs0 := (crcN l).isLt
  have HB4 := hid (be4_cells (crcN l).toNat (by omega))
  have HL4 := hid (beN_length 4 (crcN l).toNat)
  have hse := hid (show l ++ beN 4 (crcN l).toNat = sealB l from rfl)
  generalize (crcN l).toNat = s at *
  have s0 : (0 : Int) ≤ (s : Int) := by omega
  have s1 : (s : Int) ≤ 4294967295 := by omega
  have hz1 := HK1.out.size
  clear hs0 HS
  have tk1 : True := trivial
  go_wp2_with (first
    | (at_make; go_must (refine wpList_make_own _ rfl _ _ _ rfl w.heap.size 5 i1 (.int .u8 0) 1 hui hi' hz0' hz1' .i64 .i64 _ (n + 4) rfl rfl rfl (by rw [hz2']; omega) (by unfold maxLen; omega) hz1 ?_); intro w3 hown3 hgr3; have HO3 := hid (show OwnB w3 w.heap.size (.slice (some ⟨w2.heap.size, 0, none⟩) 0 (n + 4)) [] from hown3); have HK3 := hid ((Keeps.refl NoB w2).grown hgr3 (fun i e => by cases e)); have HK03 := hid (HK1.out.fresh HK3.out); have hz3 := HK03.out.size; clear hown3 hgr3)
    | (at_builtin; clear tk1; go_must (refine wpList_appB _ rfl _ _ 25 rfl w.heap.size hui _ [] rfl HO3.out A n c l rfl HN.out HA.out (H.out.kept HK03.out) 0 rfl (by omega) hz3 ?_); intro v4 w4 hown4 hgr4; have HK4 := hid (HK03.out.grown hgr4 (fun i e hlt => by have e : some i = some w2.heap.size := e; have e := Option.some.inj e; omega)); have HO4 := hid (show OwnB w4 w.heap.size v4 l from hown4); have hz4 := HK4.out.size; have hb4 := hid (fun i e => OwnInts.base_le HO4.out i e); clear hown4 hgr4)
    | (at_builtin; go_must (refine wpList_appB _ rfl _ _ 25 rfl w.heap.size hui _ l rfl (OwnInts.alloc HO4.out _) (some ⟨w4.heap.size, 0, none⟩) 4 4 (beN 4 s) rfl HL4.out (fun e => by cases e) (R := fun _ => True) ⟨IntsAt.ofBlock _ (by rw [HB4.out]; exact heap_alloc_new w4 _) (by rw [enc8_length, HL4.out]; omega), fun _ _ _ _ => trivial⟩ n HN.out (by omega) (by simp; omega) ?_); intro v5 w5 hown5 hgr5; have HK5 := hid ((HK4.out.alloc _).grown hgr5 (fun i e hlt => by have := hb4.out i e.symm; omega))))
  go_ret
  exact ⟨_, rfl, by rw [← hse.out]; exact hown5, HK5.out⟩
end Go.Proofs.Ytnnkfopopanfjaa
