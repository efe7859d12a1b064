/- The reference's sum, bit by bit, and its numbers as bytes: the walks of almonryref01, almonryref02. Conditions: lengths that memory bears. -/
import Derived.Test.YtnnkfopopanfjaaGreatWireRead
set_option linter.unusedVariables false
set_option linter.unusedSimpArgs false
namespace Go.Proofs.YtnnkfopopanfjaaGreat
open Go.RowKit

theorem bitsL_at (l : List UInt8) : ∀ (q r : Nat) (hq : q < l.length) (hr : r < 8), (bitsL l)[8 * q + r]? = some ((gb l q).toNat.testBit (7 - r)) := by
  induction l with
  | nil => intro q r hq; simp at hq
  | cons x l ih =>
    intro q r hq hr
    have e : bitsL (x :: l) = bitsB x ++ bitsL l := rfl
    have hb : (bitsB x).length = 8 := by simp [bitsB]
    rw [e]
    cases q with
    | zero =>
      rw [List.getElem?_append_left (by omega)]
      simp [bitsB, hr, gb]
    | succ q =>
      rw [List.getElem?_append_right (by omega), hb, show 8 * (q + 1) + r - 8 = 8 * q + r by omega, ih q r (by simpa using hq) hr]
      simp [gb]
def bitI (l : List UInt8) (k : Nat) : Bool := (bitsL l).getD k false
set_option maxHeartbeats 1000000 in
theorem rbit_calls (l : List UInt8) (A : Option Addr) (n c : Nat) (k : Nat) (R : Nat → Prop) (w : World) (hn : l.length = n) (h : BytesIn R w A l) (hk : k < 8 * n) (hm : n ≤ 1073741824) :
    Calls Tryz.prog 65 #[.slice A n c, .int .i64 (k : Int)] w fun e w' => e = .returned (.int .u64 ((bitI l k).toNat : Int)) ∧ w' = w := by
  obtain ⟨b, o, rfl, _, hc⟩ := h.get (by omega)
  obtain ⟨q, r, hq, hr⟩ : ∃ q r, k = 8 * q + r ∧ r < 8 := ⟨k / 8, k % 8, by omega, by omega⟩
  have c1 := hc q (by omega)
  have hb := bitsL_at l q r (by omega) hr
  obtain ⟨x, hx⟩ : ∃ x, gb l q = x := ⟨_, rfl⟩
  rw [hx] at c1 hb
  have hres := hid (show ((x.toNat : Int) / 2 ^ (7 - r)).tmod 2 = ((bitI l k).toNat : Int) by
    rw [Int.tmod_eq_emod_of_nonneg (Int.ediv_nonneg (by omega) (Int.pow_nonneg (by decide)))]
    have e2 : bitI l k = x.toNat.testBit (7 - r) := by unfold bitI; rw [List.getD_eq_getElem?_getD, hq, hb]; rfl
    rw [e2, Nat.testBit_eq_decide_div_mod_eq]
    have e3 : (x.toNat : Int) / 2 ^ (7 - r) % 2 = ((x.toNat / 2 ^ (7 - r) % 2 : Nat) : Int) := by simp
    rw [e3]
    have : x.toNat / 2 ^ (7 - r) % 2 < 2 := Nat.mod_lt _ (by decide)
    rcases Nat.lt_or_ge (x.toNat / 2 ^ (7 - r) % 2) 1 with h | h
    · rw [decide_eq_false (by omega)]; simp; omega
    · rw [decide_eq_true (by omega)]; simp; omega)
  have e1 : (k : Int) / 8 = (q : Int) := by omega
  have e2 : (k : Int) % 8 = (r : Int) := by omega
  have q0 : (0 : Int) ≤ (q : Int) := by omega
  have q1 : (q : Int) < (n : Int) := by omega
  have r0 : (0 : Int) ≤ (r : Int) := by omega
  have r1 : (r : Int) < 8 := by omega
  have k0 : (0 : Int) ≤ (k : Int) := by omega
  have x0 : (0 : Int) ≤ (x.toNat : Int) := by omega
  have x1 : (x.toNat : Int) ≤ 255 := by have := x.toNat_lt; omega
  clear hq hn h hc hx hb hk
  go_enter Tryz.func65, Tryz.ntmps65
  go_wp2_with fail
  go_ret
  exact ⟨congrArg (fun z => Ending.returned (.int .u64 z)) hres.out, rfl⟩
/-- The stream's bits. -/
theorem stream_length (l : List UInt8) : (cStream (bitsL l)).length = 8 * l.length + 32 := by
  unfold cStream; rw [List.length_zipWith]; simp [bitsL_length]
theorem stream_at (l : List UInt8) (k : Nat) (hk : k < 8 * l.length + 32) : (cStream (bitsL l))[k]? = some ((if k < 8 * l.length then bitI l k else false) ^^ decide (k < 32)) := by
  have hl := bitsL_length l
  have h1 : (bitsL l ++ List.replicate 32 false)[k]? = some (if k < 8 * l.length then bitI l k else false) := by
    by_cases h : k < 8 * l.length
    · rw [List.getElem?_append_left (by omega), if_pos h, List.getElem?_eq_getElem (by omega)]
      unfold bitI
      rw [List.getD_eq_getElem?_getD, List.getElem?_eq_getElem (by omega)]; rfl
    · rw [List.getElem?_append_right (by omega), if_neg h, List.getElem?_replicate, if_pos (by omega)]
  have h2 : (List.replicate 32 true ++ List.replicate (bitsL l).length false)[k]? = some (decide (k < 32)) := by
    by_cases h : k < 32
    · rw [List.getElem?_append_left (by simpa using h), List.getElem?_replicate, if_pos h, decide_eq_true h]
    · rw [List.getElem?_append_right (by simpa using h), List.getElem?_replicate, if_pos (by simp; omega), decide_eq_false h]
  unfold cStream
  rw [List.getElem?_zipWith, h1, h2]
def regN (l : List UInt8) (k : Nat) : BitVec 32 := ((cStream (bitsL l)).take k).foldl cG 0#32
theorem regN_succ (l : List UInt8) (k : Nat) (hk : k < 8 * l.length + 32) : regN l (k + 1) = cG (regN l k) ((if k < 8 * l.length then bitI l k else false) ^^ decide (k < 32)) := by
  have h := stream_at l k hk
  have hlt : k < (cStream (bitsL l)).length := by rw [stream_length]; exact hk
  unfold regN
  rw [List.take_succ_eq_append_getElem hlt, List.foldl_append]
  rw [List.getElem?_eq_getElem hlt] at h
  rw [Option.some.inj h]; rfl
theorem regN_full (l : List UInt8) : regN l (8 * l.length + 32) = crcR l := by
  unfold regN
  rw [List.take_of_length_le (by rw [stream_length]; exact Nat.le_refl _)]
  exact crc_one l
/-- A step of the division, as the walk has it: x is the bit. -/
theorem regN_lo (r : BitVec 32) (b : Bool) (h : r.toNat * 2 + b.toNat < 4294967296) : (r.toNat : Int) * 2 + (b.toNat : Int) = ((cG r b).toNat : Int) := by
  rw [cG_nat, if_neg (by omega)]; omega
theorem regN_hi (r : BitVec 32) (b : Bool) (h : 4294967296 ≤ r.toNat * 2 + b.toNat) : bits BinOp.xor IntKind.u64 ((r.toNat : Int) * 2 + (b.toNat : Int)) 4374732215 = ((cG r b).toNat : Int) := by
  have hr := r.isLt
  have hb : b.toNat < 2 := by cases b <;> decide
  have e : (r.toNat : Int) * 2 + (b.toNat : Int) = ((r.toNat * 2 + b.toNat : Nat) : Int) := by omega
  have hx := u64_xor_nat (r.toNat * 2 + b.toNat) 4374732215 (by omega) (by omega)
  have e2 : ((4374732215 : Nat) : Int) = 4374732215 := rfl
  rw [e2] at hx
  rw [cG_nat, if_pos h, e, hx]
set_option maxHeartbeats 4000000 in
set_option maxRecDepth 20000 in
theorem rsum32_calls (l : List UInt8) (A : Option Addr) (n c : Nat) (R : Nat → Prop) (w : World) (hn : l.length = n) (h : BytesIn R w A l) (hm : n ≤ 1073741824) :
    Calls Tryz.prog 46 #[.slice A n c] w fun e w' => e = .returned (.int .u32 ((crcN l).toNat : Int)) ∧ w' = w := by
  have HBT := hid (fun (k : Nat) (hk : k < 8 * n) => rbit_calls l A n c k R w hn h hk hm)
  have HS := hid (fun (k : Nat) (hk : k < 8 * n + 32) => regN_succ l k (by rw [hn]; exact hk))
  rw [hn] at HS
  have HF := hid (show regN l (8 * n + 32) = crcR l by rw [← hn]; exact regN_full l)
  have H0 := hid (show regN l 0 = 0#32 from rfl)
  clear hn h
  go_enter Tryz.func46, Tryz.ntmps46
  go_wp2_with fail
  go_loop [3, 4, 5] (fun v3 v4 _ => ∃ (k : Nat) (r : BitVec 32), k ≤ 8 * n + 32 ∧ v4 = .int .i64 (k : Int) ∧ v3 = .int .u64 (r.toNat : Int) ∧ Hid (r = regN l k)) (fun _ v4 _ => 8 * n + 32 - (intOf v4).toNat)
  case atStart => exact ⟨0, 0#32, Nat.zero_le _, rfl, rfl, hid rfl⟩
  case round =>
    obtain ⟨k, r, hk, rfl, rfl, HR⟩ := hrel
    have r0 : (0 : Int) ≤ (r.toNat : Int) := by omega
    have r1 : (r.toNat : Int) ≤ 4294967295 := by have := r.isLt; omega
    by_cases hlt : k < 8 * n + 32
    · have hs := HS.out k hlt
      rw [← HR.out] at hs
      have dl : decide ((k : Int) < 8 * (n : Int) + 32) = true := decide_eq_true (by omega)
      by_cases h8 : k < 8 * n
      · have d8 : decide ((k : Int) < 8 * (n : Int)) = true := decide_eq_true (by omega)
        rw [if_pos h8] at hs
        have HB := hid (HBT.out k h8)
        generalize bitI l k = bt at *
        have b0 : (0 : Int) ≤ (bt.toNat : Int) := by omega
        have b1 : (bt.toNat : Int) ≤ 1 := by cases bt <;> decide
        by_cases h32 : k < 32
        · have d32 : decide ((k : Int) < 32) = true := decide_eq_true (by omega)
          rw [decide_eq_true h32] at hs
          have hx : (1 : Int) - (bt.toNat : Int) = ((bt ^^ true).toNat : Int) := by cases bt <;> rfl
          obtain ⟨y, hy⟩ : ∃ y, (bt ^^ true) = y := ⟨_, rfl⟩
          rw [hy] at hs hx
          have x0 : (0 : Int) ≤ (y.toNat : Int) := by omega
          have x1 : (y.toNat : Int) ≤ 1 := by cases y <;> decide
          have HX := hid hs
          clear hs h8 h32 hy
          by_cases hhi : 4294967296 ≤ r.toNat * 2 + y.toNat
          · have dh : decide ((4294967296 : Int) ≤ (r.toNat : Int) * 2 + (y.toNat : Int)) = true := decide_eq_true (by omega)
            have hv := hid (show bits BinOp.xor IntKind.u64 ((r.toNat : Int) * 2 + (y.toNat : Int)) 4374732215 = _ from regN_hi r y hhi)
            clear hhi
            go_wp2_with fail
            refine HB.out.mono ?_
            rintro e w' ⟨rfl, rfl⟩
            go_wp2_with fail
            go_round
            case rel => exact ⟨k + 1, cG r y, by omega, by go_num, by rw [hv.out], hid HX.out.symm⟩
            case measure => simp [intOf]; omega
          · have dh : decide ((4294967296 : Int) ≤ (r.toNat : Int) * 2 + (y.toNat : Int)) = false := decide_eq_false (by omega)
            have hv := hid (show (r.toNat : Int) * 2 + (y.toNat : Int) = _ from regN_lo r y (by omega))
            clear hhi
            go_wp2_with fail
            refine HB.out.mono ?_
            rintro e w' ⟨rfl, rfl⟩
            go_wp2_with fail
            go_round
            case rel => exact ⟨k + 1, cG r y, by omega, by go_num, by rw [← hv.out], hid HX.out.symm⟩
            case measure => simp [intOf]; omega
        · have d32 : decide ((k : Int) < 32) = false := decide_eq_false (by omega)
          rw [decide_eq_false h32, Bool.xor_false] at hs
          have HX := hid hs
          clear hs h8 h32
          by_cases hhi : 4294967296 ≤ r.toNat * 2 + bt.toNat
          · have dh : decide ((4294967296 : Int) ≤ (r.toNat : Int) * 2 + (bt.toNat : Int)) = true := decide_eq_true (by omega)
            have hv := hid (show bits BinOp.xor IntKind.u64 ((r.toNat : Int) * 2 + (bt.toNat : Int)) 4374732215 = _ from regN_hi r bt hhi)
            clear hhi
            go_wp2_with fail
            refine HB.out.mono ?_
            rintro e w' ⟨rfl, rfl⟩
            go_wp2_with fail
            go_round
            case rel => exact ⟨k + 1, cG r bt, by omega, by go_num, by rw [hv.out], hid HX.out.symm⟩
            case measure => simp [intOf]; omega
          · have dh : decide ((4294967296 : Int) ≤ (r.toNat : Int) * 2 + (bt.toNat : Int)) = false := decide_eq_false (by omega)
            have hv := hid (show (r.toNat : Int) * 2 + (bt.toNat : Int) = _ from regN_lo r bt (by omega))
            clear hhi
            go_wp2_with fail
            refine HB.out.mono ?_
            rintro e w' ⟨rfl, rfl⟩
            go_wp2_with fail
            go_round
            case rel => exact ⟨k + 1, cG r bt, by omega, by go_num, by rw [← hv.out], hid HX.out.symm⟩
            case measure => simp [intOf]; omega
      · have d8 : decide ((k : Int) < 8 * (n : Int)) = false := decide_eq_false (by omega)
        rw [if_neg h8] at hs
        by_cases h32 : k < 32
        · have d32 : decide ((k : Int) < 32) = true := decide_eq_true (by omega)
          rw [decide_eq_true h32, Bool.false_xor] at hs
          have HX := hid hs
          clear hs h8 h32
          by_cases hhi : 4294967296 ≤ r.toNat * 2 + 1
          · have dh : decide ((4294967296 : Int) ≤ (r.toNat : Int) * 2 + 1) = true := decide_eq_true (by omega)
            have hv := hid (show bits BinOp.xor IntKind.u64 ((r.toNat : Int) * 2 + 1) 4374732215 = _ from by simpa using regN_hi r true (by simpa using hhi))
            clear hhi
            go_wp2_with fail
            go_round
            case rel => exact ⟨k + 1, cG r true, by omega, by go_num, by rw [hv.out], hid HX.out.symm⟩
            case measure => simp [intOf]; omega
          · have dh : decide ((4294967296 : Int) ≤ (r.toNat : Int) * 2 + 1) = false := decide_eq_false (by omega)
            have hv := hid (show (r.toNat : Int) * 2 + 1 = _ from by simpa using regN_lo r true (by simp; omega))
            clear hhi
            go_wp2_with fail
            go_round
            case rel => exact ⟨k + 1, cG r true, by omega, by go_num, by rw [← hv.out], hid HX.out.symm⟩
            case measure => simp [intOf]; omega
        · have d32 : decide ((k : Int) < 32) = false := decide_eq_false (by omega)
          rw [decide_eq_false h32, Bool.false_xor] at hs
          have HX := hid hs
          clear hs h8 h32
          by_cases hhi : 4294967296 ≤ r.toNat * 2 + 0
          · have dh : decide ((4294967296 : Int) ≤ (r.toNat : Int) * 2) = true := decide_eq_true (by omega)
            have hv := hid (show bits BinOp.xor IntKind.u64 ((r.toNat : Int) * 2) 4374732215 = _ from by simpa using regN_hi r false (by simpa using hhi))
            clear hhi
            go_wp2_with fail
            go_round
            case rel => exact ⟨k + 1, cG r false, by omega, by go_num, by rw [hv.out], hid HX.out.symm⟩
            case measure => simp [intOf]; omega
          · have dh : decide ((4294967296 : Int) ≤ (r.toNat : Int) * 2) = false := decide_eq_false (by omega)
            have hv := hid (show (r.toNat : Int) * 2 = _ from by simpa using regN_lo r false (by simp; omega))
            clear hhi
            go_wp2_with fail
            go_round
            case rel => exact ⟨k + 1, cG r false, by omega, by go_num, by rw [← hv.out], hid HX.out.symm⟩
            case measure => simp [intOf]; omega
    · obtain rfl : k = 8 * n + 32 := by omega
      have dl : decide (((8 * n + 32 : Nat) : Int) < 8 * (n : Int) + 32) = false := decide_eq_false (by omega)
      have hres := hid (show (4294967295 : Int) - (r.toNat : Int) = ((crcN l).toNat : Int) by
        rw [HR.out, HF.out]
        unfold crcN
        rw [BitVec.toNat_not]
        have := (crcR l).isLt
        omega)
      clear hlt hk HS HBT
      go_wp2_with fail
      go_ret
      exact ⟨congrArg (fun z => Ending.returned (.int .u32 z)) hres.out, rfl⟩
end Go.Proofs.YtnnkfopopanfjaaGreat
