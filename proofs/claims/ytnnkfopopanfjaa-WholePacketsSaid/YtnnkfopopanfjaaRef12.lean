/- The document's blocks of an object: the walk of almonryref12.Split. Conditions: numbers are of their kinds; parameters that may be. -/
import Derived.Test.YtnnkfopopanfjaaSegment
set_option linter.unusedVariables false
namespace Go.Proofs.Ytnnkfopopanfjaa
open Go.RowKit

def partN (a : Nat) (obj : List UInt8) (k : Nat) : List UInt8 := (List.range k).map fun j => gb obj (a + j)
theorem partN_length (a : Nat) (obj : List UInt8) (k : Nat) : (partN a obj k).length = k := by simp [partN]
theorem partN_succ (a : Nat) (obj : List UInt8) (k : Nat) : partN a obj (k + 1) = partN a obj k ++ [gb obj (a + k)] := by unfold partN; rw [List.range_succ, List.map_append]; rfl
def rowsN (B : Nat) (obj : List UInt8) (k : Nat) : List (List UInt8) := (List.range k).map (chunkN B obj)
theorem rowsN_length (B : Nat) (obj : List UInt8) (k : Nat) : (rowsN B obj k).length = k := by simp [rowsN]
theorem rowsN_succ (B : Nat) (obj : List UInt8) (k : Nat) : rowsN B obj (k + 1) = rowsN B obj k ++ [chunkN B obj k] := by unfold rowsN; rw [List.range_succ, List.map_append]; rfl
set_option maxHeartbeats 2000000 in
set_option maxRecDepth 20000 in
theorem rsplit_calls (p : Par) (obj : List UInt8) (A : Option Addr) (c : Nat) (R : Nat → Prop) (w : World) (hm : p.may) (ho : BytesIn R w A obj) :
    Calls Try.prog 30 #[p.val, .slice A obj.length c] w fun e w' => ∃ v, e = .returned v ∧ OwnRows (fun b => w.heap.size ≤ b) w' w.heap.size v (splitN p obj) ∧ Keeps NoB w w' := by
  have hu := Try.underlying23
  have hus := Try.underlying32
  have hui := Try.underlying25
  have HO := hid ho
  have hlen := ho.len
  obtain ⟨N, B, hpn, hpb, hpn2, hpb2, hN1, hN2, hB1, hB2, hNB, hNB2⟩ := par_sizes hm
  have hsp := hid (show rowsN B obj N = splitN p obj by unfold splitN rowsN; rw [hpn2, hpb2])
  have hmul := hid (show ∀ i, i < N → i * B ≤ 68718428160 from fun i hi => Nat.le_trans (Nat.mul_le_mul_right B (Nat.le_of_lt hi)) hNB2)
  have HPN := hid hpn
  have HPB := hid hpb
  have hz := hid (show rowsN B obj 0 = [] from rfl)
  have hrl := hid (rowsN_length B obj)
  have hrs := hid (rowsN_succ B obj)
  clear hm hNB hNB2 ho hpn hpb hpn2 hpb2
  unfold Par.val
  rw [HPN.out, HPB.out]
  go_enter Try.func30, Try.ntmps30
  go_wp2_with fail
  have HBX := hid (heap_alloc_new w (.cells #[.int .i64 (N : Int), .int .i64 (B : Int), .int .i64 p.q, .int .i64 p.eps, .int .i64 p.f] 23))
  have HKa := hid ((Keeps.refl NoB w).alloc (.cells #[.int .i64 (N : Int), .int .i64 (B : Int), .int .i64 p.q, .int .i64 p.eps, .int .i64 p.f] 23))
  generalize hwa : w.alloc (.cells #[.int .i64 (N : Int), .int .i64 (B : Int), .int .i64 p.q, .int .i64 p.eps, .int .i64 p.f] 23) = wa at *
  have hsa : wa.heap.size = w.heap.size + 1 := by rw [← hwa]; simp
  have HR0 := hid (OwnRows.lower (base' := w.heap.size) (OwnRows.empty (fun b => w.heap.size ≤ b) wa wa.heap.size (Nat.le_refl _) 0 #[] rfl) (by omega))
  rw [hsa] at HR0
  have HBX := hid (((Keeps.refl NoB wa).alloc (.cells #[] 25)).heap HBX.out (fun h => h))
  have HKa := hid (HKa.out.alloc (.cells #[] 25))
  clear hwa hsa
  go_loopw [5, 6] (fun v5 v6 wr => ∃ k : Nat, k ≤ N ∧ v6 = .int .i64 (k : Int) ∧ Hid (OwnRows (fun b => w.heap.size ≤ b) wr w.heap.size v5 (rowsN B obj k)) ∧ Hid (wr.heap[w.heap.size]? = some (.cells #[.int .i64 (N : Int), .int .i64 (B : Int), .int .i64 p.q, .int .i64 p.eps, .int .i64 p.f] 23 (0, 0))) ∧ Hid (Keeps NoB w wr)) (fun _ v6 _ => N - (intOf v6).toNat)
  case atStart => exact ⟨0, Nat.zero_le _, rfl, by rw [hz.out]; exact HR0, HBX, HKa⟩
  case round =>
    obtain ⟨k, hk, rfl, HR, HBX, HK⟩ := hrel
    obtain ⟨b0, b1, b2, b3, b4⟩ := cells5 HBX.out
    by_cases hlt : k < N
    · have hat' := hmul.out k hlt
      have hprod : (k : Int) * (B : Int) = ((k * B : Nat) : Int) := by simp
      have hch := hid (show partN (k * B) obj B = chunkN B obj k from rfl)
      obtain ⟨a, ha⟩ : ∃ a, k * B = a := ⟨_, rfl⟩
      rw [ha] at hprod hat' hch
      have hch := hid hch.out
      have hpz := hid (show partN a obj 0 = [] from rfl)
      have hps := hid (partN_succ a obj)
      have hpl := hid (partN_length a obj)
      clear ha
      obtain ⟨wi, rfl⟩ : ∃ wi : World, wi = wr := ⟨_, rfl⟩
      have HE := hid (OwnInts.empty wi wi.heap.size .u8 5 (Nat.le_refl _))
      have HKe := hid ((Keeps.refl NoB wi).alloc (.cells #[] 5))
      clear b0 b1 b2 b3 b4
      obtain ⟨b0, b1, b2, b3, b4⟩ := cells5 HBX.out
      go_wp2_with fail
      go_loopw [7, 8] (fun v7 v8 wr => ∃ j : Nat, j ≤ B ∧ v8 = .int .i64 (j : Int) ∧ Hid (OwnB wr wi.heap.size v7 (partN a obj j)) ∧ Hid (Keeps NoB wi wr)) (fun _ v8 _ => B - (intOf v8).toNat)
      case atStart => exact ⟨0, Nat.zero_le _, rfl, by rw [hpz.out]; exact HE, HKe⟩
      case round =>
        obtain ⟨j, hj, rfl, HOj, HKj⟩ := hrel
        clear b0 b1 b2 b3 b4
        obtain ⟨b0, b1, b2, b3, b4⟩ := cells5 (HKj.out.heap HBX.out (fun h => h))
        by_cases hlt2 : j < B
        · have hps1 := hid (hps.out j)
          have hpj := hpl.out j
          obtain ⟨Av, cv, hv, hvc, _, _⟩ := HOj.out.reads
          rw [hpj] at hv hvc
          subst hv
          have hoi := hid (show OwnInts wr wi.heap.size .u8 5 (.slice Av j cv) (enc8 (partN a obj j)) from HOj.out)
          have hel := hid (show (enc8 (partN a obj j)).length = j by rw [enc8_length, hpj])
          have hszj := HKj.out.size
          clear hpj
          by_cases hin : a + j < obj.length
          · obtain ⟨bo, oo, rfl, _, hco⟩ := (HO.out.kept (HK.out.fresh HKj.out)).get (by omega)
            have ck := hco (a + j) hin
            have d0 : decide ((a : Int) + (j : Int) < (obj.length : Int)) = true := decide_eq_true (by omega)
            have d0' : decide (a + j < obj.length) = true := decide_eq_true hin
            have e0 : (0 : Int) ≤ (a : Int) + (j : Int) := by omega
            have e1 : (a : Int) + (j : Int) < (obj.length : Int) := by omega
            have hgb := hid (show enc8 (partN a obj (j + 1)) = enc8 (partN a obj j) ++ [((gb obj (a + j)).toNat : Int)] by rw [hps1.out, enc8_append]; rfl)
            generalize ((gb obj (a + j)).toNat : Int) = z at *
            clear hco
            go_wp2_with (at_builtin; go_must (refine wpList_app1 _ rfl _ _ 25 rfl wi.heap.size 5 .u8 1 hui info_u8 (.slice Av j cv) (enc8 (partN a obj j)) rfl (OwnInts.alloc hoi.out _) _ _ _ rfl (cell_one _ _ _) (by rw [hel.out]; omega) (by rw [hel.out]; omega) (by simp; omega) ?_); intro v4 w4 hown4 hgr4 _)
            go_roundw
            case rel => exact ⟨j + 1, by omega, by go_num, hid (by unfold OwnB; rw [hgb.out]; exact hown4), hid ((HKj.out.alloc _).own (OwnInts.alloc hoi.out _) hgr4 (Nat.le_refl _))⟩
            case measure => simp [intOf]; omega
          · have d0 : decide ((a : Int) + (j : Int) < (obj.length : Int)) = false := decide_eq_false (by omega)
            have d0' : decide (a + j < obj.length) = false := decide_eq_false hin
            have hgb := hid (show enc8 (partN a obj (j + 1)) = enc8 (partN a obj j) ++ [0] by rw [hps1.out, enc8_append, gb_none obj (a + j) (by omega)]; rfl)
            go_wp2_with (at_builtin; go_must (refine wpList_app1 _ rfl _ _ 25 rfl wi.heap.size 5 .u8 1 hui info_u8 (.slice Av j cv) (enc8 (partN a obj j)) rfl (OwnInts.alloc hoi.out _) _ _ _ rfl (cell_one _ _ _) (by rw [hel.out]; omega) (by rw [hel.out]; omega) (by simp; omega) ?_); intro v4 w4 hown4 hgr4 _)
            go_roundw
            case rel => exact ⟨j + 1, by omega, by go_num, hid (by unfold OwnB; rw [hgb.out]; exact hown4), hid ((HKj.out.alloc _).own (OwnInts.alloc hoi.out _) hgr4 (Nat.le_refl _))⟩
            case measure => simp [intOf]; omega
        · obtain rfl : j = B := by omega
          have HRj := hid (HR.out.kept HKj.out)
          obtain ⟨us, Av, cv, hv, hus1, hus2, hus3⟩ := HRj.out.parts (hrl.out k)
          subst hv
          have HUS1 := hid hus1
          have HUS2 := hid hus2
          have HUS3 := hid hus3
          have hbv := hid (fun b hb => HR.out.base_le b hb)
          have hb7 := hid (fun b hb => OwnInts.base_le HOj.out b hb)
          have hrow := HOj.out.row
          rw [hch.out] at hrow
          obtain ⟨A3, c3, hv3, h31, h32, h33⟩ := hrow
          rw [chunkN_length] at hv3
          subst hv3
          have hs1 := hid (hrs.out k)
          have hsz := HK.out.size
          have hszj := HKj.out.size
          have hrow2 := hid (show RowIn (fun b => w.heap.size ≤ b ∧ (Value.slice Av k cv).ownBlock ≠ some b) wr (.slice A3 j c3) (chunkN j obj k) from RowIn.mono ⟨A3, c3, by rw [chunkN_length], h31, h32, h33⟩ (fun b _ hb => by
            have h1 := (hb7.out b hb).1
            exact ⟨by omega, fun e => by have := (hbv.out b e).2; omega⟩))
          clear hus1 hus2 hus3 h31 h32 h33
          go_wp2_with (at_builtin; go_must (refine wpList_app1V _ rfl _ _ 32 rfl w.heap.size 25 (.slice none 0 0) 24 hus info_bytes rfl (.slice Av k cv) k us rfl (World.ownsRow.alloc HUS2.out _) _ _ (.slice A3 j c3) rfl rfl (cell_one _ _ _) (by omega) (by omega) (by simp; omega) ?_); intro g cap w4 hown4 hgr4 hat4)
          go_roundw
          case rel => exact ⟨k + 1, by omega, by go_num, hid (by rw [hs1.out]; exact HRj.out.snocN (hrl.out k) hrow2.out HUS1.out HUS2.out HUS3.out hown4 hgr4 hat4), hid ((Keeps.ofGrown hgr4).heap (((Keeps.refl NoB _).alloc _).heap (HKj.out.heap HBX.out (fun h => h)) (fun h => h)) (fun e => own_ne HUS2.out (HKj.out.heap HBX.out (fun h => h)) (by decide) e.symm)), hid (((HK.out.fresh HKj.out).alloc _).grown hgr4 (fun i e hlt => by have := (HRj.out.base_le i e.symm).1; omega))⟩
          case measure => simp [intOf]; omega
    · obtain rfl : k = N := by omega
      go_wp2_with fail
      go_ret
      exact ⟨_, rfl, by rw [← hsp.out]; exact HR.out, HK.out⟩
end Go.Proofs.Ytnnkfopopanfjaa
