/- The draws: the walks of package rng and of its reference. No condition but that numbers are of their kinds. -/
import Derived.Test.YtpkkaicpbihjfaaLib
import Derived.Test.YtpkkaicpbihjfaaMath
set_option linter.unusedVariables false
namespace Go.Proofs.Ytpkkaicpbihjfaa
open Go.RowKit

set_option maxHeartbeats 400000 in
theorem mix_calls (z : Nat) (h : z < 18446744073709551616) (w : World) :
    Calls Try.prog 101 #[.int .u64 (z : Int)] w fun e w' => e = .returned (.int .u64 (mixN z : Nat)) ∧ w' = w := by
  have h0 : (0 : Int) ≤ z := by omega
  have h1 : (z : Int) ≤ 18446744073709551615 := by omega
  have HM := hid (mix_eq z h)
  clear h
  go_enter Try.func101, Try.ntmps101
  go_wp2
  go_ret
  exact ⟨congrArg (fun x => Ending.returned (.int .u64 x)) HM.out, rfl⟩
set_option maxHeartbeats 400000 in
theorem rmix_calls (z : Nat) (h : z < 18446744073709551616) (w : World) :
    Calls Try.prog 90 #[.int .u64 (z : Int)] w fun e w' => e = .returned (.int .u64 (mixN z : Nat)) ∧ w' = w := by
  have h0 : (0 : Int) ≤ z := by omega
  have h1 : (z : Int) ≤ 18446744073709551615 := by omega
  have HM := hid (mix_eq' z h)
  clear h
  go_enter Try.func90, Try.ntmps90
  go_wp2
  go_ret
  exact ⟨congrArg (fun x => Ending.returned (.int .u64 x)) HM.out, rfl⟩

/-- A Rand of a state. -/
def RandAt (w : World) (g : Nat) (s : Nat) : Prop := w.heap[g]? = some (.cells #[.int .u64 (s : Int)] 177 (0, 0)) ∧ s < 18446744073709551616
theorem RandAt.cell {w : World} {g s : Nat} (h : RandAt w g s) : w.cell? ⟨g, 0, none⟩ = some (.int .u64 (s : Int)) := by simp [World.cell?, h.1]
theorem RandAt.free {w : World} {g s : Nat} (h : RandAt w g s) : w.frozen? ⟨g, 0, none⟩ = false := by simp [World.frozen?, h.1]
theorem RandAt.lt {w : World} {g s : Nat} (h : RandAt w g s) : g < w.heap.size := lt_of_heap h.1
theorem RandAt.keeps {w w1 : World} {g s : Nat} (h : RandAt w g s) {S : Nat → Prop} (hk : Keeps S w w1) (hn : ¬ S g) : RandAt w1 g s := ⟨hk.heap h.1 hn, h.2⟩
theorem RandAt.set {w : World} {g s : Nat} (h : RandAt w g s) {x : Nat} (hx : x < 18446744073709551616) : RandAt (w.setCell ⟨g, 0, none⟩ (.int .u64 (x : Int))) g x := by
  refine ⟨?_, hx⟩
  show (w.heap.modify g _)[g]? = _
  rw [Array.getElem?_modify, if_pos rfl, h.1]
  rfl

set_option maxHeartbeats 400000 in
theorem next_calls (g s : Nat) (w : World) (h : RandAt w g s) :
    Calls Try.prog 89 #[.pointer (some ⟨g, 0, none⟩)] w fun e w' => e = .returned (.int .u64 (nxV s : Nat)) ∧ RandAt w' g (nxS s) ∧ Keeps (· = g) w w' := by
  have hc := h.cell
  have hf := h.free
  have H := hid h
  have HN := hid (nxS_eq s)
  clear h
  go_enter Try.func89, Try.ntmps89
  go_wp2_with fail
  rw [HN.out]
  refine (mix_calls (nxS s) (nxS_lt s) _).mono ?_
  rintro e w' ⟨rfl, rfl⟩
  go_wp2
  go_ret
  exact ⟨rfl, H.out.set (nxS_lt s), Keeps.one w g 0 _⟩
set_option maxHeartbeats 400000 in
theorem below_calls (g s n : Nat) (w : World) (h : RandAt w g s) (hn : n ≤ 9223372036854775807) :
    Calls Try.prog 100 #[.pointer (some ⟨g, 0, none⟩), .int .i64 (n : Int)] w fun e w' => e = .returned (.int .i64 ((belowN s n).2 : Nat)) ∧ RandAt w' g (belowN s n).1 ∧ Keeps (· = g) w w' := by
  by_cases h0 : n = 0
  · subst h0
    rw [belowN_zero]
    go_enter Try.func100, Try.ntmps100
    go_wp2_with fail
    go_ret
    exact ⟨rfl, h, Keeps.refl _ _⟩
  · have hp : 1 ≤ n := by omega
    clear h0
    have hlt : decide ((n : Int) < 1) = false := by simp; omega
    have hne : ((n : Int) == 0) = false := by simp; omega
    go_enter Try.func100, Try.ntmps100
    go_wp2_with fail
    refine (next_calls g s _ h).mono ?_
    rintro e w1 ⟨rfl, hr1, hk1⟩
    go_wp2_with fail
    rw [few_eq n hp hn]
    have HB := hid (belowN_pos s n hp)
    go_loopw [6, 7] (fun v6 v7 wr => ∃ i p : Nat, 1 ≤ i ∧ i ≤ 16 ∧ v7 = .int .i64 i ∧ v6 = .int .u64 (nxV p : Nat) ∧ Hid (tries (fewN n) 15 s = tries (fewN n) (16 - i) p) ∧ Hid (RandAt wr g (nxS p)) ∧ Hid (Keeps (· = g) w wr)) (fun _ v7 _ => 16 - (intOf v7).toNat)
    case atStart => exact ⟨1, s, by omega, by omega, rfl, rfl, rfl, hr1, hk1⟩
    case round =>
      obtain ⟨i, p, hi1, hi2, rfl, rfl, HT, HR, HK⟩ := hrel
      by_cases hlt : i < 16
      · by_cases hfew : nxV p < fewN n
        · have hd : decide (nxV p < fewN n) = true := decide_eq_true hfew
          go_wp2_with fail
          refine (next_calls g (nxS p) _ HR.out).mono ?_
          rintro e w2 ⟨rfl, hr2, hk2⟩
          go_wp2_with fail
          go_roundw
          case rel => exact ⟨i + 1, nxS p, by omega, by omega, by go_num, rfl, hid (by rw [HT.out, show 16 - i = (16 - (i + 1)) + 1 by omega, tries_succ, if_pos hfew]), hr2, HK.out.then hk2 (fun _ h _ => h)⟩
          case measure => simp [intOf]; omega
        · have hd : decide (nxV p < fewN n) = false := decide_eq_false hfew
          go_wp2_with fail
          go_ret
          have ht : belowN s n = (nxS p, nxV p % n) := by rw [HB.out, HT.out, show 16 - i = (15 - i) + 1 by omega, tries_succ, if_neg hfew]
          rw [ht]
          refine ⟨congrArg (fun x => Ending.returned (.int .i64 x)) ?_, HR.out, HK.out⟩
          exact rem_eq _ n hp hn
      · obtain rfl : i = 16 := by omega
        go_wp2_with fail
        go_ret
        have ht : belowN s n = (nxS p, nxV p % n) := by rw [HB.out, HT.out]; rfl
        rw [ht]
        refine ⟨congrArg (fun x => Ending.returned (.int .i64 x)) ?_, HR.out, HK.out⟩
        exact rem_eq _ n hp hn
/-- Numbers of 64 bits that are read. -/
def NatsAt (w : World) (A : Option Addr) (xs : List Nat) : Prop := IntsAt w .u64 A (xs.map (fun n : Nat => (n : Int))) ∧ ∀ x ∈ xs, x < 18446744073709551616
theorem gi_map (xs : List Nat) (j : Nat) (h : j < xs.length) : gi (xs.map (fun n : Nat => (n : Int))) j = ((xs.getD j 0 : Nat) : Int) := by
  simp [gi, h]
theorem seed_take (xs : List Nat) (k : Nat) (h : k < xs.length) : seedN (xs.take (k + 1)) = seedStep (seedN (xs.take k)) (xs.getD k 0) := by
  unfold seedN
  rw [List.take_succ_eq_append_getElem h, List.foldl_append]
  simp [h]
theorem seedN_lt (xs : List Nat) : seedN xs < 18446744073709551616 := by
  rcases Nat.eq_zero_or_pos xs.length with h | h
  · rw [List.length_eq_zero_iff.1 h]; exact Nat.lt_of_lt_of_le (show seedN [] < 1 from Nat.zero_lt_one) (by omega)
  · have := seed_take xs (xs.length - 1) (by omega)
    rw [show xs.length - 1 + 1 = xs.length by omega, List.take_length] at this
    rw [this]; exact seedStep_lt _ _
theorem xorsum_eq (s x : Nat) (hx : x < 18446744073709551616) : bits BinOp.xor IntKind.u64 (IntKind.u64.wrap ((s : Int) + 11400714819323198485)) (x : Int) = ((nxS s ^^^ x : Nat) : Int) := by
  rw [nxS_eq]; exact u64_xor_nat _ _ (nxS_lt s) hx
set_option maxHeartbeats 400000 in
theorem new_calls (xs : List Nat) (A : Option Addr) (c : Nat) (w : World) (h : NatsAt w A xs) :
    Calls Try.prog 71 #[.slice A xs.length c] w fun e w' => ∃ g, e = .returned (.pointer (some ⟨g, 0, none⟩)) ∧ w.heap.size ≤ g ∧ RandAt w' g (seedN xs) ∧ Keeps NoB w w' := by
  obtain ⟨⟨hlen, hat⟩, hx⟩ := h
  simp only [List.length_map] at hlen hat
  have HA := hid hat
  clear hat
  go_enter Try.func71, Try.ntmps71
  go_wp2_with fail
  go_loopw [10] (fun v10 wr => ∃ k : Nat, k ≤ xs.length ∧ v10 = .int .i64 k ∧ Hid (RandAt wr w.heap.size (seedN (xs.take k))) ∧ Hid (Keeps NoB w wr)) (fun v10 _ => xs.length - (intOf v10).toNat)
  case atStart => exact ⟨0, Nat.zero_le _, rfl, ⟨heap_alloc_new w _, by simp [seedN]⟩, (Keeps.refl _ w).alloc _⟩
  case round =>
    obtain ⟨k, hk, rfl, HR, HK⟩ := hrel
    by_cases hlt : k < xs.length
    · obtain ⟨b, off, rfl, h1⟩ := HA.out (by omega)
      have c1 : wr.cell? ⟨b, off + k, none⟩ = some (.int .u64 (xs.getD k 0 : Nat)) := by rw [← gi_map xs k hlt]; exact HK.out.cell (h1 k hlt) (fun h => h)
      have hxk := hid (hx (xs.getD k 0) (getD_mem xs 0 hlt))
      have ht := hid (seed_take xs k hlt)
      clear h1
      generalize hX : xs.getD k 0 = X at c1 hxk ht
      clear hX
      have c2 := HR.out.cell
      have f2 := HR.out.free
      go_wp2_with fail
      rw [xorsum_eq _ _ hxk.out]
      refine (mix_calls _ (xor_lt64 (nxS_lt _) hxk.out) _).mono ?_
      rintro e w1 ⟨rfl, rfl⟩
      go_wp2_with fail
      go_roundw
      case rel => exact ⟨k + 1, by omega, by go_num, by rw [ht.out]; exact HR.out.set (seedStep_lt _ _), HK.out.setCell (p := ⟨w.heap.size, 0, none⟩) (fun h => absurd h (Nat.lt_irrefl _)) _⟩
      case measure => simp [intOf]; omega
    · obtain rfl : k = xs.length := by omega
      go_wp2_with fail
      go_ret
      refine ⟨w.heap.size, rfl, Nat.le_refl _, ?_, HK.out⟩
      have := HR.out
      rwa [List.take_length] at this
set_option maxHeartbeats 400000 in
theorem rseed_calls (xs : List Nat) (A : Option Addr) (c : Nat) (w : World) (h : NatsAt w A xs) :
    Calls Try.prog 55 #[.slice A xs.length c] w fun e w' => e = .returned (.int .u64 (seedN xs : Nat)) ∧ Keeps NoB w w' := by
  obtain ⟨⟨hlen, hat⟩, hx⟩ := h
  simp only [List.length_map] at hlen hat
  have HA := hid hat
  clear hat
  go_enter Try.func55, Try.ntmps55
  go_wp2_with fail
  go_loopw [3, 4] (fun v3 v4 wr => ∃ k : Nat, k ≤ xs.length ∧ v4 = .int .i64 k ∧ v3 = .int .u64 (seedN (xs.take k) : Nat) ∧ Hid (Keeps NoB w wr)) (fun _ v4 _ => xs.length - (intOf v4).toNat)
  case atStart => exact ⟨0, Nat.zero_le _, rfl, rfl, Keeps.refl _ w⟩
  case round =>
    obtain ⟨k, hk, rfl, rfl, HK⟩ := hrel
    by_cases hlt : k < xs.length
    · obtain ⟨b, off, rfl, h1⟩ := HA.out (by omega)
      have c1 : wr.cell? ⟨b, off + k, none⟩ = some (.int .u64 (xs.getD k 0 : Nat)) := by rw [← gi_map xs k hlt]; exact HK.out.cell (h1 k hlt) (fun h => h)
      have hxk := hid (hx (xs.getD k 0) (getD_mem xs 0 hlt))
      have ht := hid (seed_take xs k hlt)
      clear h1
      generalize hX : xs.getD k 0 = X at c1 hxk ht
      clear hX
      go_wp2_with fail
      rw [xorsum_eq _ _ hxk.out]
      refine (rmix_calls _ (xor_lt64 (nxS_lt _) hxk.out) _).mono ?_
      rintro e w1 ⟨rfl, rfl⟩
      go_wp2_with fail
      go_roundw
      case rel => exact ⟨k + 1, by omega, by go_num, by rw [ht.out]; rfl, HK⟩
      case measure => simp [intOf]; omega
    · obtain rfl : k = xs.length := by omega
      go_wp2_with fail
      go_ret
      exact ⟨congrArg (fun x : List Nat => Ending.returned (.int .u64 (seedN x : Nat))) (List.take_length ..), HK.out⟩
end Go.Proofs.Ytpkkaicpbihjfaa
