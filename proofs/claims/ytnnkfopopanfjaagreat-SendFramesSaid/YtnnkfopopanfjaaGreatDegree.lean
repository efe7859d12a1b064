/- The degrees: how they are laid, and how one is found; the walks of package degree, and of the document's. Conditions: numbers are of their kinds; parameters that may be. -/
import Derived.Test.YtnnkfopopanfjaaGreatParams
import Derived.Test.YtnnkfopopanfjaaGreatBox5
import Derived.Test.YtnnkfopopanfjaaGreatDiv
import Derived.Deep.QuietTactic
import Derived.Deep.LoopGhost
set_option linter.unusedVariables false
namespace Go.Proofs.YtnnkfopopanfjaaGreat
open Go.RowKit

theorem wrap_prod {a b n : Nat} (h : a * b = n) (hn : n < 18446744073709551616) : IntKind.u64.wrap ((a : Int) * (b : Int)) = (n : Int) := by
  have e : (a : Int) * (b : Int) = ((a * b : Nat) : Int) := by simp
  rw [e, h]; exact wrap_nat n hn
/-- All products that a degree's share is reckoned of, as the walks have them. -/
theorem deg_steps (f e i : Nat) (he : 1000 < f * e) (hf : f ≤ 4096) (he2 : e ≤ 1000) (hi1 : 1 ≤ i) (hi : i < f) : ∃ FE A Ai B Bi C D L : Nat,
    IntKind.u64.wrap ((f : Int) * (e : Int)) = (FE : Int) ∧ 1001 ≤ FE ∧ FE ≤ 4096000 ∧ IntKind.u64.wrap (((FE : Int) - 1000) * ((f : Int) - 1)) = (A : Int) ∧ IntKind.u64.wrap ((A : Int) * (i : Int)) = (Ai : Int) ∧
    IntKind.u64.wrap (1000 * ((f : Int) + 1) * (f : Int)) = (B : Int) ∧ IntKind.u64.wrap ((B : Int) * ((i : Int) - 1)) = (Bi : Int) ∧ IntKind.u64.wrap ((f : Int) * (1000 + (e : Int))) = (C : Int) ∧ IntKind.u64.wrap ((C : Int) * ((f : Int) - 1)) = (D : Int) ∧
    IntKind.u64.wrap ((D : Int) * (i : Int)) = (L : Int) ∧ Ai + Bi = highN f e i ∧ L = lowN f e i ∧ 0 < highN f e i ∧ highN f e i < lowN f e i ∧ lowN f e i ≤ 137371852800000 := by
  have hb := deg_bounds f e i hf he2 hi
  have hl := high_lt f e i he hi1 hi
  have hd : highN f e i = (f * e - 1000) * (f - 1) * i + 1000 * (f + 1) * f * (i - 1) := rfl
  have hpos : 0 < (f * e - 1000) * (f - 1) * i := Nat.mul_pos (Nat.mul_pos (by omega) (by omega)) (by omega)
  have hFE : f * e ≤ 4096000 := Nat.mul_le_mul hf he2
  have hA : (f * e - 1000) * (f - 1) ≤ 4095000 * 4095 := Nat.mul_le_mul (by omega) (by omega)
  have hB : 1000 * (f + 1) * f ≤ 4097000 * 4096 := Nat.mul_le_mul (by omega) hf
  have hC : f * (1000 + e) ≤ 4096 * 2000 := Nat.mul_le_mul hf (by omega)
  have hD : f * (1000 + e) * (f - 1) ≤ 4096 * 2000 * 4095 := Nat.mul_le_mul hC (by omega)
  refine ⟨f * e, (f * e - 1000) * (f - 1), (f * e - 1000) * (f - 1) * i, 1000 * (f + 1) * f, 1000 * (f + 1) * f * (i - 1), f * (1000 + e), f * (1000 + e) * (f - 1), f * (1000 + e) * (f - 1) * i, ?_, by omega, hFE, ?_, ?_, ?_, ?_, ?_, ?_, ?_, rfl, rfl, by omega, hl, hb⟩
  · exact wrap_prod rfl (by omega)
  · have := wrap_prod (a := f * e - 1000) (b := f - 1) rfl (by omega)
    rw [show (((f * e - 1000 : Nat)) : Int) = ((f * e : Nat) : Int) - 1000 by omega, show ((f - 1 : Nat) : Int) = (f : Int) - 1 by omega] at this
    exact this
  · exact wrap_prod rfl (by omega)
  · have := wrap_prod (a := 1000 * (f + 1)) (b := f) rfl (by omega)
    rw [show ((1000 * (f + 1) : Nat) : Int) = 1000 * ((f : Int) + 1) by omega] at this
    exact this
  · have := wrap_prod (a := 1000 * (f + 1) * f) (b := i - 1) rfl (by omega)
    rw [show ((i - 1 : Nat) : Int) = (i : Int) - 1 by omega] at this
    exact this
  · have := wrap_prod (a := f) (b := 1000 + e) rfl (by omega)
    rw [show ((1000 + e : Nat) : Int) = 1000 + (e : Int) by omega] at this
    exact this
  · have := wrap_prod (a := f * (1000 + e)) (b := f - 1) rfl (by omega)
    rw [show ((f - 1 : Nat) : Int) = (f : Int) - 1 by omega] at this
    exact this
  · exact wrap_prod rfl (by have : f * (1000 + e) * (f - 1) * i = lowN f e i := rfl; omega)
set_option maxHeartbeats 400000 in
theorem share_calls (n d : Nat) (w : World) (h : n < d) (hd : d < 9223372036854775808) :
    Calls Tryz.prog 80 #[.int .u64 (n : Int), .int .u64 (d : Int)] w fun e w' => e = .returned (.int .u64 ((shareN n d : Nat) : Int)) ∧ w' = w := by
  have hsh := hid (bitsN_share n d h)
  have hinv := hid (fun k => (bitsN_inv n d h k).2)
  have hpow := hid (show ∀ k, k ≤ 63 → 2 ^ k ≤ 9223372036854775808 from fun k hk => Nat.pow_le_pow_right (n := 2) (by omega) hk)
  have hstep := hid (fun k => show bitsN n d (k + 1) = if d ≤ (bitsN n d k).2 * 2 then ((bitsN n d k).1 * 2 + 1, (bitsN n d k).2 * 2 - d) else ((bitsN n d k).1 * 2, (bitsN n d k).2 * 2) from rfl)
  have h0 := hid (show bitsN n d 0 = (0, n) from rfl)
  generalize bitsN n d = bits at *
  go_enter Tryz.func80, Tryz.ntmps80
  go_wp2_with fail
  go_loop [5, 6, 7] (fun vo vl vk => ∃ k o l : Nat, k ≤ 64 ∧ vk = .int .i64 (k : Int) ∧ vo = .int .u64 (o : Int) ∧ vl = .int .u64 (l : Int) ∧ Hid (bits k = (o, l))) (fun _ _ vk => 64 - (intOf vk).toNat)
  case atStart => exact ⟨0, 0, n, by omega, rfl, rfl, rfl, h0⟩
  case round =>
    obtain ⟨k, o, l, hk, rfl, rfl, rfl, HB⟩ := hrel
    by_cases hlt : k < 64
    · have hi := hinv.out k
      rw [HB.out] at hi
      obtain ⟨hl, ho⟩ := hi
      have hp := hpow.out k (by omega)
      have ho2 : o < 9223372036854775808 := Nat.lt_of_lt_of_le ho hp
      have hs := hstep.out k
      rw [HB.out] at hs
      have HS := hid hs
      clear hs ho hp
      simp only at hl
      by_cases hc : d ≤ l * 2
      · have dc : decide ((d : Int) ≤ (l : Int) * 2) = true := decide_eq_true (by omega)
        go_wp2_with fail
        go_round
        case rel => exact ⟨k + 1, o * 2 + 1, l * 2 - d, by omega, by go_num, by go_num, by go_num, hid (by rw [HS.out, if_pos hc])⟩
        case measure => simp [intOf]; omega
      · have dc : decide ((d : Int) ≤ (l : Int) * 2) = false := decide_eq_false (by omega)
        go_wp2_with fail
        go_round
        case rel => exact ⟨k + 1, o * 2, l * 2, by omega, by go_num, by go_num, by go_num, hid (by rw [HS.out, if_neg hc])⟩
        case measure => simp [intOf]; omega
    · obtain rfl : k = 64 := by omega
      go_wp2_with fail
      go_ret
      exact ⟨by rw [← hsh.out, HB.out]; rfl, rfl⟩
/-- The parameters' numbers that degrees hang on. -/
theorem par_nats {p : Par} (h : p.may) : ∃ f e : Nat, p.f = (f : Int) ∧ p.eps = (e : Int) ∧ p.f.toNat = f ∧ p.eps.toNat = e ∧ 2 ≤ f ∧ f ≤ 4096 ∧ e ≤ 1000 ∧ 1000 < f * e := by
  obtain ⟨_, _, _, _, _, _, h7, h8, h9, h10, h11⟩ := h
  refine ⟨p.f.toNat, p.eps.toNat, by omega, by omega, rfl, rfl, by omega, by omega, by omega, ?_⟩
  have e1 : p.f = (p.f.toNat : Int) := by omega
  have e2 : p.eps = (p.eps.toNat : Int) := by omega
  rw [e1, e2] at h11
  have : ((p.f.toNat * p.eps.toNat : Nat) : Int) = (p.f.toNat : Int) * (p.eps.toNat : Int) := by simp
  omega
set_option maxHeartbeats 1000000 in
set_option maxRecDepth 20000 in
theorem rbelow8_calls (n b q : Int) (f e i : Nat) (w : World) (he : 1000 < f * e) (hf : f ≤ 4096) (he2 : e ≤ 1000) (hi1 : 1 ≤ i) (hi : i < f) :
    Calls Tryz.prog 71 #[.agg #[.int .i64 n, .int .i64 b, .int .i64 q, .int .i64 (e : Int), .int .i64 (f : Int)], .int .i64 (i : Int)] w fun e' w' => e' = .returned (.int .u64 ((degN f e i : Nat) : Int)) ∧ Keeps NoB w w' := by
  obtain ⟨FE, A, Ai, B, Bi, C, D, L, s1, s1a, s1b, s2, s3, s4, s5, s6, s7, s8, s9, s10, s11, s12, s13⟩ := deg_steps f e i he hf he2 hi1 hi
  have hdeg := hid (show shareN (highN f e i) (lowN f e i) = degN f e i from rfl)
  rw [← s9, ← s10] at s12 hdeg
  rw [← s10] at s13
  have hdeg := hid hdeg.out
  have hu := Tryz.underlying23
  clear s9 s10 s11 he
  go_enter Tryz.func71, Tryz.ntmps71
  go_wp2_with fail
  rw [show (Ai : Int) + (Bi : Int) = ((Ai + Bi : Nat) : Int) by omega]
  refine (share_calls (Ai + Bi) L _ s12 (by omega)).mono ?_
  rintro e w1 ⟨rfl, rfl⟩
  go_wp2_with fail
  go_ret
  exact ⟨by rw [← hdeg.out]; rfl, (Keeps.refl NoB w).alloc _⟩
set_option maxHeartbeats 1000000 in
set_option maxRecDepth 20000 in
theorem rdegree_calls (p : Par) (u : Nat) (w : World) (hm : p.may) (hu64 : u < 18446744073709551616) :
    Calls Tryz.prog 53 #[p.val, .int .u64 (u : Int)] w fun e' w' => e' = .returned (.int .i64 ((degreeN p.f.toNat p.eps.toNat u : Nat) : Int)) ∧ Keeps NoB w w' := by
  obtain ⟨f, e, hpf, hpe, hpf2, hpe2, f2, f4, e3, hfe⟩ := par_nats hm
  rw [hpf2, hpe2]
  have HPF := hid hpf
  have HPE := hid hpe
  have HFE := hid hfe
  have hu := Tryz.underlying23
  clear hpf hpe hpf2 hpe2 hfe
  unfold Par.val
  rw [HPF.out, HPE.out]
  go_enter Tryz.func53, Tryz.ntmps53
  go_wp2_with fail
  have HB := hid (heap_alloc_new w (.cells #[.int .i64 p.n, .int .i64 p.b, .int .i64 p.q, .int .i64 (e : Int), .int .i64 (f : Int)] 23))
  have HK0 := hid ((Keeps.refl NoB w).alloc (.cells #[.int .i64 p.n, .int .i64 p.b, .int .i64 p.q, .int .i64 (e : Int), .int .i64 (f : Int)] 23))
  generalize w.alloc (.cells #[.int .i64 p.n, .int .i64 p.b, .int .i64 p.q, .int .i64 (e : Int), .int .i64 (f : Int)] 23) = w0 at *
  go_loopw [5] (fun v5 wr => ∃ i : Nat, 1 ≤ i ∧ i ≤ f ∧ v5 = .int .i64 (i : Int) ∧ Hid (∀ j, 1 ≤ j → j < i → ¬ u < degN f e j) ∧ Hid (Keeps NoB w0 wr)) (fun v5 _ => f - (intOf v5).toNat)
  case atStart => exact ⟨1, Nat.le_refl _, by omega, rfl, fun j h1 h2 => by omega, Keeps.refl _ _⟩
  case round =>
    obtain ⟨i, hi1, hi2, rfl, HJ, HK⟩ := hrel
    obtain ⟨b0, b1, b2, b3, b4⟩ := cells5 (HK.out.heap HB.out (fun h => h))
    by_cases hlt : i < f
    · go_wp2_with fail
      refine (rbelow8_calls p.n p.b p.q f e i _ HFE.out f4 e3 hi1 hlt).mono ?_
      rintro e' w2 ⟨rfl, HK2⟩
      have HK3 := hid (HK.out.fresh HK2)
      obtain ⟨D, hD⟩ : ∃ D, degN f e i = D := ⟨_, rfl⟩
      rw [hD]
      by_cases hc : u < D
      · have dc : decide (u < D) = true := decide_eq_true hc
        have HDD := hid (show degreeN f e u = i from degreeN_first f e u i HFE.out hi1 hlt (by rw [hD]; exact hc) HJ.out)
        clear hD
        go_wp2_with fail
        go_ret
        exact ⟨by rw [HDD.out]; rfl, HK0.out.fresh HK3.out⟩
      · have dc : decide (u < D) = false := decide_eq_false hc
        have HJ2 := hid (show ∀ j, 1 ≤ j → j < i + 1 → ¬ u < degN f e j from fun j h1 h2 => by
          by_cases hj : j = i
          · rw [hj, hD]; exact hc
          · exact HJ.out j h1 (by omega))
        clear hD hc b0 b1 b2 b3 b4
        go_wp2_with fail
        go_roundw
        case rel => exact ⟨i + 1, by omega, by omega, by go_num, HJ2, HK3⟩
        case measure => simp [intOf]; omega
    · obtain rfl : i = f := by omega
      go_wp2_with fail
      go_ret
      exact ⟨by rw [degreeN_last _ _ _ f2 HJ.out]; rfl, HK0.out.fresh HK.out⟩
end Go.Proofs.YtnnkfopopanfjaaGreat
