/- A division of 128 bits by 64, as the library does it: its walk, where the lower half is 0. Conditions: the upper half is not 0, and below the divisor. -/
import Derived.Test.YtnnkfopopanfjaaShelf
import Derived.Test.YtnnkfopopanfjaaG1
import Derived.Test.YtnnkfopopanfjaaG3
import Derived.Lib.ItoaNum
import Derived.Laws.BitsAllLaws
set_option linter.unusedVariables false
namespace Go.Proofs.Ytnnkfopopanfjaa
open Go.RowKit

theorem norm_bounds (y : Nat) (h0 : 0 < y) (h : y < 18446744073709551616) : ∃ s : Nat, s ≤ 63 ∧ (64 - (Lib.bitLen y : Int)) = (s : Int) ∧ 9223372036854775808 ≤ y * 2 ^ s ∧ y * 2 ^ s < 18446744073709551616 := by
  obtain ⟨h1, h2, h3⟩ := Lib.bitLenAux_bounds 64 y h (by omega)
  have h4 : Lib.bitLen y ≤ 64 := by
    unfold Lib.bitLen
    refine Nat.le_of_not_lt (fun hc => ?_)
    have : 2 ^ 64 ≤ 2 ^ (Lib.bitLenAux 64 y - 1) := Nat.pow_le_pow_right (by omega) (by omega)
    omega
  have e : Lib.bitLen y = Lib.bitLenAux 64 y := rfl
  rw [← e] at h1 h2 h3
  refine ⟨64 - Lib.bitLen y, by omega, by omega, ?_, ?_⟩
  · have := Nat.mul_le_mul_right (2 ^ (64 - Lib.bitLen y)) h2
    rw [← Nat.pow_add, show Lib.bitLen y - 1 + (64 - Lib.bitLen y) = 63 by omega] at this
    exact this
  · have := Nat.mul_lt_mul_of_pos_right h3 (Nat.pow_pos (a := 2) (n := 64 - Lib.bitLen y) (by omega))
    rw [← Nat.pow_add, show Lib.bitLen y + (64 - Lib.bitLen y) = 64 by omega] at this
    exact this
theorem wrap_nat (n : Nat) (h : n < 18446744073709551616) : IntKind.u64.wrap (n : Int) = (n : Int) := by
  show (n : Int) % 18446744073709551616 = n
  omega
theorem wrap_mod (x : Int) : IntKind.u64.wrap x = x % 18446744073709551616 := rfl
theorem and_low (V : Nat) (h : V < 18446744073709551616) : bits BinOp.and IntKind.u64 (V : Int) 4294967295 = ((V % 4294967296 : Nat) : Int) := by
  have e := u64_and_nat V 4294967295 h (by omega)
  rw [show (4294967295 : Nat) = 2 ^ 32 - 1 by rfl, Nat.and_two_pow_sub_one_eq_mod] at e
  exact e
theorem or_zero (U : Nat) (h : U < 18446744073709551616) : bits BinOp.or IntKind.u64 (U : Int) 0 = (U : Int) := by
  have e := u64_or_nat U 0 h (by omega)
  rw [Nat.or_zero] at e
  exact e
theorem two_shares {h y s U V yn1 yn0 q q2 W : Nat} (hV : y * 2 ^ s = V) (hU : h * 2 ^ s = U) (hVs : V = yn1 * 4294967296 + yn0) (hUV : U < V) (hq : q = U * 4294967296 / (yn1 * 4294967296 + yn0)) (hW : W = U * 4294967296 % V) (hq2 : q2 = W * 4294967296 / (yn1 * 4294967296 + yn0)) :
    q * 4294967296 + q2 = shareN h y := by
  rw [← hVs] at hq hq2
  have e := two_steps U V (by omega)
  rw [← hq, ← hW, ← hq2] at e
  rw [← e, ← hU, ← hV, scaled]
  exact (shareN_def _ _).symm
theorem ret_share {h y s U V yn1 yn0 q q2 W : Nat} {r : Value} (hV : y * 2 ^ s = V) (hU : h * 2 ^ s = U) (hVs : V = yn1 * 4294967296 + yn0) (hUV : U < V) (hq : q = U * 4294967296 / (yn1 * 4294967296 + yn0)) (hW : W = U * 4294967296 % V) (hq2 : q2 = W * 4294967296 / (yn1 * 4294967296 + yn0)) :
    Ending.returned (.tuple #[.int .u64 (IntKind.u64.wrap ((q : Int) * 4294967296 + (q2 : Int))), r]) = .returned (.tuple #[.int .u64 ((shareN h y : Nat) : Int), r]) := by
  have e := two_shares hV hU hVs hUV hq hW hq2
  rw [← hVs] at hq hq2
  have h1 : q < 4294967296 := by rw [hq, Nat.div_lt_iff_lt_mul (by omega)]; omega
  have hWV : W < V := by rw [hW]; exact Nat.mod_lt _ (by omega)
  have h2 : q2 < 4294967296 := by rw [hq2, Nat.div_lt_iff_lt_mul (by omega)]; omega
  have e2 : (q : Int) * 4294967296 + (q2 : Int) = ((q * 4294967296 + q2 : Nat) : Int) := by omega
  rw [e2, wrap_nat _ (by omega), e]
theorem ret_share' {h y s U V yn1 yn0 q q2 W : Nat} {r : Value} (hV : y * 2 ^ s = V) (hU : h * 2 ^ s = U) (hVs : V = yn1 * 4294967296 + yn0) (hUV : U < V) (hq : q = U * 4294967296 / (yn1 * 4294967296 + yn0)) (hW : W = U * 4294967296 % V) (hq2 : q2 = W * 4294967296 / (yn1 * 4294967296 + yn0)) :
    Ending.returned (.tuple #[.int .u64 ((q : Int) * 4294967296 + (q2 : Int)), r]) = .returned (.tuple #[.int .u64 ((shareN h y : Nat) : Int), r]) := by
  have e := two_shares hV hU hVs hUV hq hW hq2
  rw [← hVs] at hq hq2
  have h1 : q < 4294967296 := by rw [hq, Nat.div_lt_iff_lt_mul (by omega)]; omega
  have hWV : W < V := by rw [hW]; exact Nat.mod_lt _ (by omega)
  have h2 : q2 < 4294967296 := by rw [hq2, Nat.div_lt_iff_lt_mul (by omega)]; omega
  have e2 : (q : Int) * 4294967296 + (q2 : Int) = ((q * 4294967296 + q2 : Nat) : Int) := by omega
  rw [e2, e]
/-- Between both steps. -/
theorem rest_one {U V yn1 yn0 q : Nat} (hV : V = yn1 * 4294967296 + yn0) (hUV : U < V) (b1 : 2147483648 ≤ yn1) (b1' : yn1 < 4294967296) (b0 : yn0 < 4294967296) (hq : q = U * 4294967296 / (yn1 * 4294967296 + yn0)) :
    ∃ W q2 r2 : Nat, IntKind.u64.wrap (IntKind.u64.wrap (IntKind.u64.wrap ((U : Int) * 4294967296)) - IntKind.u64.wrap ((q : Int) * (V : Int))) = (W : Int) ∧ IntKind.u64.wrap ((W : Int).tdiv (yn1 : Int)) = (q2 : Int) ∧
      IntKind.u64.wrap ((W : Int) - IntKind.u64.wrap ((q2 : Int) * (yn1 : Int))) = (r2 : Int) ∧ Guess yn1 yn0 W q2 r2 ∧ r2 < yn1 ∧ W < V ∧ q < 4294967296 ∧ W = U * 4294967296 % V := by
  rw [← hV] at hq
  have hW : U * 4294967296 % V < V := Nat.mod_lt _ (by omega)
  have hdm := Nat.div_add_mod (U * 4294967296) V
  rw [← hq] at hdm
  have hql : q < 4294967296 := by rw [hq, Nat.div_lt_iff_lt_mul (by omega)]; omega
  generalize hWe : U * 4294967296 % V = W at *
  have G := Guess.first (yn1 := yn1) (yn0 := yn0) (U := W) b1 b0 (by omega)
  have Gr : W % yn1 < yn1 := Nat.mod_lt _ (by omega)
  refine ⟨W, W / yn1, W % yn1, ?_, ?_, ?_, G, Gr, hW, hql, rfl⟩
  · rw [wrap_mod, wrap_mod, wrap_mod, wrap_mod]
    have e : (q : Int) * (V : Int) = ((V * q : Nat) : Int) := by rw [Int.natCast_mul, Int.mul_comm]
    rw [e]
    have hdm2 : (U : Int) * 4294967296 = ((V * q : Nat) : Int) + (W : Int) := by omega
    omega
  · have e : (W : Int).tdiv (yn1 : Int) = ((W / yn1 : Nat) : Int) := rfl
    rw [e]; exact wrap_nat _ (by have := G.small; omega)
  · have e := G.sum
    have e2 : ((W / yn1 : Nat) : Int) * (yn1 : Int) = ((W / yn1 * yn1 : Nat) : Int) := by simp
    rw [e2, wrap_nat _ (by omega)]
    have e3 : (W : Int) - ((W / yn1 * yn1 : Nat) : Int) = ((W % yn1 : Nat) : Int) := by omega
    rw [e3]; exact wrap_nat _ (by omega)
set_option maxHeartbeats 1000000 in
set_option maxRecDepth 20000 in
theorem div64_calls (h y : Nat) (w : World) (h0 : 0 < h) (hy : h < y) (hy64 : y < 18446744073709551616) :
    Calls Try.prog 73 #[.int .u64 (h : Int), .int .u64 0, .int .u64 (y : Int)] w fun e w' => ∃ r, e = .returned (.tuple #[.int .u64 ((shareN h y : Nat) : Int), r]) ∧ w' = w := by
  obtain ⟨s, hs, hse, hn1, hn2⟩ := norm_bounds y (by omega) hy64
  have HSE := hid hse
  have HY64 := hid hy64
  have d0 : ((y : Int) == 0) = false := by simp; omega
  have d1 : decide ((y : Int) ≤ (h : Int)) = false := decide_eq_false (by omega)
  have d1' : decide (y ≤ h) = false := decide_eq_false (by omega)
  have d2 : ((h : Int) == 0) = false := by simp; omega
  have s0 : (0 : Int) ≤ (s : Int) := by omega
  have s1 : (s : Int) ≤ 63 := by omega
  have hUV : h * 2 ^ s < y * 2 ^ s := Nat.mul_lt_mul_of_pos_right hy (Nat.pow_pos (by omega))
  have hsc := hid (scaled h y s)
  have hVe : (y : Int) * 2 ^ s = ((y * 2 ^ s : Nat) : Int) := by simp
  have hUe : (h : Int) * 2 ^ s = ((h * 2 ^ s : Nat) : Int) := by simp
  generalize hVd : y * 2 ^ s = V at *
  generalize hUd : h * 2 ^ s = U at *
  have hV : IntKind.u64.wrap ((y : Int) * 2 ^ s) = (V : Int) := by rw [hVe]; exact wrap_nat V hn2
  have hU : bits BinOp.or IntKind.u64 (IntKind.u64.wrap ((h : Int) * 2 ^ s)) 0 = (U : Int) := by rw [hUe, wrap_nat U (by omega)]; exact or_zero U (by omega)
  obtain ⟨yn1, hy1⟩ : ∃ n, V / 4294967296 = n := ⟨_, rfl⟩
  obtain ⟨yn0, hy0⟩ : ∃ n, V % 4294967296 = n := ⟨_, rfl⟩
  have hVs : V = yn1 * 4294967296 + yn0 := by omega
  have b1 : 2147483648 ≤ yn1 := by omega
  have b1' : yn1 < 4294967296 := by omega
  have b0 : yn0 < 4294967296 := by omega
  have hY1 : (V : Int) / 4294967296 = (yn1 : Int) := by omega
  have hY0 : bits BinOp.and IntKind.u64 (V : Int) 4294967295 = (yn0 : Int) := by rw [and_low V hn2, hy0]
  have hZ : bits BinOp.and IntKind.u64 0 4294967295 = 0 := by decide
  have G := Guess.first (yn1 := yn1) (yn0 := yn0) (U := U) b1 b0 (by omega)
  have Gr : U % yn1 < yn1 := Nat.mod_lt _ (by omega)
  have hQ : IntKind.u64.wrap ((U : Int) / (yn1 : Int)) = ((U / yn1 : Nat) : Int) := by
    have : (U : Int) / (yn1 : Int) = ((U / yn1 : Nat) : Int) := rfl
    rw [this]; exact wrap_nat _ (by have := G.small; omega)
  have hR : IntKind.u64.wrap ((U : Int) - IntKind.u64.wrap (((U / yn1 : Nat) : Int) * (yn1 : Int))) = ((U % yn1 : Nat) : Int) := by
    have e := G.sum
    have e2 : ((U / yn1 : Nat) : Int) * (yn1 : Int) = ((U / yn1 * yn1 : Nat) : Int) := by simp
    rw [e2, wrap_nat _ (by omega)]
    have e3 : (U : Int) - ((U / yn1 * yn1 : Nat) : Int) = ((U % yn1 : Nat) : Int) := by omega
    rw [e3]; exact wrap_nat _ (by omega)
  generalize U / yn1 = q0 at *
  generalize U % yn1 = r0 at *
  have hz1 : ((yn1 : Int) == 0) = false := by simp; omega
  have hz2 : ¬ (yn1 : Int) = 0 := by omega
  have HG := hid G
  have HVs := hid hVs
  have HVd := hid hVd
  have HUd := hid hUd
  have HUV := hid hUV
  clear G hVs hVd hUd hn1 hn2 hse hy1 hy0 hVe hUe hUV hy hy64 h0
  go_enter Try.func73, Try.ntmps73
  go_wp2_with fail
  refine (Try.bits_LeadingZeros64 (y : Int) _ (by omega) (by have := HY64.out; omega)).mono ?_
  rintro e w1 ⟨rfl, rfl⟩
  rw [show ((y : Int)).toNat = y by omega, HSE.out]
  go_wp2_with fail
  have HUU : U < yn1 * 4294967296 + yn0 := by have := HVs.out; have := HUV.out; omega
  have HG := HG
  go_loop [15, 16] (fun vA vB => ∃ q r : Nat, vA = .int .u64 (q : Int) ∧ vB = .int .u64 (r : Int) ∧ r < 4294967296 ∧ q ≤ 4294967297 ∧ Hid (Guess yn1 yn0 U q r)) (fun vA vB => (4294967296 - intOf vB).toNat)
  case atStart => exact ⟨q0, r0, rfl, rfl, by omega, by have := HG.out.small; omega, HG⟩
  case round =>
    obtain ⟨q, r, rfl, rfl, hr, hq, HGr⟩ := hrel
    obtain ⟨P, hP⟩ : ∃ P, q * yn0 = P := ⟨_, rfl⟩
    have hm : IntKind.u64.wrap ((q : Int) * (yn0 : Int)) = (P : Int) := by
      have e : (q : Int) * (yn0 : Int) = ((q * yn0 : Nat) : Int) := by simp
      rw [e, hP]; exact wrap_nat P (by rw [← hP]; exact HGr.out.prod b0)
    have HP := hid hP
    clear hP
    by_cases hA : 4294967296 ≤ q
    · obtain ⟨hq0, hnx⟩ := HGr.out.next (by omega) HUU (.inl hA)
      have HN := hid hnx
      have dA : decide ((4294967296 : Int) ≤ (q : Int)) = true := decide_eq_true (by omega)
      clear hnx
      by_cases hB : 4294967296 ≤ r + yn1
      · have dB : decide ((4294967296 : Int) ≤ (r : Int) + (yn1 : Int)) = true := decide_eq_true (by omega)
        obtain ⟨q', hqe⟩ : ∃ q', q - 1 = q' := ⟨_, rfl⟩
        have HQ := hid (HN.out.over (by omega) b0 (by omega) hB)
        rw [hqe] at HQ
        have hmin : (q : Int) - 1 = (q' : Int) := by omega
        clear hqe
        clear HN HGr hm
        go_wp2_with fail
        have HQ1 := hid HQ.out
        obtain ⟨W, q2, r2, hun, hq2, hr2, hG2, hr2l, hWV, hqlt, hWm⟩ := rest_one HVs.out HUV.out b1 b1' b0 HQ1.out
        have HG2 := hid hG2
        have HWm := hid hWm
        have HWV := hid (show W < yn1 * 4294967296 + yn0 by have := HVs.out; omega)
        clear hG2 hWm hWV
        go_wp2_with fail
        simp only [hun, hq2, hr2]
        clear hun hq2 hr2
        go_loop [16, 18] (fun vA vB => ∃ q r : Nat, vB = .int .u64 (q : Int) ∧ vA = .int .u64 (r : Int) ∧ r < 4294967296 ∧ q ≤ 4294967297 ∧ Hid (Guess yn1 yn0 W q r)) (fun vA vB => (4294967296 - intOf vA).toNat)
        case atStart => exact ⟨q2, r2, rfl, rfl, by omega, by have := HG2.out.small; omega, HG2⟩
        case round =>
          obtain ⟨q, r, rfl, rfl, hr, hq, HGr⟩ := hrel
          obtain ⟨P, hP⟩ : ∃ P, q * yn0 = P := ⟨_, rfl⟩
          have hm : IntKind.u64.wrap ((q : Int) * (yn0 : Int)) = (P : Int) := by
            have e : (q : Int) * (yn0 : Int) = ((q * yn0 : Nat) : Int) := by simp
            rw [e, hP]; exact wrap_nat P (by rw [← hP]; exact HGr.out.prod b0)
          have HP := hid hP
          clear hP
          by_cases hA : 4294967296 ≤ q
          · obtain ⟨hq0, hnx⟩ := HGr.out.next (by omega) HWV.out (.inl hA)
            have HN := hid hnx
            have dA : decide ((4294967296 : Int) ≤ (q : Int)) = true := decide_eq_true (by omega)
            clear hnx
            by_cases hB : 4294967296 ≤ r + yn1
            · have dB : decide ((4294967296 : Int) ≤ (r : Int) + (yn1 : Int)) = true := decide_eq_true (by omega)
              obtain ⟨p', hqe⟩ : ∃ p', q - 1 = p' := ⟨_, rfl⟩
              have HQ := hid (HN.out.over (by omega) b0 (by omega) hB)
              rw [hqe] at HQ
              have hmin : (q : Int) - 1 = (p' : Int) := by omega
              clear hqe
              clear HN HGr hm
              go_wp2_with fail
              go_ret2
              first | exact ⟨⟨_, ret_share HVd.out HUd.out HVs.out HUV.out HQ1.out HWm.out HQ.out⟩, rfl⟩ | exact ⟨⟨_, ret_share' HVd.out HUd.out HVs.out HUV.out HQ1.out HWm.out HQ.out⟩, rfl⟩
            · have dB : decide ((4294967296 : Int) ≤ (r : Int) + (yn1 : Int)) = false := decide_eq_false (by omega)
              go_wp2_with fail
              go_round
              case rel => exact ⟨q - 1, r + yn1, by go_num, by go_num, by omega, by omega, HN⟩
              case measure => simp [intOf]; omega
          · have dA : decide ((4294967296 : Int) ≤ (q : Int)) = false := decide_eq_false (by omega)
            by_cases hC : 4294967296 * r < q * yn0
            · obtain ⟨hq0, hnx⟩ := HGr.out.next (by omega) HWV.out (.inr hC)
              have HN := hid hnx
              have dC : decide ((4294967296 : Int) * (r : Int) < (P : Int)) = true := decide_eq_true (by rw [HP.out] at hC; omega)
              clear hnx hC
              by_cases hB : 4294967296 ≤ r + yn1
              · have dB : decide ((4294967296 : Int) ≤ (r : Int) + (yn1 : Int)) = true := decide_eq_true (by omega)
                obtain ⟨p', hqe⟩ : ∃ p', q - 1 = p' := ⟨_, rfl⟩
                have HQ := hid (HN.out.over (by omega) b0 (by omega) hB)
                rw [hqe] at HQ
                have hmin : (q : Int) - 1 = (p' : Int) := by omega
                clear hqe HN HGr
                go_wp2_with fail
                go_ret2
                first | exact ⟨⟨_, ret_share HVd.out HUd.out HVs.out HUV.out HQ1.out HWm.out HQ.out⟩, rfl⟩ | exact ⟨⟨_, ret_share' HVd.out HUd.out HVs.out HUV.out HQ1.out HWm.out HQ.out⟩, rfl⟩
              · have dB : decide ((4294967296 : Int) ≤ (r : Int) + (yn1 : Int)) = false := decide_eq_false (by omega)
                go_wp2_with fail
                go_round
                case rel => exact ⟨q - 1, r + yn1, by go_num, by go_num, by omega, by omega, HN⟩
                case measure => simp [intOf]; omega
            · have dC : decide ((4294967296 : Int) * (r : Int) < (P : Int)) = false := decide_eq_false (by rw [HP.out] at hC; omega)
              have HQ := hid (HGr.out.done (by omega) (by omega))
              clear hC
              clear HGr
              go_wp2_with fail
              go_ret2
              first | exact ⟨⟨_, ret_share HVd.out HUd.out HVs.out HUV.out HQ1.out HWm.out HQ.out⟩, rfl⟩ | exact ⟨⟨_, ret_share' HVd.out HUd.out HVs.out HUV.out HQ1.out HWm.out HQ.out⟩, rfl⟩
      · have dB : decide ((4294967296 : Int) ≤ (r : Int) + (yn1 : Int)) = false := decide_eq_false (by omega)
        go_wp2_with fail
        go_round
        case rel => exact ⟨q - 1, r + yn1, by go_num, by go_num, by omega, by omega, HN⟩
        case measure => simp [intOf]; omega
    · have dA : decide ((4294967296 : Int) ≤ (q : Int)) = false := decide_eq_false (by omega)
      by_cases hC : 4294967296 * r < q * yn0
      · obtain ⟨hq0, hnx⟩ := HGr.out.next (by omega) HUU (.inr hC)
        have HN := hid hnx
        have dC : decide ((4294967296 : Int) * (r : Int) < (P : Int)) = true := decide_eq_true (by rw [HP.out] at hC; omega)
        clear hnx hC
        by_cases hB : 4294967296 ≤ r + yn1
        · have dB : decide ((4294967296 : Int) ≤ (r : Int) + (yn1 : Int)) = true := decide_eq_true (by omega)
          obtain ⟨q', hqe⟩ : ∃ q', q - 1 = q' := ⟨_, rfl⟩
          have HQ := hid (HN.out.over (by omega) b0 (by omega) hB)
          rw [hqe] at HQ
          have hmin : (q : Int) - 1 = (q' : Int) := by omega
          clear hqe HN HGr
          go_wp2_with fail
          have HQ1 := hid HQ.out
          obtain ⟨W, q2, r2, hun, hq2, hr2, hG2, hr2l, hWV, hqlt, hWm⟩ := rest_one HVs.out HUV.out b1 b1' b0 HQ1.out
          have HG2 := hid hG2
          have HWm := hid hWm
          have HWV := hid (show W < yn1 * 4294967296 + yn0 by have := HVs.out; omega)
          clear hG2 hWm hWV
          go_wp2_with fail
          simp only [hun, hq2, hr2]
          clear hun hq2 hr2
          go_loop [16, 18] (fun vA vB => ∃ q r : Nat, vB = .int .u64 (q : Int) ∧ vA = .int .u64 (r : Int) ∧ r < 4294967296 ∧ q ≤ 4294967297 ∧ Hid (Guess yn1 yn0 W q r)) (fun vA vB => (4294967296 - intOf vA).toNat)
          case atStart => exact ⟨q2, r2, rfl, rfl, by omega, by have := HG2.out.small; omega, HG2⟩
          case round =>
            obtain ⟨q, r, rfl, rfl, hr, hq, HGr⟩ := hrel
            obtain ⟨P, hP⟩ : ∃ P, q * yn0 = P := ⟨_, rfl⟩
            have hm : IntKind.u64.wrap ((q : Int) * (yn0 : Int)) = (P : Int) := by
              have e : (q : Int) * (yn0 : Int) = ((q * yn0 : Nat) : Int) := by simp
              rw [e, hP]; exact wrap_nat P (by rw [← hP]; exact HGr.out.prod b0)
            have HP := hid hP
            clear hP
            by_cases hA : 4294967296 ≤ q
            · obtain ⟨hq0, hnx⟩ := HGr.out.next (by omega) HWV.out (.inl hA)
              have HN := hid hnx
              have dA : decide ((4294967296 : Int) ≤ (q : Int)) = true := decide_eq_true (by omega)
              clear hnx
              by_cases hB : 4294967296 ≤ r + yn1
              · have dB : decide ((4294967296 : Int) ≤ (r : Int) + (yn1 : Int)) = true := decide_eq_true (by omega)
                obtain ⟨p', hqe⟩ : ∃ p', q - 1 = p' := ⟨_, rfl⟩
                have HQ := hid (HN.out.over (by omega) b0 (by omega) hB)
                rw [hqe] at HQ
                have hmin : (q : Int) - 1 = (p' : Int) := by omega
                clear hqe
                clear HN HGr hm
                go_wp2_with fail
                go_ret2
                first | exact ⟨⟨_, ret_share HVd.out HUd.out HVs.out HUV.out HQ1.out HWm.out HQ.out⟩, rfl⟩ | exact ⟨⟨_, ret_share' HVd.out HUd.out HVs.out HUV.out HQ1.out HWm.out HQ.out⟩, rfl⟩
              · have dB : decide ((4294967296 : Int) ≤ (r : Int) + (yn1 : Int)) = false := decide_eq_false (by omega)
                go_wp2_with fail
                go_round
                case rel => exact ⟨q - 1, r + yn1, by go_num, by go_num, by omega, by omega, HN⟩
                case measure => simp [intOf]; omega
            · have dA : decide ((4294967296 : Int) ≤ (q : Int)) = false := decide_eq_false (by omega)
              by_cases hC : 4294967296 * r < q * yn0
              · obtain ⟨hq0, hnx⟩ := HGr.out.next (by omega) HWV.out (.inr hC)
                have HN := hid hnx
                have dC : decide ((4294967296 : Int) * (r : Int) < (P : Int)) = true := decide_eq_true (by rw [HP.out] at hC; omega)
                clear hnx hC
                by_cases hB : 4294967296 ≤ r + yn1
                · have dB : decide ((4294967296 : Int) ≤ (r : Int) + (yn1 : Int)) = true := decide_eq_true (by omega)
                  obtain ⟨p', hqe⟩ : ∃ p', q - 1 = p' := ⟨_, rfl⟩
                  have HQ := hid (HN.out.over (by omega) b0 (by omega) hB)
                  rw [hqe] at HQ
                  have hmin : (q : Int) - 1 = (p' : Int) := by omega
                  clear hqe HN HGr
                  go_wp2_with fail
                  go_ret2
                  first | exact ⟨⟨_, ret_share HVd.out HUd.out HVs.out HUV.out HQ1.out HWm.out HQ.out⟩, rfl⟩ | exact ⟨⟨_, ret_share' HVd.out HUd.out HVs.out HUV.out HQ1.out HWm.out HQ.out⟩, rfl⟩
                · have dB : decide ((4294967296 : Int) ≤ (r : Int) + (yn1 : Int)) = false := decide_eq_false (by omega)
                  go_wp2_with fail
                  go_round
                  case rel => exact ⟨q - 1, r + yn1, by go_num, by go_num, by omega, by omega, HN⟩
                  case measure => simp [intOf]; omega
              · have dC : decide ((4294967296 : Int) * (r : Int) < (P : Int)) = false := decide_eq_false (by rw [HP.out] at hC; omega)
                have HQ := hid (HGr.out.done (by omega) (by omega))
                clear hC
                clear HGr
                go_wp2_with fail
                go_ret2
                first | exact ⟨⟨_, ret_share HVd.out HUd.out HVs.out HUV.out HQ1.out HWm.out HQ.out⟩, rfl⟩ | exact ⟨⟨_, ret_share' HVd.out HUd.out HVs.out HUV.out HQ1.out HWm.out HQ.out⟩, rfl⟩
        · have dB : decide ((4294967296 : Int) ≤ (r : Int) + (yn1 : Int)) = false := decide_eq_false (by omega)
          go_wp2_with fail
          go_round
          case rel => exact ⟨q - 1, r + yn1, by go_num, by go_num, by omega, by omega, HN⟩
          case measure => simp [intOf]; omega
      · have dC : decide ((4294967296 : Int) * (r : Int) < (P : Int)) = false := decide_eq_false (by rw [HP.out] at hC; omega)
        have HQ := hid (HGr.out.done (by omega) (by omega))
        clear hC
        clear HGr
        go_wp2_with fail
        have HQ1 := hid HQ.out
        obtain ⟨W, q2, r2, hun, hq2, hr2, hG2, hr2l, hWV, hqlt, hWm⟩ := rest_one HVs.out HUV.out b1 b1' b0 HQ1.out
        have HG2 := hid hG2
        have HWm := hid hWm
        have HWV := hid (show W < yn1 * 4294967296 + yn0 by have := HVs.out; omega)
        clear hG2 hWm hWV
        go_wp2_with fail
        simp only [hun, hq2, hr2]
        clear hun hq2 hr2
        go_loop [16, 18] (fun vA vB => ∃ q r : Nat, vB = .int .u64 (q : Int) ∧ vA = .int .u64 (r : Int) ∧ r < 4294967296 ∧ q ≤ 4294967297 ∧ Hid (Guess yn1 yn0 W q r)) (fun vA vB => (4294967296 - intOf vA).toNat)
        case atStart => exact ⟨q2, r2, rfl, rfl, by omega, by have := HG2.out.small; omega, HG2⟩
        case round =>
          obtain ⟨q, r, rfl, rfl, hr, hq, HGr⟩ := hrel
          obtain ⟨P, hP⟩ : ∃ P, q * yn0 = P := ⟨_, rfl⟩
          have hm : IntKind.u64.wrap ((q : Int) * (yn0 : Int)) = (P : Int) := by
            have e : (q : Int) * (yn0 : Int) = ((q * yn0 : Nat) : Int) := by simp
            rw [e, hP]; exact wrap_nat P (by rw [← hP]; exact HGr.out.prod b0)
          have HP := hid hP
          clear hP
          by_cases hA : 4294967296 ≤ q
          · obtain ⟨hq0, hnx⟩ := HGr.out.next (by omega) HWV.out (.inl hA)
            have HN := hid hnx
            have dA : decide ((4294967296 : Int) ≤ (q : Int)) = true := decide_eq_true (by omega)
            clear hnx
            by_cases hB : 4294967296 ≤ r + yn1
            · have dB : decide ((4294967296 : Int) ≤ (r : Int) + (yn1 : Int)) = true := decide_eq_true (by omega)
              obtain ⟨p', hqe⟩ : ∃ p', q - 1 = p' := ⟨_, rfl⟩
              have HQ := hid (HN.out.over (by omega) b0 (by omega) hB)
              rw [hqe] at HQ
              have hmin : (q : Int) - 1 = (p' : Int) := by omega
              clear hqe
              clear HN HGr hm
              go_wp2_with fail
              go_ret2
              first | exact ⟨⟨_, ret_share HVd.out HUd.out HVs.out HUV.out HQ1.out HWm.out HQ.out⟩, rfl⟩ | exact ⟨⟨_, ret_share' HVd.out HUd.out HVs.out HUV.out HQ1.out HWm.out HQ.out⟩, rfl⟩
            · have dB : decide ((4294967296 : Int) ≤ (r : Int) + (yn1 : Int)) = false := decide_eq_false (by omega)
              go_wp2_with fail
              go_round
              case rel => exact ⟨q - 1, r + yn1, by go_num, by go_num, by omega, by omega, HN⟩
              case measure => simp [intOf]; omega
          · have dA : decide ((4294967296 : Int) ≤ (q : Int)) = false := decide_eq_false (by omega)
            by_cases hC : 4294967296 * r < q * yn0
            · obtain ⟨hq0, hnx⟩ := HGr.out.next (by omega) HWV.out (.inr hC)
              have HN := hid hnx
              have dC : decide ((4294967296 : Int) * (r : Int) < (P : Int)) = true := decide_eq_true (by rw [HP.out] at hC; omega)
              clear hnx hC
              by_cases hB : 4294967296 ≤ r + yn1
              · have dB : decide ((4294967296 : Int) ≤ (r : Int) + (yn1 : Int)) = true := decide_eq_true (by omega)
                obtain ⟨p', hqe⟩ : ∃ p', q - 1 = p' := ⟨_, rfl⟩
                have HQ := hid (HN.out.over (by omega) b0 (by omega) hB)
                rw [hqe] at HQ
                have hmin : (q : Int) - 1 = (p' : Int) := by omega
                clear hqe HN HGr
                go_wp2_with fail
                go_ret2
                first | exact ⟨⟨_, ret_share HVd.out HUd.out HVs.out HUV.out HQ1.out HWm.out HQ.out⟩, rfl⟩ | exact ⟨⟨_, ret_share' HVd.out HUd.out HVs.out HUV.out HQ1.out HWm.out HQ.out⟩, rfl⟩
              · have dB : decide ((4294967296 : Int) ≤ (r : Int) + (yn1 : Int)) = false := decide_eq_false (by omega)
                go_wp2_with fail
                go_round
                case rel => exact ⟨q - 1, r + yn1, by go_num, by go_num, by omega, by omega, HN⟩
                case measure => simp [intOf]; omega
            · have dC : decide ((4294967296 : Int) * (r : Int) < (P : Int)) = false := decide_eq_false (by rw [HP.out] at hC; omega)
              have HQ := hid (HGr.out.done (by omega) (by omega))
              clear hC
              clear HGr
              go_wp2_with fail
              go_ret2
              first | exact ⟨⟨_, ret_share HVd.out HUd.out HVs.out HUV.out HQ1.out HWm.out HQ.out⟩, rfl⟩ | exact ⟨⟨_, ret_share' HVd.out HUd.out HVs.out HUV.out HQ1.out HWm.out HQ.out⟩, rfl⟩
end Go.Proofs.Ytnnkfopopanfjaa
