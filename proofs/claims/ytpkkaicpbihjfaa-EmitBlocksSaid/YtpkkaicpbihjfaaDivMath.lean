/- The plain law of a division of 128 bits by 64: two steps, each of 32 bits; and the degrees' shares. No condition. -/
import Derived.WalkKit
set_option linter.unusedVariables false
namespace Go.Proofs.Ytpkkaicpbihjfaa

/-- One step: what a guess is, and what is left. U below V; V at least 2^63; q yn1 + r = U. -/
structure Guess (yn1 yn0 U q r : Nat) : Prop where
  sum : q * yn1 + r = U
  above : U * 4294967296 / (yn1 * 4294967296 + yn0) ≤ q
  small : q ≤ 4294967297
theorem Guess.test {yn1 yn0 U q r : Nat} (h : Guess yn1 yn0 U q r) : q * (yn1 * 4294967296 + yn0) ≤ U * 4294967296 ↔ q * yn0 ≤ 4294967296 * r := by
  have e : U * 4294967296 = q * yn1 * 4294967296 + r * 4294967296 := by rw [← h.sum, Nat.add_mul]
  have e2 : q * (yn1 * 4294967296 + yn0) = q * yn1 * 4294967296 + q * yn0 := by rw [Nat.mul_add, Nat.mul_assoc]
  omega
theorem Guess.first {yn1 yn0 U : Nat} (h1 : 2147483648 ≤ yn1) (h0 : yn0 < 4294967296) (hU : U < yn1 * 4294967296 + yn0) : Guess yn1 yn0 U (U / yn1) (U % yn1) := by
  refine ⟨by rw [Nat.mul_comm]; exact Nat.div_add_mod U yn1, ?_, ?_⟩
  · refine Nat.le_trans (Nat.div_le_div_left (show yn1 * 4294967296 ≤ _ by omega) (by omega)) ?_
    rw [Nat.mul_div_mul_right _ _ (by omega)]
    exact Nat.le_refl _
  · have : U / yn1 < 4294967298 := by
      rw [Nat.div_lt_iff_lt_mul (by omega)]
      omega
    omega
theorem Guess.big {yn1 yn0 U q r : Nat} (h : Guess yn1 yn0 U q r) (hV : 0 < yn1) (hU : U < yn1 * 4294967296 + yn0) (hq : 4294967296 ≤ q) : U * 4294967296 / (yn1 * 4294967296 + yn0) < q := by
  rw [Nat.div_lt_iff_lt_mul (by omega)]
  refine Nat.lt_of_lt_of_le (Nat.mul_lt_mul_of_pos_right hU (by omega : 0 < 4294967296)) ?_
  rw [Nat.mul_comm]
  exact Nat.mul_le_mul_right _ hq
theorem Guess.next {yn1 yn0 U q r : Nat} (h : Guess yn1 yn0 U q r) (hV : 0 < yn1) (hU : U < yn1 * 4294967296 + yn0) (ht : 4294967296 ≤ q ∨ 4294967296 * r < q * yn0) : 0 < q ∧ Guess yn1 yn0 U (q - 1) (r + yn1) := by
  have hlt : U * 4294967296 / (yn1 * 4294967296 + yn0) < q := by
    rcases ht with ht | ht
    · exact h.big hV hU ht
    · rw [Nat.div_lt_iff_lt_mul (by omega)]
      have := h.test
      omega
  have h0 : 0 < q := Nat.lt_of_le_of_lt (Nat.zero_le _) hlt
  refine ⟨h0, ?_, by omega, by have := h.small; omega⟩
  have := h.sum
  obtain ⟨p, rfl⟩ : ∃ p, q = p + 1 := ⟨q - 1, by omega⟩
  rw [Nat.add_mul] at this
  simp at this ⊢
  omega
theorem Guess.done {yn1 yn0 U q r : Nat} (h : Guess yn1 yn0 U q r) (hV : 0 < yn1) (ht : q * yn0 ≤ 4294967296 * r) : q = U * 4294967296 / (yn1 * 4294967296 + yn0) := by
  refine Nat.le_antisymm ?_ h.above
  rw [Nat.le_div_iff_mul_le (by omega)]
  exact h.test.2 ht
theorem Guess.over {yn1 yn0 U q r : Nat} (h : Guess yn1 yn0 U q r) (hV : 0 < yn1) (h0 : yn0 < 4294967296) (hq : q ≤ 4294967296) (hr : 4294967296 ≤ r) : q = U * 4294967296 / (yn1 * 4294967296 + yn0) := by
  refine h.done hV (Nat.le_trans (Nat.mul_le_mul hq (Nat.le_of_lt h0)) (Nat.mul_le_mul_left _ hr))
theorem Guess.prod {yn1 yn0 U q r : Nat} (h : Guess yn1 yn0 U q r) (h0 : yn0 < 4294967296) : q * yn0 < 18446744073709551616 := by
  have := Nat.mul_le_mul h.small (show yn0 ≤ 4294967295 by omega)
  omega
/-- Both steps: the quotient of U 2^64 by V. -/
theorem two_steps (U V : Nat) (hV : 0 < V) : U * 18446744073709551616 / V = U * 4294967296 / V * 4294967296 + U * 4294967296 % V * 4294967296 / V := by
  have e : U * 18446744073709551616 = V * (U * 4294967296 / V * 4294967296) + U * 4294967296 % V * 4294967296 := by
    have := Nat.div_add_mod (U * 4294967296) V
    calc U * 18446744073709551616 = U * 4294967296 * 4294967296 := by rw [Nat.mul_assoc]
      _ = (V * (U * 4294967296 / V) + U * 4294967296 % V) * 4294967296 := by rw [this]
      _ = _ := by rw [Nat.add_mul, Nat.mul_assoc]
  rw [e, Nat.mul_add_div hV]
theorem scaled (hi y s : Nat) : hi * 2 ^ s * 18446744073709551616 / (y * 2 ^ s) = hi * 18446744073709551616 / y := by
  rw [Nat.mul_assoc, Nat.mul_comm (2 ^ s), ← Nat.mul_assoc, Nat.mul_div_mul_right _ _ (Nat.pow_pos (by omega))]
/-- How great a share of 2^64 n is of d. -/
theorem share_ex : ∃ s : Nat → Nat → Nat, ∀ n d, s n d = n * 18446744073709551616 / d := ⟨fun n d => n * 18446744073709551616 / d, fun _ _ => rfl⟩
noncomputable def shareN : Nat → Nat → Nat := Classical.choose share_ex
theorem shareN_def (n d : Nat) : shareN n d = n * 18446744073709551616 / d := Classical.choose_spec share_ex n d
theorem shareN_lt {n d : Nat} (h : n < d) : shareN n d < 18446744073709551616 := by
  rw [shareN_def]
  rw [Nat.div_lt_iff_lt_mul (by omega), Nat.mul_comm]
  exact Nat.mul_lt_mul_of_pos_left h (by omega)
/-- Bit by bit. -/
def bitsN (n d : Nat) : Nat → Nat × Nat
  | 0 => (0, n)
  | k + 1 => if d ≤ (bitsN n d k).2 * 2 then ((bitsN n d k).1 * 2 + 1, (bitsN n d k).2 * 2 - d) else ((bitsN n d k).1 * 2, (bitsN n d k).2 * 2)
theorem bitsN_inv (n d : Nat) (h : n < d) : ∀ k, (bitsN n d k).1 * d + (bitsN n d k).2 = n * 2 ^ k ∧ (bitsN n d k).2 < d ∧ (bitsN n d k).1 < 2 ^ k := by
  intro k
  induction k with
  | zero => exact ⟨by simp [bitsN], h, by simp [bitsN]⟩
  | succ k ih =>
    obtain ⟨h1, h2, h3⟩ := ih
    rw [Nat.pow_succ]
    unfold bitsN
    generalize bitsN n d k = p at *
    obtain ⟨o, l⟩ := p
    simp only at *
    split
    · rename_i hle
      refine ⟨?_, by simp; omega, by simp; omega⟩
      simp only
      rw [Nat.add_mul, ← Nat.mul_assoc, ← h1]
      have : o * 2 * d = o * d * 2 := by rw [Nat.mul_assoc, Nat.mul_comm 2, ← Nat.mul_assoc]
      omega
    · refine ⟨?_, by simp; omega, by simp; omega⟩
      simp only
      rw [← Nat.mul_assoc, ← h1]
      have : o * 2 * d = o * d * 2 := by rw [Nat.mul_assoc, Nat.mul_comm 2, ← Nat.mul_assoc]
      omega
theorem bitsN_share (n d : Nat) (h : n < d) : (bitsN n d 64).1 = shareN n d := by
  obtain ⟨h1, h2, _⟩ := bitsN_inv n d h 64
  rw [shareN_def]
  rw [show (18446744073709551616 : Nat) = 2 ^ 64 by rfl, ← h1, Nat.mul_comm _ d, Nat.mul_add_div (by omega), Nat.div_eq_of_lt h2]
  omega

/-! The degrees. -/
def highN (f e i : Nat) : Nat := (f * e - 1000) * (f - 1) * i + 1000 * (f + 1) * f * (i - 1)
def lowN (f e i : Nat) : Nat := f * (1000 + e) * (f - 1) * i
set_option maxRecDepth 20000 in
theorem low_high (f e i : Nat) (he : 1000 < f * e) (h1 : 1 ≤ i) (hi : i < f) : lowN f e i = highN f e i + 1000 * (f + 1) * (f - i) := by
  obtain ⟨g, rfl⟩ : ∃ g, f = g + 1 := ⟨f - 1, by omega⟩
  obtain ⟨j, rfl⟩ : ∃ j, i = j + 1 := ⟨i - 1, by omega⟩
  obtain ⟨n, hn⟩ : ∃ n, g = j + n := ⟨g - j, by omega⟩
  obtain ⟨c, hc⟩ : ∃ c, (g + 1) * e = c + 1000 := ⟨(g + 1) * e - 1000, by omega⟩
  have e0 : (g + 1) * (1000 + e) = c + 1000 * (g + 1 + 1) := by rw [Nat.mul_add, hc]; omega
  have e1 : g * (j + 1) = (g + 1) * j + n := by rw [Nat.mul_add, Nat.add_mul]; omega
  have e3 : g + 1 - (j + 1) = n := by omega
  unfold lowN highN
  have e4 : c + 1000 - 1000 = c := by omega
  have e5 : g + 1 - 1 = g := by omega
  have e6 : j + 1 - 1 = j := by omega
  rw [e0, hc, e3, e4, e5, e6]
  clear e0 hc e3 e4 e5 e6 hi h1 he
  generalize 1000 * (g + 1 + 1) = d
  rw [Nat.mul_assoc _ g (j + 1), Nat.mul_assoc c g, e1, Nat.add_mul]
  rw [Nat.mul_add d, ← Nat.mul_assoc d, Nat.add_assoc]
theorem high_lt (f e i : Nat) (he : 1000 < f * e) (h1 : 1 ≤ i) (hi : i < f) : highN f e i < lowN f e i := by
  rw [low_high f e i he h1 hi]
  have : 0 < 1000 * (f + 1) * (f - i) := Nat.mul_pos (by omega) (by omega)
  omega
/-- The share of a degree, or lesser ones. -/
noncomputable def degN (f e i : Nat) : Nat := shareN (highN f e i) (lowN f e i)
theorem div_cross {a b c d : Nat} (hb : 0 < b) (hd : 0 < d) (h : a * d ≤ c * b) : a / b ≤ c / d := by
  rw [Nat.le_div_iff_mul_le hd]
  have h1 : a / b * b ≤ a := Nat.div_mul_le_self a b
  have h2 : a / b * d * b ≤ c * b := by
    rw [Nat.mul_assoc, Nat.mul_comm d b, ← Nat.mul_assoc]
    exact Nat.le_trans (Nat.mul_le_mul_right d h1) h
  exact Nat.le_of_mul_le_mul_right h2 hb
theorem deg_mono (f e i : Nat) (he : 1000 < f * e) (h1 : 1 ≤ i) (hi : i + 1 < f) : degN f e i ≤ degN f e (i + 1) := by
  have ha := low_high f e i he h1 (by omega)
  have hb := low_high f e (i + 1) he (by omega) hi
  have la := high_lt f e i he h1 (by omega)
  have lb := high_lt f e (i + 1) he (by omega) hi
  unfold degN
  rw [shareN_def, shareN_def]
  refine div_cross (by omega) (by omega) ?_
  have key : highN f e i * lowN f e (i + 1) ≤ highN f e (i + 1) * lowN f e i := by
    have e1 : lowN f e i = f * (1000 + e) * (f - 1) * i := rfl
    have e2 : lowN f e (i + 1) = f * (1000 + e) * (f - 1) * (i + 1) := rfl
    -- (low i - a) low' <= (low' - b) low i, where a = c (f - i), b = c (f - i - 1)
    have k1 : 1000 * (f + 1) * (f - (i + 1)) * lowN f e i ≤ 1000 * (f + 1) * (f - i) * lowN f e (i + 1) := by
      refine Nat.mul_le_mul (Nat.mul_le_mul_left _ (by omega)) ?_
      rw [e1, e2]; exact Nat.mul_le_mul_left _ (by omega)
    have k2 : highN f e i * lowN f e (i + 1) + 1000 * (f + 1) * (f - i) * lowN f e (i + 1) = lowN f e i * lowN f e (i + 1) := by rw [← Nat.add_mul, ← ha]
    have k3 : highN f e (i + 1) * lowN f e i + 1000 * (f + 1) * (f - (i + 1)) * lowN f e i = lowN f e (i + 1) * lowN f e i := by rw [← Nat.add_mul, ← hb]
    have k4 : lowN f e i * lowN f e (i + 1) = lowN f e (i + 1) * lowN f e i := Nat.mul_comm _ _
    omega
  calc highN f e i * 18446744073709551616 * lowN f e (i + 1) = highN f e i * lowN f e (i + 1) * 18446744073709551616 := by rw [Nat.mul_assoc, Nat.mul_comm 18446744073709551616, ← Nat.mul_assoc]
    _ ≤ highN f e (i + 1) * lowN f e i * 18446744073709551616 := Nat.mul_le_mul_right _ key
    _ = _ := by rw [Nat.mul_assoc, Nat.mul_comm (lowN f e i), ← Nat.mul_assoc]
theorem deg_le (f e : Nat) (he : 1000 < f * e) (a : Nat) (h1 : 1 ≤ a) : ∀ n, a + n < f → degN f e a ≤ degN f e (a + n) := by
  intro n
  induction n with
  | zero => intro _; exact Nat.le_refl _
  | succ n ih => intro h; exact Nat.le_trans (ih (by omega)) (deg_mono f e (a + n) he (by omega) h)
/-- The degree of a number: the first share that it is below. -/
noncomputable def degreeN (f e u : Nat) : Nat := 1 + (List.range (f - 1)).countP (fun i => !decide (u < degN f e (i + 1)))
theorem degreeN_bounds (f e u : Nat) (hf : 2 ≤ f) : 1 ≤ degreeN f e u ∧ degreeN f e u ≤ f := by
  unfold degreeN
  have := List.countP_le_length (p := fun i => !decide (u < degN f e (i + 1))) (l := List.range (f - 1))
  simp at this
  omega
theorem countP_upto (p : Nat → Bool) (n k : Nat) (hk : k ≤ n) (h1 : ∀ t, t < k → p t = true) (h2 : ∀ t, k ≤ t → t < n → p t = false) : (List.range n).countP p = k := by
  induction n with
  | zero => obtain rfl : k = 0 := by omega
            rfl
  | succ n ih =>
    rw [List.range_succ, List.countP_append, List.countP_singleton]
    by_cases h : k = n + 1
    · have : (List.range n).countP p = n := by
        rw [List.countP_eq_length.2 (fun a ha => h1 a (by have := List.mem_range.1 ha; omega))]; simp
      rw [this, h1 n (by omega)]; simp [h]
    · rw [ih (by omega) (fun t h3 h4 => h2 t h3 (by omega)), h2 n (by omega) (by omega)]; simp
theorem degreeN_first (f e u k : Nat) (he : 1000 < f * e) (h1 : 1 ≤ k) (hk : k < f) (hlt : u < degN f e k) (hb : ∀ i, 1 ≤ i → i < k → ¬ u < degN f e i) : degreeN f e u = k := by
  unfold degreeN
  rw [countP_upto _ _ (k - 1) (by omega)]
  · omega
  · intro t ht; simp only [Bool.not_eq_true', decide_eq_false_iff_not]; exact hb (t + 1) (by omega) (by omega)
  · intro t h3 h4
    have := deg_le f e he k h1 (t + 1 - k) (by omega)
    rw [show k + (t + 1 - k) = t + 1 by omega] at this
    simp only [Bool.not_eq_false', decide_eq_true_eq]
    omega
theorem degreeN_last (f e u : Nat) (hf : 2 ≤ f) (hb : ∀ i, 1 ≤ i → i < f → ¬ u < degN f e i) : degreeN f e u = f := by
  unfold degreeN
  rw [countP_upto _ _ (f - 1) (Nat.le_refl _)]
  · omega
  · intro t ht; simp only [Bool.not_eq_true', decide_eq_false_iff_not]; exact hb (t + 1) (by omega) (by omega)
  · intro t h3 h4; omega
theorem deg_bounds (f e i : Nat) (hf : f ≤ 4096) (he : e ≤ 1000) (hi : i < f) : lowN f e i ≤ 137371852800000 := by
  unfold lowN
  have h1 : f * (1000 + e) ≤ 4096 * 2000 := Nat.mul_le_mul hf (by omega)
  have h2 : f * (1000 + e) * (f - 1) ≤ 4096 * 2000 * 4095 := Nat.mul_le_mul h1 (by omega)
  have h3 : f * (1000 + e) * (f - 1) * i ≤ 4096 * 2000 * 4095 * 4095 := Nat.mul_le_mul h2 (by omega)
  omega
end Go.Proofs.Ytpkkaicpbihjfaa
