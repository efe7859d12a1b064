/- The degrees: how they are laid, and how one is found; the walks of package degree, and of the document's. Conditions: numbers are of their kinds; parameters that may be. -/
import Derived.Test.YtnnkfopopanfjaaParams
import Derived.Test.YtnnkfopopanfjaaBox5
import Derived.Test.YtnnkfopopanfjaaDiv
import Derived.Deep.QuietTactic
import Derived.Deep.LoopGhost
set_option linter.unusedVariables false
namespace Go.Proofs.Ytnnkfopopanfjaa
open Go.RowKit

theorem wrap_prod {a b n : Nat} (h : a * b = n) (hn : n < 18446744073709551616) : IntKind.u64.wrap ((a : Int) * (b : Int)) = (n : Int) := by
  have e : (a : Int) * (b : Int) = ((a * b : Nat) : Int) := by simp
  rw [e, h]; exact wrap_nat n hn
/-- All products that a degree's share is reckoned of, as the walks have them. -/
theorem deg_steps (f e i : Nat) (he : 1000 < f * e) (hf : f ≤ 4096) (he2 : e ≤ 1000) (hi1 : 1 ≤ i) (hi : i < f) : ∃ FE A Ai B Bi C D L : Nat,
    IntKind.u64.wrap ((f : Int) * (e : Int)) = (FE : Int) ∧ 1001 ≤ FE ∧ FE ≤ 4096000 ∧ IntKind.u64.wrap (((FE : Int) - 1000) * ((f : Int) - 1)) = (A : Int) ∧ IntKind.u64.wrap ((A : Int) * (i : Int)) = (Ai : Int) ∧
    IntKind.u64.wrap (1000 * ((f : Int) + 1) * (f : Int)) = (B : Int) ∧ IntKind.u64.wrap ((B : Int) * ((i : Int) - 1)) = (Bi : Int) ∧ IntKind.u64.wrap ((f : Int) * (1000 + (e : Int))) = (C : Int) ∧ IntKind.u64.wrap ((C : Int) * ((f : Int) - 1)) = (D : Int) ∧
    IntKind.u64.wrap ((D : Int) * (i : Int)) = (L : Int) ∧ Ai + Bi = highN f e i ∧ L = lowN f e i ∧ 0 < highN f e i ∧ highN f e i < lowN f e i ∧ lowN f e i ≤ 137371852800000 := by
  have hb := deg_bounds f e i hf he2 hi
  have hl := high_lt f e i he hi1 hi
  have hd : highN f e i = (f * e - 1000) * (f - 1) * i + 1000 * (f + 1) * f * (i - 1) := rfl
  have hpos : 0 < (f * e - 1000) * (f - 1) * i := Nat.mul_pos (Nat.mul_pos (by omega) (by omega)) (by omega)
  have hFE : f * e ≤ 4096000 := Nat.mul_le_mul hf he2
  have hA : (f * e - 1000) * (f - 1) ≤ 4095000 * 4095 := Nat.mul_le_mul (by omega) (by omega)
  have hB : 1000 * (f + 1) * f ≤ 4097000 * 4096 := Nat.mul_le_mul (by omega) hf
  have hC : f * (1000 + e) ≤ 4096 * 2000 := Nat.mul_le_mul hf (by omega)
  have hD : f * (1000 + e) * (f - 1) ≤ 4096 * 2000 * 4095 := Nat.mul_le_mul hC (by omega)
  refine ⟨f * e, (f * e - 1000) * (f - 1), (f * e - 1000) * (f - 1) * i, 1000 * (f + 1) * f, 1000 * (f + 1) * f * (i - 1), f * (1000 + e), f * (1000 + e) * (f - 1), f * (1000 + e) * (f - 1) * i, ?_, by omega, hFE, ?_, ?_, ?_, ?_, ?_, ?_, ?_, rfl, rfl, by omega, hl, hb⟩
  · exact wrap_prod rfl (by omega)
  · have := wrap_prod (a := f * e - 1000) (b := f - 1) rfl (by omega)
    rw [show (((f * e - 1000 : Nat)) : Int) = ((f * e : Nat) : Int) - 1000 by omega, show ((f - 1 : Nat) : Int) = (f : Int) - 1 by omega] at this
    exact this
  · exact wrap_prod rfl (by omega)
  · have := wrap_prod (a := 1000 * (f + 1)) (b := f) rfl (by omega)
    rw [show ((1000 * (f + 1) : Nat) : Int) = 1000 * ((f : Int) + 1) by omega] at this
    exact this
  · have := wrap_prod (a := 1000 * (f + 1) * f) (b := i - 1) rfl (by omega)
    rw [show ((i - 1 : Nat) : Int) = (i : Int) - 1 by omega] at this
    exact this
  · have := wrap_prod (a := f) (b := 1000 + e) rfl (by omega)
    rw [show ((1000 + e : Nat) : Int) = 1000 + (e : Int) by omega] at this
    exact this
  · have := wrap_prod (a := f * (1000 + e)) (b := f - 1) rfl (by omega)
    rw [show ((f - 1 : Nat) : Int) = (f : Int) - 1 by omega] at this
    exact this
  · exact wrap_prod rfl (by have : f * (1000 + e) * (f - 1) * i = lowN f e i := rfl; omega)
/-- The parameters' numbers that degrees hang on. -/
theorem par_nats {p : Par} (h : p.may) : ∃ f e : Nat, p.f = (f : Int) ∧ p.eps = (e : Int) ∧ p.f.toNat = f ∧ p.eps.toNat = e ∧ 2 ≤ f ∧ f ≤ 4096 ∧ e ≤ 1000 ∧ 1000 < f * e := by
  obtain ⟨_, _, _, _, _, _, h7, h8, h9, h10, h11⟩ := h
  refine ⟨p.f.toNat, p.eps.toNat, by omega, by omega, rfl, rfl, by omega, by omega, by omega, ?_⟩
  have e1 : p.f = (p.f.toNat : Int) := by omega
  have e2 : p.eps = (p.eps.toNat : Int) := by omega
  rw [e1, e2] at h11
  have : ((p.f.toNat * p.eps.toNat : Nat) : Int) = (p.f.toNat : Int) * (p.eps.toNat : Int) := by simp
  omega
end Go.Proofs.Ytnnkfopopanfjaa
