/- Numbers read off bytes: the walks of wire.Take, Cut. Conditions: there are as many. -/
import Derived.Test.YtnnkfopopanfjaaGreatWire
set_option linter.unusedVariables false
set_option linter.unusedSimpArgs false
namespace Go.Proofs.YtnnkfopopanfjaaGreat
open Go.RowKit

theorem BytesIn.noneAt (R : Nat → Prop) (w : World) (A : Option Addr) : BytesIn R w A [] := ⟨⟨by simp [enc8], fun h => by simp [enc8] at h⟩, fun b off e h => by simp at h⟩
theorem BytesIn.dropAny {R : Nat → Prop} {w : World} {b o : Nat} {l : List UInt8} (h : BytesIn R w (some ⟨b, o, none⟩) l) (k : Nat) : BytesIn R w (some ⟨b, o + k, none⟩) (l.drop k) := by
  by_cases hk : k < l.length
  · exact BytesIn.drop h k hk
  · rw [List.drop_eq_nil_of_le (by omega)]; exact BytesIn.noneAt _ _ _
theorem or_byte64 (N : Nat) (x : UInt8) (h : N < 72057594037927936) : bits BinOp.or IntKind.u64 ((N : Int) * 256) (x.toNat : Int) = ((N * 256 + x.toNat : Nat) : Int) := by
  have hx := x.toNat_lt
  have e : (N : Int) * 256 = ((N * 256 : Nat) : Int) := by omega
  rw [e, u64_or_nat _ _ (by omega) (by omega)]
  congr 1
  have := Nat.two_pow_add_eq_or_of_lt (i := 8) (b := x.toNat) hx N
  rw [Nat.mul_comm N 256]
  exact this.symm
end Go.Proofs.YtnnkfopopanfjaaGreat
