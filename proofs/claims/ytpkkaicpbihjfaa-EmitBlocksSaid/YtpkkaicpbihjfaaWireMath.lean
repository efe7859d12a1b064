/- Numbers as bytes, the highest first, and back. No condition. -/
import Derived.Test.YtpkkaicpbihjfaaBytes
set_option linter.unusedVariables false
namespace Go.Proofs.Ytpkkaicpbihjfaa

/-- A number's bytes, the highest first. -/
def beN (size n : Nat) : List UInt8 := (List.range size).map fun i => UInt8.ofNat (n / 256 ^ (size - 1 - i))
theorem beN_length (size n : Nat) : (beN size n).length = size := by simp [beN]
theorem beN_succ (s n : Nat) : beN (s + 1) n = UInt8.ofNat (n / 256 ^ s) :: beN s n := by
  unfold beN
  rw [List.range_succ_eq_map, List.map_cons, List.map_map]
  congr 1
  apply List.map_congr_left
  intro i hi
  show UInt8.ofNat (n / 256 ^ (s + 1 - 1 - (i + 1))) = _
  congr 3; omega
theorem beN_take (size n k : Nat) (hk : k < size) : (beN size n).take (k + 1) = (beN size n).take k ++ [UInt8.ofNat (n / 256 ^ (size - 1 - k))] := by
  rw [List.take_succ_eq_append_getElem (by rw [beN_length]; exact hk)]
  simp [beN]
/-- The number that bytes are. -/
def numB (l : List UInt8) : Nat := l.foldl (fun a x => a * 256 + x.toNat) 0
theorem numB_snoc (l : List UInt8) (x : UInt8) : numB (l ++ [x]) = numB l * 256 + x.toNat := by unfold numB; rw [List.foldl_append]; rfl
theorem numB_aux (l : List UInt8) : ∀ a : Nat, l.foldl (fun a x => a * 256 + x.toNat) a < (a + 1) * 256 ^ l.length := by
  induction l with
  | nil => intro a; simp
  | cons x l ih =>
    intro a
    rw [List.foldl_cons, List.length_cons]
    refine Nat.lt_of_lt_of_le (ih _) ?_
    have hx := x.toNat_lt
    rw [Nat.pow_succ, Nat.mul_comm (256 ^ l.length) 256, ← Nat.mul_assoc]
    exact Nat.mul_le_mul_right _ (by omega)
theorem numB_lt (l : List UInt8) : numB l < 256 ^ l.length := by
  have := numB_aux l 0
  unfold numB
  omega
theorem numB_take (l : List UInt8) (k : Nat) (hk : k < l.length) : numB (l.take (k + 1)) = numB (l.take k) * 256 + (gb l k).toNat := by
  rw [List.take_succ_eq_append_getElem hk, numB_snoc, gb_eq l k hk]
theorem numB_take_lt (l : List UInt8) (k : Nat) : numB (l.take k) < 256 ^ k := Nat.lt_of_lt_of_le (numB_lt _) (Nat.pow_le_pow_right (by decide) (by rw [List.length_take]; omega))
theorem num_be_aux (s n : Nat) : ∀ a, (beN s n).foldl (fun a x => a * 256 + x.toNat) a = a * 256 ^ s + n % 256 ^ s := by
  induction s with
  | zero => intro a; simp [beN, Nat.mod_one]
  | succ s ih =>
    intro a
    rw [beN_succ, List.foldl_cons, ih]
    have e : (UInt8.ofNat (n / 256 ^ s)).toNat = n / 256 ^ s % 256 := by simp
    rw [e, Nat.pow_succ, Nat.mod_mul]
    rw [Nat.add_mul, Nat.mul_assoc, Nat.mul_comm 256 (256 ^ s), Nat.mul_comm (n / 256 ^ s % 256)]
    omega
theorem num_be (s n : Nat) : numB (beN s n) = n % 256 ^ s := by
  have := num_be_aux s n 0
  unfold numB
  rw [this]; simp
end Go.Proofs.Ytpkkaicpbihjfaa
