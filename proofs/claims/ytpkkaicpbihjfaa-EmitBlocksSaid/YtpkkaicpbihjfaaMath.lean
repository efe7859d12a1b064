/- The draws as plain numbers: the mixing, the state's steps, a number below another. No program in sight; no condition. -/
import Derived.Laws.BitsAllLaws
import Derived.Laws.Bits64
import Derived.WalkKit
set_option linter.unusedVariables false
namespace Go.Proofs.Ytpkkaicpbihjfaa
open Go.RowKit

def M64 : Nat := 18446744073709551616
/-- A number of 64 bits, well mixed: how it is reckoned. -/
def mixR (z : Nat) : Nat :=
  let a := ((z ^^^ z / 1073741824) * 13787848793156543929) % 18446744073709551616
  let b := ((a ^^^ a / 134217728) * 10723151780598845931) % 18446744073709551616
  b ^^^ b / 2147483648
theorem xor_lt64 {a b : Nat} (ha : a < 18446744073709551616) (hb : b < 18446744073709551616) : a ^^^ b < 18446744073709551616 := Nat.xor_lt_two_pow (n := 64) ha hb
/-- Both functions behind a name that the kernel doesn't open (it would count great numbers one by one). -/
theorem draws_ex : ∃ p : (Nat → Nat) × (Nat → Nat), (∀ z, p.1 z = mixR z) ∧ ∀ s, p.2 s = (s + 11400714819323198485) % 18446744073709551616 := ⟨(mixR, fun s => (s + 11400714819323198485) % 18446744073709551616), fun _ => rfl, fun _ => rfl⟩
/-- A number of 64 bits, well mixed. -/
noncomputable def mixN : Nat → Nat := (Classical.choose draws_ex).1
theorem mixN_def (z : Nat) : mixN z = mixR z := (Classical.choose_spec draws_ex).1 z
theorem mixN_lt (z : Nat) : mixN z < 18446744073709551616 := by
  rw [mixN_def]
  unfold mixR
  simp only
  generalize h : ((_ : Nat) * 10723151780598845931) % 18446744073709551616 = b
  have hb : b < 18446744073709551616 := by rw [← h]; exact Nat.mod_lt _ (by omega)
  exact xor_lt64 hb (Nat.lt_of_le_of_lt (Nat.div_le_self _ _) hb)

theorem cast64 : ((18446744073709551616 : Nat) : Int) = 18446744073709551616 := rfl
theorem cast_mulmod (a c : Nat) : IntKind.u64.wrap ((a : Int) * (c : Int)) = ((a * c % 18446744073709551616 : Nat) : Int) := by
  rw [IntKind.wrap_u64, Int.natCast_emod, Int.natCast_mul, cast64]
theorem wrap_tdiv (x c : Nat) (h : x < 18446744073709551616) : IntKind.u64.wrap (((x : Nat) : Int).tdiv (c : Int)) = ((x / c : Nat) : Int) := by
  rw [Int.tdiv_eq_ediv_of_nonneg (by omega), IntKind.wrap_u64, ← Int.natCast_ediv, ← cast64, ← Int.natCast_emod]
  rw [Nat.mod_eq_of_lt (Nat.lt_of_le_of_lt (Nat.div_le_self _ _) h)]
theorem mix_eq (z : Nat) (h : z < 18446744073709551616) :
    (bits BinOp.xor IntKind.u64 (IntKind.u64.wrap (bits BinOp.xor IntKind.u64 (IntKind.u64.wrap (bits BinOp.xor IntKind.u64 (z : Int) ((z : Int) / 1073741824) * 13787848793156543929)) (IntKind.u64.wrap (bits BinOp.xor IntKind.u64 (z : Int) ((z : Int) / 1073741824) * 13787848793156543929) / 134217728) * 10723151780598845931))
      (IntKind.u64.wrap (bits BinOp.xor IntKind.u64 (IntKind.u64.wrap (bits BinOp.xor IntKind.u64 (z : Int) ((z : Int) / 1073741824) * 13787848793156543929)) (IntKind.u64.wrap (bits BinOp.xor IntKind.u64 (z : Int) ((z : Int) / 1073741824) * 13787848793156543929) / 134217728) * 10723151780598845931) / 2147483648)) = ((mixN z : Nat) : Int) := by
  have e1 : bits BinOp.xor IntKind.u64 (z : Int) ((z : Int) / 1073741824) = ((z ^^^ z / 1073741824 : Nat) : Int) := xorShift_u64 z 1073741824 h
  have e2 : IntKind.u64.wrap (((z ^^^ z / 1073741824 : Nat) : Int) * 13787848793156543929) = (((z ^^^ z / 1073741824) * 13787848793156543929 % 18446744073709551616 : Nat) : Int) := cast_mulmod _ 13787848793156543929
  rw [e1, e2]
  generalize ha : (z ^^^ z / 1073741824) * 13787848793156543929 % 18446744073709551616 = a
  have ha' : a < 18446744073709551616 := by rw [← ha]; exact Nat.mod_lt _ (by omega)
  have e3 : bits BinOp.xor IntKind.u64 (a : Int) ((a : Int) / 134217728) = ((a ^^^ a / 134217728 : Nat) : Int) := xorShift_u64 a 134217728 ha'
  have e4 : IntKind.u64.wrap (((a ^^^ a / 134217728 : Nat) : Int) * 10723151780598845931) = (((a ^^^ a / 134217728) * 10723151780598845931 % 18446744073709551616 : Nat) : Int) := cast_mulmod _ 10723151780598845931
  rw [e3, e4]
  generalize hb : (a ^^^ a / 134217728) * 10723151780598845931 % 18446744073709551616 = b
  have hb' : b < 18446744073709551616 := by rw [← hb]; exact Nat.mod_lt _ (by omega)
  have e5 : bits BinOp.xor IntKind.u64 (b : Int) ((b : Int) / 2147483648) = ((b ^^^ b / 2147483648 : Nat) : Int) := xorShift_u64 b 2147483648 hb'
  rw [e5]
  rw [mixN_def]
  unfold mixR
  simp only [ha, hb]
theorem mix_eq' (z : Nat) (h : z < 18446744073709551616) :
    (bits BinOp.xor IntKind.u64 (IntKind.u64.wrap (bits BinOp.xor IntKind.u64 (IntKind.u64.wrap (bits BinOp.xor IntKind.u64 (z : Int) ((z : Int) / 1073741824) * 13787848793156543929)) (IntKind.u64.wrap ((IntKind.u64.wrap (bits BinOp.xor IntKind.u64 (z : Int) ((z : Int) / 1073741824) * 13787848793156543929)).tdiv 134217728)) * 10723151780598845931))
      (IntKind.u64.wrap ((IntKind.u64.wrap (bits BinOp.xor IntKind.u64 (IntKind.u64.wrap (bits BinOp.xor IntKind.u64 (z : Int) ((z : Int) / 1073741824) * 13787848793156543929)) (IntKind.u64.wrap ((IntKind.u64.wrap (bits BinOp.xor IntKind.u64 (z : Int) ((z : Int) / 1073741824) * 13787848793156543929)).tdiv 134217728)) * 10723151780598845931)).tdiv 2147483648))) = ((mixN z : Nat) : Int) := by
  have e1 : bits BinOp.xor IntKind.u64 (z : Int) ((z : Int) / 1073741824) = ((z ^^^ z / 1073741824 : Nat) : Int) := xorShift_u64 z 1073741824 h
  have e2 : IntKind.u64.wrap (((z ^^^ z / 1073741824 : Nat) : Int) * 13787848793156543929) = (((z ^^^ z / 1073741824) * 13787848793156543929 % 18446744073709551616 : Nat) : Int) := cast_mulmod _ 13787848793156543929
  rw [e1, e2]
  generalize ha : (z ^^^ z / 1073741824) * 13787848793156543929 % 18446744073709551616 = a
  have ha' : a < 18446744073709551616 := by rw [← ha]; exact Nat.mod_lt _ (by omega)
  have t1 : IntKind.u64.wrap ((a : Int).tdiv 134217728) = ((a / 134217728 : Nat) : Int) := wrap_tdiv a 134217728 ha'
  rw [t1]
  have e3 : bits BinOp.xor IntKind.u64 (a : Int) ((a / 134217728 : Nat) : Int) = ((a ^^^ a / 134217728 : Nat) : Int) := by
    have := xorShift_u64 a 134217728 ha'
    rw [← this, Int.natCast_ediv]
  have e4 : IntKind.u64.wrap (((a ^^^ a / 134217728 : Nat) : Int) * 10723151780598845931) = (((a ^^^ a / 134217728) * 10723151780598845931 % 18446744073709551616 : Nat) : Int) := cast_mulmod _ 10723151780598845931
  rw [e3, e4]
  generalize hb : (a ^^^ a / 134217728) * 10723151780598845931 % 18446744073709551616 = b
  have hb' : b < 18446744073709551616 := by rw [← hb]; exact Nat.mod_lt _ (by omega)
  have t2 : IntKind.u64.wrap ((b : Int).tdiv 2147483648) = ((b / 2147483648 : Nat) : Int) := wrap_tdiv b 2147483648 hb'
  rw [t2]
  have e5 : bits BinOp.xor IntKind.u64 (b : Int) ((b / 2147483648 : Nat) : Int) = ((b ^^^ b / 2147483648 : Nat) : Int) := by
    have := xorShift_u64 b 2147483648 hb'
    rw [← this, Int.natCast_ediv]
  rw [e5]
  rw [mixN_def]
  unfold mixR
  simp only [ha, hb]

/-- The state behind a number that is drawn; the number. -/
noncomputable def nxS : Nat → Nat := (Classical.choose draws_ex).2
theorem nxS_def (s : Nat) : nxS s = (s + 11400714819323198485) % 18446744073709551616 := (Classical.choose_spec draws_ex).2 s
noncomputable def nxV (s : Nat) : Nat := mixN (nxS s)
theorem nxS_lt (s : Nat) : nxS s < 18446744073709551616 := by rw [nxS_def]; exact Nat.mod_lt _ (by omega)
theorem nxV_lt (s : Nat) : nxV s < 18446744073709551616 := mixN_lt _
theorem nxS_eq (s : Nat) : IntKind.u64.wrap ((s : Int) + 11400714819323198485) = ((nxS s : Nat) : Int) := by
  rw [IntKind.wrap_u64, nxS_def]; rw [Int.natCast_emod, Int.natCast_add, cast64]; rfl
/-- Seeds, one behind the other. -/
noncomputable def seedStep (s x : Nat) : Nat := mixN (nxS s ^^^ x)
noncomputable def seedN (l : List Nat) : Nat := l.foldl seedStep 0
theorem seedStep_lt (s x : Nat) : seedStep s x < 18446744073709551616 := mixN_lt _
/-- Draws again, at most so often, until the number isn't among the few. -/
noncomputable def tries (few : Nat) : Nat → Nat → Nat × Nat
  | 0, s => (nxS s, nxV s)
  | k + 1, s => if nxV s < few then tries few k (nxS s) else (nxS s, nxV s)
def fewN (n : Nat) : Nat := (18446744073709551616 - n) % n
theorem few_eq (n : Nat) (h1 : 1 ≤ n) (h2 : n ≤ 9223372036854775807) : (IntKind.u64.wrap (-(n : Int))).tmod (n : Int) = ((fewN n : Nat) : Int) := by
  have e : IntKind.u64.wrap (-(n : Int)) = ((18446744073709551616 - n : Nat) : Int) := by rw [IntKind.wrap_u64]; omega
  rw [e]; unfold fewN; rfl
theorem few_eq' (n : Nat) (h1 : 1 ≤ n) (h2 : n ≤ 9223372036854775807) : (IntKind.u64.wrap (18446744073709551615 % (n : Int) + 1)).tmod (n : Int) = ((fewN n : Nat) : Int) := by
  have hm := Nat.mod_lt 18446744073709551615 (show 0 < n by omega)
  have e0 : (18446744073709551615 : Int) % (n : Int) = ((18446744073709551615 % n : Nat) : Int) := by rw [Int.natCast_emod]; rfl
  have e : IntKind.u64.wrap (18446744073709551615 % (n : Int) + 1) = ((18446744073709551615 % n + 1 : Nat) : Int) := by
    rw [IntKind.wrap_u64, e0]; omega
  rw [e]
  show (((18446744073709551615 % n + 1) % n : Nat) : Int) = _
  have e2 : fewN n = (18446744073709551615 + 1) % n := by
    unfold fewN
    have h3 : (18446744073709551616 : Nat) = (18446744073709551616 - n) + n := by omega
    have h4 : (18446744073709551616 - n + n) % n = (18446744073709551616 - n) % n := Nat.add_mod_right _ _
    rw [← h4, ← h3]
  rw [e2, Nat.add_mod, Nat.add_mod 18446744073709551615 1 n, Nat.mod_mod]
theorem rem_eq (x n : Nat) (h1 : 1 ≤ n) (h2 : n ≤ 9223372036854775807) : wrap64 ((x : Int) % (n : Int)) = ((x % n : Nat) : Int) := by
  have := Nat.mod_lt x (show 0 < n by omega)
  rw [← Int.natCast_emod]
  unfold wrap64; omega
/-- A number below n: the state behind it, and the number. -/
noncomputable def belowN (s n : Nat) : Nat × Nat := if n = 0 then (s, 0) else ((tries (fewN n) 15 s).1, (tries (fewN n) 15 s).2 % n)
theorem tries_zero (few s : Nat) : tries few 0 s = (nxS s, nxV s) := rfl
theorem tries_succ (few k s : Nat) : tries few (k + 1) s = if nxV s < few then tries few k (nxS s) else (nxS s, nxV s) := rfl
theorem tries_le (few k s : Nat) (h : ¬ nxV s < few) : tries few k s = (nxS s, nxV s) := by
  cases k with
  | zero => rfl
  | succ k => rw [tries_succ, if_neg h]
theorem tries_bound (few k B : Nat) (h1 : ∀ s, nxS s < B) (h2 : ∀ s, nxV s < B) : ∀ s, (tries few k s).1 < B ∧ (tries few k s).2 < B := by
  induction k with
  | zero => intro s; rw [tries_zero]; exact ⟨h1 s, h2 s⟩
  | succ k ih =>
    intro s
    rw [tries_succ]
    by_cases h : nxV s < few
    · rw [if_pos h]; exact ih _
    · rw [if_neg h]; exact ⟨h1 s, h2 s⟩
theorem belowN_zero (s : Nat) : belowN s 0 = (s, 0) := by unfold belowN; rw [if_pos rfl]
theorem belowN_pos (s n : Nat) (h : 0 < n) : belowN s n = ((tries (fewN n) 15 s).1, (tries (fewN n) 15 s).2 % n) := by unfold belowN; rw [if_neg (by omega)]
theorem belowN_bound (s n B : Nat) (h1 : ∀ s, nxS s < B) (h2 : ∀ s, nxV s < B) (hs : s < B) : (belowN s n).1 < B := by
  rcases Nat.eq_zero_or_pos n with rfl | h
  · rw [belowN_zero]; exact hs
  · rw [belowN_pos s n h]
    generalize ht : tries (fewN n) 15 s = t
    have := (tries_bound (fewN n) 15 B h1 h2 s).1
    rw [ht] at this
    exact this
theorem belowN_lt (s n : Nat) (hs : s < 18446744073709551616) : (belowN s n).1 < 18446744073709551616 := belowN_bound s n _ nxS_lt nxV_lt hs
theorem belowN_below (s n : Nat) (hn : 0 < n) : (belowN s n).2 < n := by
  unfold belowN; rw [if_neg (by omega)]; exact Nat.mod_lt _ hn
end Go.Proofs.Ytpkkaicpbihjfaa
