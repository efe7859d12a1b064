/- Several texts, one behind the other: what each proves, and its conditions, stands ahead of it. -/
import Derived.Test.YtnnkfopopanfjaaG1
import Derived.Deep.RegionHeld3
import Derived.Tactics
import Derived.WalkKit
import Derived.Test.YtnnkfopopanfjaaG2
set_option linter.unusedVariables false
set_option linter.unusedSimpArgs false
/- Numbers as bytes, the highest first, and back. No condition. -/
set_option linter.unusedVariables false
namespace Go.Proofs.Ytnnkfopopanfjaa

/-- A number's bytes, the highest first. -/
def beN (size n : Nat) : List UInt8 := (List.range size).map fun i => UInt8.ofNat (n / 256 ^ (size - 1 - i))
theorem beN_length (size n : Nat) : (beN size n).length = size := by simp [beN]
theorem beN_succ (s n : Nat) : beN (s + 1) n = UInt8.ofNat (n / 256 ^ s) :: beN s n := by
  unfold beN
  rw [List.range_succ_eq_map, List.map_cons, List.map_map]
  congr 1
  apply List.map_congr_left
  intro i hi
  show UInt8.ofNat (n / 256 ^ (s + 1 - 1 - (i + 1))) = _
  congr 3; omega
theorem beN_take (size n k : Nat) (hk : k < size) : (beN size n).take (k + 1) = (beN size n).take k ++ [UInt8.ofNat (n / 256 ^ (size - 1 - k))] := by
  rw [List.take_succ_eq_append_getElem (by rw [beN_length]; exact hk)]
  simp [beN]
/-- The number that bytes are. -/
def numB (l : List UInt8) : Nat := l.foldl (fun a x => a * 256 + x.toNat) 0
theorem numB_snoc (l : List UInt8) (x : UInt8) : numB (l ++ [x]) = numB l * 256 + x.toNat := by unfold numB; rw [List.foldl_append]; rfl
theorem numB_aux (l : List UInt8) : ∀ a : Nat, l.foldl (fun a x => a * 256 + x.toNat) a < (a + 1) * 256 ^ l.length := by
  induction l with
  | nil => intro a; simp
  | cons x l ih =>
    intro a
    rw [List.foldl_cons, List.length_cons]
    refine Nat.lt_of_lt_of_le (ih _) ?_
    have hx := x.toNat_lt
    rw [Nat.pow_succ, Nat.mul_comm (256 ^ l.length) 256, ← Nat.mul_assoc]
    exact Nat.mul_le_mul_right _ (by omega)
theorem numB_lt (l : List UInt8) : numB l < 256 ^ l.length := by
  have := numB_aux l 0
  unfold numB
  omega
theorem numB_take (l : List UInt8) (k : Nat) (hk : k < l.length) : numB (l.take (k + 1)) = numB (l.take k) * 256 + (gb l k).toNat := by
  rw [List.take_succ_eq_append_getElem hk, numB_snoc, gb_eq l k hk]
theorem numB_take_lt (l : List UInt8) (k : Nat) : numB (l.take k) < 256 ^ k := Nat.lt_of_lt_of_le (numB_lt _) (Nat.pow_le_pow_right (by decide) (by rw [List.length_take]; omega))
theorem num_be_aux (s n : Nat) : ∀ a, (beN s n).foldl (fun a x => a * 256 + x.toNat) a = a * 256 ^ s + n % 256 ^ s := by
  induction s with
  | zero => intro a; simp [beN, Nat.mod_one]
  | succ s ih =>
    intro a
    rw [beN_succ, List.foldl_cons, ih]
    have e : (UInt8.ofNat (n / 256 ^ s)).toNat = n / 256 ^ s % 256 := by simp
    rw [e, Nat.pow_succ, Nat.mod_mul]
    rw [Nat.add_mul, Nat.mul_assoc, Nat.mul_comm 256 (256 ^ s), Nat.mul_comm (n / 256 ^ s % 256)]
    omega
theorem num_be (s n : Nat) : numB (beN s n) = n % 256 ^ s := by
  have := num_be_aux s n 0
  unfold numB
  rw [this]; simp
end Go.Proofs.Ytnnkfopopanfjaa

/- The sum of 32 bits: by a table, byte by byte, and by definition, bit by bit: one and the same. No condition. -/
set_option linter.unusedVariables false
namespace Go.Proofs.Ytnnkfopopanfjaa

/-- One step of the division. -/
def cF (r : BitVec 32) : BitVec 32 := (r <<< 1) ^^^ (if r.msb then 0x04C11DB7#32 else 0#32)
def cIt : Nat → BitVec 32 → BitVec 32
  | 0, r => r
  | n + 1, r => cIt n (cF r)
def cBit (b : Bool) : BitVec 32 := if b then 1#32 else 0#32
def cTop (b : Bool) : BitVec 32 := if b then 0x04C11DB7#32 else 0#32
/-- A bit more, behind the others; a bit more, ahead of the register. -/
def cG (r : BitVec 32) (b : Bool) : BitVec 32 := cF r ^^^ cBit b
def cD (r : BitVec 32) (b : Bool) : BitVec 32 := cF r ^^^ cTop b
theorem xor4 (a b c d : BitVec 32) : (a ^^^ b) ^^^ (c ^^^ d) = (a ^^^ c) ^^^ (b ^^^ d) := by ac_rfl
theorem cF_xor (a b : BitVec 32) : cF (a ^^^ b) = cF a ^^^ cF b := by
  unfold cF
  rw [BitVec.shiftLeft_xor_distrib, BitVec.msb_xor, xor4]
  cases a.msb <;> cases b.msb <;> simp
theorem cF_zero : cF 0#32 = 0#32 := by decide
theorem cIt_xor (n : Nat) : ∀ a b, cIt n (a ^^^ b) = cIt n a ^^^ cIt n b := by
  induction n with
  | zero => intro a b; rfl
  | succ n ih => intro a b; simp only [cIt]; rw [cF_xor, ih]
theorem cIt_zero (n : Nat) : cIt n 0#32 = 0#32 := by
  induction n with
  | zero => rfl
  | succ n ih => simp only [cIt]; rw [cF_zero, ih]
theorem cIt_F (n : Nat) : ∀ r, cIt n (cF r) = cF (cIt n r) := by
  induction n with
  | zero => intro r; rfl
  | succ n ih => intro r; simp only [cIt]; rw [ih]
theorem cIt_bit (b : Bool) : cIt 32 (cBit b) = cTop b := by cases b <;> decide +kernel
theorem cIt_top (b : Bool) : cIt 31 (cF (cBit b)) = cTop b := by cases b <;> decide +kernel
/-- The bits behind a register, and ahead of it. -/
theorem behind (l : List Bool) : ∀ r, cIt 32 (l.foldl cG r) = l.foldl cD (cIt 32 r) := by
  induction l with
  | nil => intro r; rfl
  | cons b l ih =>
    intro r
    rw [List.foldl_cons, List.foldl_cons, ih]
    congr 1
    unfold cG cD
    rw [cIt_xor, cIt_bit, cIt_F]
theorem foldD_xor (l : List Bool) : ∀ a b, l.foldl cD (a ^^^ b) = cIt l.length a ^^^ l.foldl cD b := by
  induction l with
  | nil => intro a b; rfl
  | cons x l ih =>
    intro a b
    rw [List.foldl_cons, List.foldl_cons, List.length_cons]
    have : cD (a ^^^ b) x = cF a ^^^ cD b x := by unfold cD; rw [cF_xor, BitVec.xor_assoc]
    rw [this, ih]; rfl
theorem foldG_zero (n : Nat) : ∀ r, (List.replicate n false).foldl cG r = cIt n r := by
  induction n with
  | zero => intro r; rfl
  | succ n ih =>
    intro r
    rw [List.replicate_succ, List.foldl_cons, ih]
    show cIt n (cG r false) = cIt n (cF r)
    unfold cG cBit; simp
theorem foldG_xor (s : List Bool) : ∀ (t : List Bool) a b, s.length = t.length → (List.zipWith (· ^^ ·) s t).foldl cG (a ^^^ b) = s.foldl cG a ^^^ t.foldl cG b := by
  induction s with
  | nil => intro t a b h; cases t with
    | nil => rfl
    | cons y t => simp at h
  | cons x s ih =>
    intro t a b h
    cases t with
    | nil => simp at h
    | cons y t =>
      rw [List.zipWith_cons_cons, List.foldl_cons, List.foldl_cons, List.foldl_cons]
      have e : cG (a ^^^ b) (x ^^ y) = cG a x ^^^ cG b y := by
        unfold cG cBit
        rw [cF_xor, xor4 (cF a)]
        cases x <;> cases y <;> simp
      rw [e, ih _ _ _ (by simpa using h)]
theorem ones32 : (List.replicate 32 true).foldl cG 0#32 = BitVec.allOnes 32 := by decide +kernel
/-- The stream that is divided: all bits, with 32 noughts behind them, the first 32 turned. -/
def cStream (M : List Bool) : List Bool := List.zipWith (· ^^ ·) (M ++ List.replicate 32 false) (List.replicate 32 true ++ List.replicate M.length false)
theorem stream_sum (M : List Bool) : (cStream M).foldl cG 0#32 = M.foldl cD (BitVec.allOnes 32) := by
  unfold cStream
  have h := foldG_xor (M ++ List.replicate 32 false) (List.replicate 32 true ++ List.replicate M.length false) 0#32 0#32 (by rw [List.length_append, List.length_append, List.length_replicate, List.length_replicate, List.length_replicate]; omega)
  rw [BitVec.xor_zero] at h
  rw [h, List.foldl_append, foldG_zero, behind, cIt_zero, List.foldl_append, foldG_zero, ones32]
  have h2 := foldD_xor M (BitVec.allOnes 32) 0#32
  rw [BitVec.xor_zero] at h2
  rw [h2, BitVec.xor_comm]
/-- The bits of a byte, the highest first. -/
def bitsB (x : UInt8) : List Bool := (List.range 8).map fun i => x.toNat.testBit (7 - i)
def cTab (x : BitVec 32) : BitVec 32 := cIt 8 (x <<< 24)
theorem cTab_xor (a b : BitVec 32) : cTab (a ^^^ b) = cTab a ^^^ cTab b := by unfold cTab; rw [BitVec.shiftLeft_xor_distrib, cIt_xor]
theorem fold_byte0 : ∀ x : Fin 256, (bitsB (UInt8.ofNat x.val)).foldl cD 0#32 = cTab (BitVec.ofNat 32 x.val) := by decide +kernel
theorem fold_byte (x : UInt8) : (bitsB x).foldl cD 0#32 = cTab (BitVec.ofNat 32 x.toNat) := by
  have h := fold_byte0 ⟨x.toNat, x.toNat_lt⟩
  simpa using h
theorem cF_low (r : BitVec 32) (h : r.toNat < 2147483648) : cF r = r <<< 1 := by
  have : r.msb = false := by rw [BitVec.msb_eq_decide]; simp; omega
  unfold cF
  rw [this]; simp
theorem cIt_low (j : Nat) : ∀ (r : BitVec 32), j ≤ 31 → r.toNat < 2 ^ (32 - j) → cIt j r = r <<< j := by
  induction j with
  | zero => intro r _ _; simp [cIt]
  | succ j ih =>
    intro r hj h
    have h1 : r.toNat * 2 < 2 ^ (32 - j) := by
      have : 2 ^ (32 - j) = 2 ^ (32 - (j + 1)) * 2 := by rw [← Nat.pow_succ]; congr 1; omega
      omega
    have hle : 2 ^ (32 - j) ≤ 2 ^ 32 := Nat.pow_le_pow_right (by decide) (by omega)
    have h2 : r.toNat < 2147483648 := by omega
    simp only [cIt]
    rw [cF_low r h2, ih _ (by omega) (by
      rw [BitVec.toNat_shiftLeft, Nat.shiftLeft_eq]
      have : r.toNat * 2 ^ 1 % 2 ^ 32 = r.toNat * 2 := by rw [Nat.mod_eq_of_lt] <;> omega
      omega), ← BitVec.shiftLeft_add]
    congr 1; omega
theorem split24 (r : BitVec 32) : r = (r &&& 0xFFFFFF#32) ^^^ ((r >>> 24) <<< 24) := by
  apply BitVec.eq_of_getLsbD_eq
  intro i hi
  simp only [BitVec.getLsbD_xor, BitVec.getLsbD_and, BitVec.getLsbD_shiftLeft, BitVec.getLsbD_ushiftRight]
  by_cases h : i < 24
  · have : (0xFFFFFF#32).getLsbD i = true := by
      have : ∀ k : Fin 24, (0xFFFFFF#32).getLsbD k.val = true := by decide
      exact this ⟨i, h⟩
    rw [this, Bool.and_true]
    simp [h]
  · have : (0xFFFFFF#32).getLsbD i = false := by
      have : ∀ k : Fin 32, 24 ≤ k.val → (0xFFFFFF#32).getLsbD k.val = false := by decide
      exact this ⟨i, hi⟩ (by simpa using h)
    have e : 24 + (i - 24) = i := by omega
    rw [this, Bool.and_false]
    simp [h, hi, e]
theorem cIt8 (r : BitVec 32) : cIt 8 r = (r <<< 8) ^^^ cTab (r >>> 24) := by
  have h1 : cIt 8 (r &&& 0xFFFFFF#32) = (r &&& 0xFFFFFF#32) <<< 8 := cIt_low 8 _ (by decide) (by
    rw [BitVec.toNat_and]
    exact Nat.lt_of_le_of_lt Nat.and_le_right (by decide))
  have h2 : (r &&& 0xFFFFFF#32) <<< 8 = r <<< 8 := by
    apply BitVec.eq_of_getLsbD_eq
    intro i hi
    simp only [BitVec.getLsbD_shiftLeft, BitVec.getLsbD_and]
    by_cases h : i < 8
    · simp [h]
    · have : (0xFFFFFF#32).getLsbD (i - 8) = true := by
        have : ∀ k : Fin 24, (0xFFFFFF#32).getLsbD k.val = true := by decide
        exact this ⟨i - 8, by omega⟩
      simp [h, this]
  have h3 : cIt 8 r = cIt 8 (r &&& 0xFFFFFF#32) ^^^ cIt 8 ((r >>> 24) <<< 24) := by rw [← cIt_xor, ← split24]
  rw [h3, h1, h2]; rfl
/-- A byte more, by the table. -/
def cByte (r : BitVec 32) (x : UInt8) : BitVec 32 := (r <<< 8) ^^^ cTab ((r >>> 24) ^^^ BitVec.ofNat 32 x.toNat)
theorem byte_bits (r : BitVec 32) (x : UInt8) : (bitsB x).foldl cD r = cByte r x := by
  have h := foldD_xor (bitsB x) r 0#32
  rw [BitVec.xor_zero] at h
  rw [h, fold_byte]
  have : (bitsB x).length = 8 := by simp [bitsB]
  rw [this, cIt8]
  unfold cByte
  rw [cTab_xor, BitVec.xor_assoc]
def bitsL (l : List UInt8) : List Bool := l.flatMap bitsB
theorem bitsL_length (l : List UInt8) : (bitsL l).length = 8 * l.length := by
  induction l with
  | nil => rfl
  | cons x l ih => unfold bitsL at *; rw [List.flatMap_cons, List.length_append, ih, List.length_cons]; simp [bitsB]; omega
theorem bytes_bits (l : List UInt8) : ∀ r, (bitsL l).foldl cD r = l.foldl cByte r := by
  induction l with
  | nil => intro r; rfl
  | cons x l ih =>
    intro r
    unfold bitsL at *
    rw [List.flatMap_cons, List.foldl_append, byte_bits, List.foldl_cons, ih]
/-- The sum's register, its bits not turned. -/
def crcR (l : List UInt8) : BitVec 32 := l.foldl cByte (BitVec.allOnes 32)
theorem crc_one (l : List UInt8) : (cStream (bitsL l)).foldl cG 0#32 = crcR l := by rw [stream_sum, bytes_bits]; rfl
/-- The sum. -/
def crcN (l : List UInt8) : BitVec 32 := ~~~ crcR l
/-- The division in natural numbers. -/
theorem cG_nat (r : BitVec 32) (b : Bool) : (cG r b).toNat = (if 4294967296 ≤ r.toNat * 2 + b.toNat then (r.toNat * 2 + b.toNat) ^^^ 4374732215 else r.toNat * 2 + b.toNat) := by
  have hr := r.isLt
  have hb : b.toNat < 2 := by cases b <;> decide
  have hs : (r <<< 1).toNat = r.toNat * 2 % 4294967296 := by rw [BitVec.toNat_shiftLeft, Nat.shiftLeft_eq]
  have hbit : (cBit b).toNat = b.toNat := by cases b <;> rfl
  have hlow : ∀ n : Nat, n % 2 = 0 → n ^^^ b.toNat = n + b.toNat := by
    intro n hn
    obtain ⟨k, rfl⟩ : ∃ k, n = 2 * k := ⟨n / 2, by omega⟩
    have h := Nat.two_pow_add_eq_or_of_lt (i := 1) (b := b.toNat) hb k
    apply Nat.eq_of_testBit_eq
    intro i
    rw [show 2 * k + b.toNat = 2 ^ 1 * k + b.toNat from rfl, h, Nat.testBit_xor, Nat.testBit_or]
    by_cases hi : i = 0
    · subst hi
      have : (2 ^ 1 * k).testBit 0 = false := by simp
      have : (2 * k).testBit 0 = false := by simp
      simp [*]
    · have : b.toNat.testBit i = false := Nat.testBit_lt_two_pow (Nat.lt_of_lt_of_le hb (by
        calc 2 = 2 ^ 1 := rfl
          _ ≤ 2 ^ i := Nat.pow_le_pow_right (by decide) (by omega)))
      simp [this]
  unfold cG cF
  rw [BitVec.toNat_xor, BitVec.toNat_xor, hs, hbit]
  by_cases hm : r.msb = true
  · rw [BitVec.msb_eq_decide] at hm
    have hm2 : 2147483648 ≤ r.toNat := by simpa using hm
    have hmsb : r.msb = true := by rw [BitVec.msb_eq_decide]; simpa using hm2
    rw [hmsb, if_pos rfl, if_pos (by omega)]
    have e : r.toNat * 2 + b.toNat = 4294967296 + (r.toNat * 2 % 4294967296 + b.toNat) := by omega
    generalize hn : r.toNat * 2 % 4294967296 = n at *
    have hn2 : n % 2 = 0 := by omega
    have hlt : n + b.toNat < 4294967296 := by omega
    rw [e, ← hlow n hn2]
    have hlt' : n ^^^ b.toNat < 4294967296 := by rw [hlow n hn2]; exact hlt
    rw [Nat.xor_assoc, Nat.xor_comm (0x04C11DB7#32).toNat, ← Nat.xor_assoc]
    generalize n ^^^ b.toNat = m at *
    have h1 : 4294967296 + m = 2 ^ 32 ||| m := by
      have := Nat.two_pow_add_eq_or_of_lt (i := 32) (b := m) hlt' 1
      simpa using this
    apply Nat.eq_of_testBit_eq
    intro i
    rw [h1, Nat.testBit_xor, Nat.testBit_xor, Nat.testBit_or]
    have h2 : (4374732215 : Nat) = 2 ^ 32 ||| 79764919 := by decide
    rw [h2, Nat.testBit_or]
    have h3 : (0x04C11DB7#32).toNat = 79764919 := rfl
    rw [h3]
    by_cases hi : i = 32
    · subst hi
      have a1 : m.testBit 32 = false := Nat.testBit_lt_two_pow hlt'
      have a2 : (79764919 : Nat).testBit 32 = false := by decide
      have a3 : (2 ^ 32).testBit 32 = true := by decide
      simp [a1, a2]
    · have a3 : (2 ^ 32).testBit i = false := by
        rw [Nat.testBit_two_pow]; simp; omega
      simp [a3]
  · have hm' : r.msb = false := by simpa using hm
    rw [hm']
    rw [BitVec.msb_eq_decide] at hm'
    have hm2 : r.toNat < 2147483648 := by simpa using hm'
    rw [if_neg (by decide), if_neg (by omega)]
    have e : r.toNat * 2 % 4294967296 = r.toNat * 2 := Nat.mod_eq_of_lt (by omega)
    rw [e]
    show r.toNat * 2 ^^^ (0#32).toNat ^^^ b.toNat = _
    rw [show (0#32).toNat = 0 from rfl, Nat.xor_zero, hlow _ (by omega)]
end Go.Proofs.Ytnnkfopopanfjaa

/- A region that draws its order, shown operation by operation: each operation once, in any world that keeps what was there. No condition. -/
set_option linter.unusedVariables false
namespace Go.Proofs.Ytnnkfopopanfjaa
open Go

/-- An operation's own slot. -/
def rdst (ops : Array Oper) (j : Nat) : Option Tmp := (ops[j]?).bind (·.dst)
/-- What slots hold. -/
def rvals (V : Tmp → Value) (l : List Tmp) : List Value := l.map V
/-- The frame in which some operations' slots are filled. -/
def rframe (ops : Array Oper) (V : Tmp → Value) (a : Act) (l : List Nat) : Act := l.foldl (fun a j => match rdst ops j with | some t => a.put (some t) (V t) | none => a) a
/-- Of each operation: which others come ahead of it, and which slots its post looks at. -/
abbrev RTab := List (List Nat × List Tmp)
def RTab.deps (tab : RTab) (i : Nat) : List Nat := (tab.getD i ([], [])).1
def RTab.slots (tab : RTab) (i : Nat) : List Tmp := (tab.getD i ([], [])).2

def tabRow (ops : Array Oper) (size : Nat) (late : Nat → Bool) (tab : RTab) (i : Nat) (o : Oper) : Bool :=
  (match o.op with | .select .. => false | .defer _ => false | .go _ => false | _ => true) &&
  (o.after.all (fun e => !Region.binds .any e || decide (e.on < i))) &&
  ((tab.deps i).all (fun j => decide (j < i) && o.after.any (fun e => Region.binds .any e && (e.on == j || (tab.deps e.on).contains j)))) &&
  (o.op.operands.toList.all (fun x => match x with | .tmp t => (List.range ops.size).all (fun j => rdst ops j != some t || (tab.deps i).contains j || (tab.deps j).contains i) | _ => true)) &&
  (match o.guard with | none => true | some (g, _) => (tab.deps i).contains g) &&
  ((tab.slots i).all (fun t => (o.dst == some t) || (tab.deps i).any (fun j => rdst ops j == some t))) &&
  (match o.dst with | none => true | some d => decide (d < size) && (List.range ops.size).all (fun j => j == i || rdst ops j != some d)) &&
  (!late i || (List.range ops.size).all (fun j => late j || (tab.deps i).contains j))
/-- The table is right. -/
def tabOk (ops : Array Oper) (size : Nat) (late : Nat → Bool) (tab : RTab) : Bool :=
  (List.range ops.size).all fun i => match ops[i]? with | none => false | some o => tabRow ops size late tab i o

structure TabRow (ops : Array Oper) (size : Nat) (late : Nat → Bool) (tab : RTab) (i : Nat) (o : Oper) : Prop where
  sel : ∀ cs b, o.op ≠ .select cs b
  def_ : ∀ c, o.op ≠ .defer c
  up : ∀ e ∈ o.after, Region.binds .any e = true → e.on < i
  deps : ∀ j ∈ tab.deps i, j < i ∧ ∃ e ∈ o.after, Region.binds .any e = true ∧ (e.on = j ∨ j ∈ tab.deps e.on)
  args : ∀ t, Operand.tmp t ∈ o.op.operands → ∀ j, j < ops.size → rdst ops j = some t → j ∈ tab.deps i ∨ i ∈ tab.deps j
  guard : ∀ g b, o.guard = some (g, b) → g ∈ tab.deps i
  slots : ∀ t ∈ tab.slots i, o.dst = some t ∨ ∃ j ∈ tab.deps i, rdst ops j = some t
  dst : ∀ d, o.dst = some d → d < size ∧ ∀ j, j < ops.size → j ≠ i → rdst ops j ≠ some d
  late : late i = true → ∀ j, j < ops.size → late j = false → j ∈ tab.deps i

theorem tabOk_row {ops : Array Oper} {size : Nat} {late : Nat → Bool} {tab : RTab} (h : tabOk ops size late tab = true) {i : Nat} {o : Oper} (ho : ops[i]? = some o) : TabRow ops size late tab i o := by
  have hlt : i < ops.size := (Array.getElem?_eq_some_iff.1 ho).1
  have h1 := List.all_eq_true.1 h i (List.mem_range.2 hlt)
  simp only [ho] at h1
  unfold tabRow at h1
  simp only [Bool.and_eq_true] at h1
  obtain ⟨⟨⟨⟨⟨⟨⟨a1, a2⟩, a3⟩, a4⟩, a5⟩, a6⟩, a7⟩, a8⟩ := h1
  refine ⟨?_, ?_, ?_, ?_, ?_, ?_, ?_, ?_, ?_⟩
  · intro cs b e; rw [e] at a1; cases a1
  · intro c e; rw [e] at a1; cases a1
  · intro e he hb
    have := Array.all_eq_true_iff_forall_mem.1 a2 e he
    simpa [hb] using this
  · intro j hj
    have h2 := List.all_eq_true.1 a3 j hj
    simp only [Bool.and_eq_true, decide_eq_true_eq] at h2
    refine ⟨h2.1, ?_⟩
    obtain ⟨e, he, hb⟩ := Array.any_eq_true'.1 h2.2
    simp only [Bool.and_eq_true, Bool.or_eq_true, beq_iff_eq, List.contains_iff_mem] at hb
    exact ⟨e, he, hb.1, hb.2⟩
  · intro t ht j hj hd
    have h2 := List.all_eq_true.1 a4 _ (Array.mem_toList_iff.2 ht)
    have h3 := List.all_eq_true.1 h2 j (List.mem_range.2 hj)
    simpa [hd] using h3
  · intro g b hg
    rw [hg] at a5
    simpa using a5
  · intro t ht
    have h2 := List.all_eq_true.1 a6 t ht
    simp only [Bool.or_eq_true, beq_iff_eq, List.any_eq_true] at h2
    rcases h2 with h2 | ⟨j, hj, h2⟩
    · exact .inl h2
    · exact .inr ⟨j, hj, h2⟩
  · intro d hd
    rw [hd] at a7
    simp only [Bool.and_eq_true, decide_eq_true_eq] at a7
    refine ⟨a7.1, fun j hj hne he => ?_⟩
    have h3 := List.all_eq_true.1 a7.2 j (List.mem_range.2 hj)
    simp [hne, he] at h3
  · intro hl j hj hlj
    simp only [hl, Bool.not_true, Bool.false_or, List.all_eq_true, List.mem_range, Bool.or_eq_true, List.contains_iff_mem] at a8
    rcases a8 j hj with h | h
    · rw [hlj] at h; cases h
    · exact h

section frame
variable {ops : Array Oper} {V : Tmp → Value}
theorem rframe_size (l : List Nat) : ∀ (a : Act), (rframe ops V a l).tmps.size = a.tmps.size := by
  induction l with
  | nil => intro a; rfl
  | cons j l ih =>
    intro a
    show (rframe ops V (match rdst ops j with | some t => a.put (some t) (V t) | none => a) l).tmps.size = _
    rw [ih]
    cases rdst ops j with
    | none => rfl
    | some t => simp [Act.put]
theorem rframe_defers (l : List Nat) : ∀ (a : Act), (rframe ops V a l).defers = a.defers := by
  induction l with
  | nil => intro a; rfl
  | cons j l ih =>
    intro a
    show (rframe ops V (match rdst ops j with | some t => a.put (some t) (V t) | none => a) l).defers = _
    rw [ih]
    cases rdst ops j with
    | none => rfl
    | some t => simp [Act.put]
theorem put_getD (a : Act) (d : Tmp) (v : Value) (t : Tmp) (h : d < a.tmps.size) : (a.put (some d) v).tmps.getD t undef = if d = t then v else a.tmps.getD t undef := by
  simp only [Act.put]
  by_cases e : d = t
  · subst e
    rw [if_pos rfl]
    simp [h]
  · rw [if_neg e]
    simp [Array.getElem?_setIfInBounds_ne e]
theorem rframe_off (l : List Nat) : ∀ (a : Act) (t : Tmp), (∀ j ∈ l, rdst ops j ≠ some t) → (rframe ops V a l).tmps.getD t undef = a.tmps.getD t undef := by
  induction l with
  | nil => intro a t _; rfl
  | cons j l ih =>
    intro a t h
    show (rframe ops V (match rdst ops j with | some t => a.put (some t) (V t) | none => a) l).tmps.getD t undef = _
    rw [ih _ t (fun k hk => h k (List.mem_cons_of_mem _ hk))]
    have hj := h j (List.mem_cons_self ..)
    cases hd : rdst ops j with
    | none => rfl
    | some d =>
      have hne : d ≠ t := fun e => hj (by rw [hd, e])
      simp [Act.put, Array.getElem?_setIfInBounds_ne hne]
theorem rframe_on (l : List Nat) : ∀ (a : Act) (t : Tmp), t < a.tmps.size → (∃ j ∈ l, rdst ops j = some t) → (rframe ops V a l).tmps.getD t undef = V t := by
  induction l with
  | nil => rintro a t _ ⟨j, hj, _⟩; cases hj
  | cons j l ih =>
    intro a t hs h
    show (rframe ops V (match rdst ops j with | some t => a.put (some t) (V t) | none => a) l).tmps.getD t undef = _
    by_cases hl : ∃ k ∈ l, rdst ops k = some t
    · refine ih _ t ?_ hl
      cases rdst ops j with
      | none => exact hs
      | some d => simpa [Act.put] using hs
    · rw [rframe_off l _ t (fun k hk e => hl ⟨k, hk, e⟩)]
      obtain ⟨k, hk, hd⟩ := h
      rcases List.mem_cons.1 hk with rfl | hk
      · rw [hd]
        show (a.put (some t) (V t)).tmps.getD t undef = _
        rw [put_getD _ _ _ _ hs, if_pos rfl]
      · exact absurd ⟨k, hk, hd⟩ hl
end frame

/-- The operation from a frame that shows its arguments: whatever it yields meets R. -/
def ROp (P : Program) (ops : Array Oper) (o : Oper) (b : Act) (w : World) (R : Value → World → Prop) : Prop :=
  ∀ K : Act → World → Prop, (∀ v w', R v w' → K (b.put o.dst v) w') → if Region.wanted o (yielded ops b.tmps) = true then Oper.wp P o b w K (fun _ _ _ => False) else K (b.put o.dst undef) w

def rview (a : Act) : Tmp → Value := fun t => a.tmps.getD t undef
def rupd (V : Tmp → Value) (d : Option Tmp) (v : Value) : Tmp → Value := fun t => if d = some t then v else V t

theorem put_inj {a b : Act} {d : Option Tmp} {v v' : Value} (hd : ∀ t, d = some t → t < b.tmps.size) (h : b.put d v = b.put d v') : a.put d v = a.put d v' := by
  cases d with
  | none => rfl
  | some t =>
    have h1 := put_getD b t v t (hd t rfl)
    have h2 := put_getD b t v' t (hd t rfl)
    rw [h] at h1
    rw [if_pos rfl] at h1 h2
    rw [h1.symm.trans h2]

theorem rop_move {P : Program} {ops : Array Oper} {o : Oper} {a b : Act} {w : World} {R : Value → World → Prop} {Q : Exit → Act → World → Prop}
    (hd : ∀ t, o.dst = some t → t < b.tmps.size) (he : execOp a.eval o = execOp b.eval o) (hw : Region.wanted o (yielded ops a.tmps) = Region.wanted o (yielded ops b.tmps)) (h : ROp P ops o b w R) :
    if Region.wanted o (yielded ops a.tmps) = true then Oper.wp P o a w (fun x w' => ∃ v, x = a.put o.dst v ∧ R v w') Q else ∃ v, a.put o.dst undef = a.put o.dst v ∧ R v w := by
  have h1 := h (fun x w' => ∃ v, x = b.put o.dst v ∧ R v w') (fun v w' hr => ⟨v, rfl, hr⟩)
  rw [hw]
  by_cases hwd : Region.wanted o (yielded ops b.tmps) = true
  · rw [if_pos hwd] at h1 ⊢
    unfold Oper.wp at h1 ⊢
    rw [he]
    generalize (execOp b.eval o).run P w = r at *
    cases r with
    | ok n w' =>
      cases n <;> simp only [Oper.upon] at h1 ⊢
      case value v => obtain ⟨v', e, hr⟩ := h1; exact ⟨v', put_inj hd e, hr⟩
      case skip => obtain ⟨v', e, hr⟩ := h1; exact ⟨v', put_inj hd e, hr⟩
      case defer d =>
        obtain ⟨v', e, hr⟩ := h1
        have := congrArg (fun x : Act => x.defers.length) e
        exfalso
        cases ho : o.dst <;> simp [Act.put, ho] at this
      case enter f args =>
        refine Calls.mono h1 fun e w'' hx => ?_
        cases e with
        | returned v => obtain ⟨v', e, hr⟩ := hx; exact ⟨v', put_inj hd e, hr⟩
        | panicked c => exact hx.elim
        | outgrown => obtain ⟨_, _, hx⟩ := hx; exact hx.elim
      case row row args => exact Rows.mono h1 fun u w'' hx => by obtain ⟨v', e, hr⟩ := hx; exact ⟨v', put_inj hd e, hr⟩
    | halt x w' =>
      cases x <;> simp only [Oper.upon] at h1
  · rw [if_neg hwd] at h1 ⊢
    obtain ⟨v', e, hr⟩ := h1
    exact ⟨v', put_inj hd e, hr⟩

/-- What holds while the region is under way. -/
structure RegInv (ops : Array Oper) (tab : RTab) (E : World → World → Prop) (post : Nat → List Value → World → Prop) (a0 : Act) (w1 : World) (listed : Array Bool) (a : Act) (w : World) : Prop where
  defers : a.defers = a0.defers
  size : a.tmps.size = a0.tmps.size
  lsize : listed.size = ops.size
  same : ∀ t, (∀ j, listed.getD j false = true → rdst ops j ≠ some t) → a.tmps.getD t undef = a0.tmps.getD t undef
  base : E w1 w
  done : ∀ j, listed.getD j false = true → ∃ u, E w1 u ∧ E u w ∧ post j (rvals (rview a) (tab.slots j)) u
  closed : ∀ i o, listed.getD i false = true → ops[i]? = some o → ∀ e ∈ o.after, Region.binds .any e = true → listed.getD e.on false = true

section main
variable {P : Program} {ops : Array Oper} {Q : Exit → Act → World → Prop} {late : Nat → Bool} {tab : RTab} {E : World → World → Prop} {post : Nat → List Value → World → Prop} {a0 : Act} {w1 : World}

theorem deps_listed {size : Nat} (htab : tabOk ops size late tab = true) {listed : Array Bool} (hc : ∀ i o, listed.getD i false = true → ops[i]? = some o → ∀ e ∈ o.after, Region.binds .any e = true → listed.getD e.on false = true) :
    ∀ (i : Nat) (o : Oper), ops[i]? = some o → (∀ e ∈ o.after, Region.binds .any e = true → listed.getD e.on false = true) → ∀ j ∈ tab.deps i, listed.getD j false = true := by
  intro i
  induction i using Nat.strongRecOn with
  | ind i ih =>
    intro o ho hall j hj
    have hrow := tabOk_row htab ho
    obtain ⟨_, e, he, hb, h⟩ := hrow.deps j hj
    rcases h with h | h
    · rw [← h]; exact hall e he hb
    · have hlt := hrow.up e he hb
      have hl := hall e he hb
      obtain ⟨o', ho'⟩ : ∃ o', ops[e.on]? = some o' := by
        have : e.on < ops.size := Nat.lt_trans hlt (Array.getElem?_eq_some_iff.1 ho).1
        exact ⟨_, Array.getElem?_eq_getElem this⟩
      exact ih e.on hlt o' ho' (hc e.on o' hl ho') j h

theorem getD_true_lt {listed : Array Bool} {j : Nat} (h : listed.getD j false = true) : j < listed.size := by
  rcases Nat.lt_or_ge j listed.size with h' | h'
  · exact h'
  · simp [Array.getElem?_eq_none h'] at h
theorem getD_false_iff {listed : Array Bool} {j : Nat} (h : j < listed.size) : listed.getD j true = false ↔ ¬ listed.getD j false = true := by
  simp [h]
theorem getD_set_iff {listed : Array Bool} {i j : Nat} (h : i < listed.size) : (listed.setIfInBounds i true).getD j false = true ↔ (j = i ∨ listed.getD j false = true) := by
  by_cases e : i = j
  · subst e; simp [h]
  · rw [getD_set_ne false e]
    constructor
    · exact .inr
    · rintro (h1 | h1)
      · exact absurd h1.symm e
      · exact h1

/-- How many are still to come. -/
def unl (ops : Array Oper) (listed : Array Bool) : Nat := (List.range ops.size).countP (fun j => !listed.getD j false)
theorem countP_drop (p q : Nat → Bool) (i : Nat) : ∀ (l : List Nat), l.Nodup → i ∈ l → (∀ j, j ≠ i → p j = q j) → p i = true → q i = false → l.countP p = l.countP q + 1 := by
  intro l
  induction l with
  | nil => intro _ h; cases h
  | cons x l ih =>
    intro hn hi hpq hp hq
    have hn' := List.nodup_cons.1 hn
    rw [List.countP_cons, List.countP_cons]
    rcases List.mem_cons.1 hi with rfl | hi
    · have : l.countP p = l.countP q := by
        apply List.countP_congr
        intro j hj
        have : j ≠ i := fun e => hn'.1 (e ▸ hj)
        rw [hpq j this]
      rw [this, hp, hq]; simp
    · have hne : x ≠ i := fun e => hn'.1 (e ▸ hi)
      rw [hpq x hne, ih hn'.2 hi hpq hp hq]
      omega
theorem unl_set {listed : Array Bool} {i : Nat} (hs : listed.size = ops.size) (hi : i < ops.size) (hu : listed.getD i true = false) : unl ops listed = unl ops (listed.setIfInBounds i true) + 1 := by
  refine countP_drop _ _ i _ List.nodup_range (List.mem_range.2 hi) ?_ ?_ ?_
  · intro j hj
    show (!listed.getD j false) = !(listed.setIfInBounds i true).getD j false
    rw [getD_set_ne false (Ne.symm hj)]
  · have := (getD_false_iff (by omega : i < listed.size)).1 hu
    simpa using this
  · have := (getD_set_iff (listed := listed) (j := i) (by omega : i < listed.size)).2 (.inl rfl)
    simp only [this, Bool.not_true]

theorem rinv_step {size : Nat} (htab : tabOk ops size late tab = true) (hsz : a0.tmps.size = size) (htrans : ∀ a b c, E a b → E b c → E a c) (hrefl : ∀ a, E a a) {listed : Array Bool} {a : Act} {w : World} (H : RegInv ops tab E post a0 w1 listed a w)
    {i : Nat} {o : Oper} (ho : ops[i]? = some o) (hr : i ∈ Region.ready .any ops listed)
    (hstep : ∀ (V : Tmp → Value) (w : World), E w1 w → (∀ j ∈ tab.deps i, ∃ u, E w1 u ∧ E u w ∧ post j (rvals V (tab.slots j)) u) → ROp P ops o (rframe ops V a0 (tab.deps i)) w (fun v w' => E w w' ∧ post i (rvals (rupd V o.dst v) (tab.slots i)) w'))
    {Kn : Act → World → Prop} (hK : ∀ a' w', RegInv ops tab E post a0 w1 (listed.setIfInBounds i true) a' w' → Kn a' w') : wpOp P ops Q i Kn a w := by
  obtain ⟨hun, o', ho', hall⟩ := mem_ready.1 hr
  obtain rfl : o' = o := by rw [ho] at ho'; exact (Option.some.inj ho').symm
  have hrow := tabOk_row htab ho
  have hlt : i < ops.size := (Array.getElem?_eq_some_iff.1 ho).1
  have hd0 := deps_listed htab H.closed i o' ho hall
  have hnl : ¬ listed.getD i false = true := (getD_false_iff (by rw [H.lsize]; exact hlt)).1 hun
  have hstep1 := hstep (rview a) w H.base (fun j hj => H.done j (hd0 j hj))
  have hdsz : ∀ t, o'.dst = some t → t < (rframe ops (rview a) a0 (tab.deps i)).tmps.size := fun t ht => by rw [rframe_size, hsz]; exact (hrow.dst t ht).1
  -- the frame shows what the operation looks at
  have hval : ∀ t, (∃ j, j < ops.size ∧ rdst ops j = some t ∧ j ∈ tab.deps i) ∨ ((∀ j, listed.getD j false = true → rdst ops j ≠ some t) ∧ ∀ j ∈ tab.deps i, rdst ops j ≠ some t) → a.tmps.getD t undef = (rframe ops (rview a) a0 (tab.deps i)).tmps.getD t undef := by
    rintro t (⟨j, hj, hd, hm⟩ | h)
    · have hts : t < a0.tmps.size := by
        obtain ⟨oj, hoj⟩ : ∃ oj, ops[j]? = some oj := ⟨_, Array.getElem?_eq_getElem hj⟩
        rw [hsz]
        exact ((tabOk_row htab hoj).dst t (by simpa [rdst, hoj] using hd)).1
      rw [rframe_on _ _ _ hts ⟨j, hm, hd⟩]; rfl
    · rw [rframe_off _ _ _ h.2, H.same t h.1]
  have heval : ∀ x ∈ o'.op.operands, a.eval x = (rframe ops (rview a) a0 (tab.deps i)).eval x := by
    intro x hx
    cases x with
    | tmp t =>
      show a.tmps.getD t undef = _
      refine hval t ?_
      by_cases hex : ∃ j ∈ tab.deps i, rdst ops j = some t
      · obtain ⟨j, hj, hd⟩ := hex
        have := (hrow.deps j hj).1
        exact .inl ⟨j, by omega, hd, hj⟩
      · refine .inr ⟨fun j hjl hd => ?_, fun j hj hd => hex ⟨j, hj, hd⟩⟩
        have hjs : j < ops.size := by rw [← H.lsize]; exact getD_true_lt hjl
        rcases hrow.args t hx j hjs hd with h1 | h1
        · exact hex ⟨j, h1, hd⟩
        · obtain ⟨oj, hoj⟩ : ∃ oj, ops[j]? = some oj := ⟨_, Array.getElem?_eq_getElem hjs⟩
          exact hnl (deps_listed htab H.closed j oj hoj (H.closed j oj hjl hoj) i h1)
    | _ => rfl
  have hexec := execOp_congr (ρ := a.eval) (ρ' := (rframe ops (rview a) a0 (tab.deps i)).eval) o' hrow.sel heval
  have hwant : Region.wanted o' (yielded ops a.tmps) = Region.wanted o' (yielded ops (rframe ops (rview a) a0 (tab.deps i)).tmps) := by
    unfold Region.wanted
    cases hg : o'.guard with
    | none => rfl
    | some gw =>
      obtain ⟨g, want⟩ := gw
      have hgd := hrow.guard g want hg
      have hgi := (hrow.deps g hgd).1
      have hy : yielded ops a.tmps g = yielded ops (rframe ops (rview a) a0 (tab.deps i)).tmps g := by
        unfold yielded
        cases ht : (ops[g]?).bind (·.dst) with
        | none => rfl
        | some t =>
          have h1 := hval t (.inl ⟨g, by omega, ht, hgd⟩)
          have hts : t < a0.tmps.size := by
            obtain ⟨oj, hoj⟩ : ∃ oj, ops[g]? = some oj := ⟨_, Array.getElem?_eq_getElem (by omega)⟩
            rw [hsz]
            exact ((tabOk_row htab hoj).dst t (by simpa [hoj] using ht)).1
          have h2 : t < a.tmps.size := by rw [H.size]; exact hts
          have h3 : t < (rframe ops (rview a) a0 (tab.deps i)).tmps.size := by rw [rframe_size]; exact hts
          simp only [Option.bind_some, Array.getElem?_eq_getElem h2, Array.getElem?_eq_getElem h3]
          simp only [Array.getD, h2, h3, dif_pos] at h1
          have h1' : a.tmps[t] = (rframe ops (rview a) a0 (tab.deps i)).tmps[t] := h1
          rw [h1']
      simp only [hy]
  have hmove := rop_move (Q := Q) hdsz hexec hwant hstep1
  have hlast : ∀ x w', (∃ v, x = a.put o'.dst v ∧ E w w' ∧ post i (rvals (rupd (rview a) o'.dst v) (tab.slots i)) w') → Kn x w' := by
    rintro x w' ⟨v, rfl, hE, hp⟩
    apply hK
    have hsets : ∀ j, (listed.setIfInBounds i true).getD j false = true ↔ (j = i ∨ listed.getD j false = true) := fun j => getD_set_iff (by rw [H.lsize]; exact hlt)
    have hput : ∀ t, rview (a.put o'.dst v) t = rupd (rview a) o'.dst v t := by
      intro t
      unfold rview rupd
      cases hd : o'.dst with
      | none => simp [Act.put]
      | some d =>
        rw [put_getD _ _ _ _ (by rw [H.size, hsz]; exact (hrow.dst d hd).1)]
        by_cases e : d = t
        · subst e; simp
        · rw [if_neg e, if_neg (fun h => e (Option.some.inj h))]
    refine ⟨?_, ?_, ?_, ?_, htrans _ _ _ H.base hE, ?_, ?_⟩
    · rw [← H.defers]; cases o'.dst <;> rfl
    · rw [← H.size]; cases o'.dst <;> simp [Act.put]
    · rw [Array.size_setIfInBounds]; exact H.lsize
    · intro t ht
      have h1 : a.tmps.getD t undef = a0.tmps.getD t undef := H.same t (fun j hj => ht j ((hsets j).2 (.inr hj)))
      have h2 : o'.dst ≠ some t := by
        have := ht i ((hsets i).2 (.inl rfl))
        simpa [rdst, ho] using this
      have h3 := hput t
      unfold rview rupd at h3
      rw [if_neg h2] at h3
      exact h3.trans h1
    · intro j hj
      rcases (hsets j).1 hj with rfl | hj
      · refine ⟨w', htrans _ _ _ H.base hE, hrefl _, ?_⟩
        have : rvals (rview (a.put o'.dst v)) (tab.slots j) = rvals (rupd (rview a) o'.dst v) (tab.slots j) := List.map_congr_left (fun t _ => hput t)
        rw [this]; exact hp
      · obtain ⟨u, hu1, hu2, hu3⟩ := H.done j hj
        refine ⟨u, hu1, htrans _ _ _ hu2 hE, ?_⟩
        have : rvals (rview (a.put o'.dst v)) (tab.slots j) = rvals (rview a) (tab.slots j) := List.map_congr_left (fun t ht => by
          rw [hput t]
          unfold rupd
          rw [if_neg]
          intro hdt
          have hjs : j < ops.size := by rw [← H.lsize]; exact getD_true_lt hj
          obtain ⟨oj, hoj⟩ : ∃ oj, ops[j]? = some oj := ⟨_, Array.getElem?_eq_getElem hjs⟩
          have hrj := tabOk_row htab hoj
          rcases hrj.slots t ht with h | ⟨k, hk, h⟩
          · have := (hrow.dst t hdt).2 j hjs (fun e => hnl (e ▸ hj))
            exact this (by simpa [rdst, hoj] using h)
          · have hkl := deps_listed htab H.closed j oj hoj (H.closed j oj hj hoj) k hk
            have hks : k < ops.size := by rw [← H.lsize]; exact getD_true_lt hkl
            exact (hrow.dst t hdt).2 k hks (fun e => hnl (e ▸ hkl)) h)
        rw [this]; exact hu3
    · intro k ok hk hok e he hb
      rcases (hsets k).1 hk with rfl | hk
      · rw [ho] at hok
        obtain rfl := Option.some.inj hok
        exact (hsets _).2 (.inr (hall e he hb))
      · exact (hsets _).2 (.inr (H.closed k ok hk hok e he hb))
  unfold wpOp
  simp only [ho]
  by_cases hwd : Region.wanted o' (yielded ops a.tmps) = true
  · rw [if_pos hwd] at hmove ⊢
    exact .inl (Oper.wp_mono (fun x w' h => hlast x w' (by obtain ⟨v, e, h1, h2⟩ := h; exact ⟨v, e, h1, h2⟩)) hmove)
  · rw [if_neg hwd] at hmove ⊢
    exact hlast _ _ (by obtain ⟨v, e, h1, h2⟩ := hmove; exact ⟨v, e, h1, h2⟩)

/-- All but the late ones. -/
def early (ops : Array Oper) (late : Nat → Bool) : List Nat := (List.range ops.size).filter (fun i => !late i)

theorem act_ext {a b : Act} (hd : a.defers = b.defers) (hs : a.tmps.size = b.tmps.size) (h : ∀ t, t < a.tmps.size → a.tmps.getD t undef = b.tmps.getD t undef) : a = b := by
  obtain ⟨ta, da⟩ := a
  obtain ⟨tb, db⟩ := b
  have : ta = tb := Array.ext hs (fun t h1 h2 => by
    have := h t h1
    simp only [Array.getD, h1, dif_pos] at this
    have h2' : t < tb.size := h2
    simp only [h2', dif_pos] at this
    exact this)
  subst this
  simp only at hd
  rw [hd]

theorem region_any {size : Nat} (htab : tabOk ops size late tab = true) (hsz : a0.tmps.size = size) (htrans : ∀ a b c, E a b → E b c → E a c) (hrefl : ∀ a, E a a)
    (hstep : ∀ i o, ops[i]? = some o → late i = false → ∀ (V : Tmp → Value) (w : World), E w1 w → (∀ j ∈ tab.deps i, ∃ u, E w1 u ∧ E u w ∧ post j (rvals V (tab.slots j)) u) → ROp P ops o (rframe ops V a0 (tab.deps i)) w (fun v w' => E w w' ∧ post i (rvals (rupd V o.dst v) (tab.slots i)) w'))
    (hfin : ∀ (V : Tmp → Value) (w : World), E w1 w → (∀ j ∈ early ops late, ∃ u, E w1 u ∧ E u w ∧ post j (rvals V (tab.slots j)) u) → wpAny P .any ops Q (unl ops ((List.range ops.size).map (fun i => !late i)).toArray) ((List.range ops.size).map (fun i => !late i)).toArray (rframe ops V a0 (early ops late)) w) :
    ∀ (fuel : Nat) (listed : Array Bool) (a : Act) (w : World), unl ops listed = fuel → (∀ i, listed.getD i false = true → late i = false) → RegInv ops tab E post a0 w1 listed a w → wpAny P .any ops Q fuel listed a w := by
  have hfin' : ∀ (listed : Array Bool) (a : Act) (w : World), (∀ i, listed.getD i false = true → late i = false) → (∀ i, i < ops.size → late i = false → listed.getD i false = true) → RegInv ops tab E post a0 w1 listed a w → wpAny P .any ops Q (unl ops listed) listed a w := by
    intro listed a w hl1 hl2 H
    have e1 : listed = ((List.range ops.size).map (fun i => !late i)).toArray := by
      refine Array.ext (by simp [H.lsize]) (fun i h1 h2 => ?_)
      have hi : i < ops.size := by rw [← H.lsize]; exact h1
      simp only [List.getElem_toArray, List.getElem_map, List.getElem_range]
      have hg : listed.getD i false = listed[i] := by simp [h1]
      cases hlt : late i with
      | false => rw [← hg, hl2 i hi hlt]; rfl
      | true =>
        cases hv : listed[i] with
        | false => rfl
        | true => rw [hl1 i (by rw [hg, hv])] at hlt; cases hlt
    have e2 : a = rframe ops (rview a) a0 (early ops late) := by
      refine act_ext (by rw [rframe_defers, H.defers]) (by rw [rframe_size, H.size]) (fun t ht => ?_)
      by_cases hex : ∃ j ∈ early ops late, rdst ops j = some t
      · rw [rframe_on _ _ _ (by rw [← H.size]; exact ht) hex]; rfl
      · rw [rframe_off _ _ _ (fun j hj e => hex ⟨j, hj, e⟩)]
        refine H.same t (fun j hj e => hex ⟨j, ?_, e⟩)
        have hjs : j < ops.size := by rw [← H.lsize]; exact getD_true_lt hj
        exact List.mem_filter.2 ⟨List.mem_range.2 hjs, by rw [hl1 j hj]; rfl⟩
    have h3 := hfin (rview a) w H.base (fun j hj => by
      have h4 := List.mem_filter.1 hj
      exact H.done j (hl2 j (List.mem_range.1 h4.1) (by simpa using h4.2)))
    rw [← e2, ← e1] at h3
    exact h3
  intro fuel
  induction fuel with
  | zero =>
    intro listed a w hu hl1 H
    have hall : ∀ i, i < ops.size → late i = false → listed.getD i false = true := by
      intro i hi _
      have h0 := List.countP_eq_zero.1 hu i (List.mem_range.2 hi)
      simpa using h0
    have := hfin' listed a w hl1 hall H
    rw [hu] at this
    exact this
  | succ fuel ih =>
    intro listed a w hu hl1 H
    by_cases hall : ∀ i, i < ops.size → late i = false → listed.getD i false = true
    · have := hfin' listed a w hl1 hall H
      rw [hu] at this
      exact this
    · have hex : ∃ i, i < ops.size ∧ late i = false ∧ ¬ listed.getD i false = true := by
        by_cases h : ∃ i, i < ops.size ∧ late i = false ∧ ¬ listed.getD i false = true
        · exact h
        · exact absurd (fun i hi hl => by
            by_cases hx : listed.getD i false = true
            · exact hx
            · exact absurd ⟨i, hi, hl, hx⟩ h) hall
      have hready : ∀ i, i < ops.size → late i = false → ¬ listed.getD i false = true → ∃ k, k ∈ Region.ready .any ops listed := by
        intro i
        induction i using Nat.strongRecOn with
        | ind i ihi =>
          intro hi hl hn
          obtain ⟨oi, hoi⟩ : ∃ oi, ops[i]? = some oi := ⟨_, Array.getElem?_eq_getElem hi⟩
          by_cases hb : ∀ e ∈ oi.after, Region.binds .any e = true → listed.getD e.on false = true
          · exact ⟨i, mem_ready.2 ⟨(getD_false_iff (by rw [H.lsize]; exact hi)).2 hn, oi, hoi, hb⟩⟩
          · have : ∃ e ∈ oi.after, Region.binds .any e = true ∧ ¬ listed.getD e.on false = true := by
              by_cases h : ∃ e ∈ oi.after, Region.binds .any e = true ∧ ¬ listed.getD e.on false = true
              · exact h
              · exact absurd (fun e he hbe => by
                  by_cases hx : listed.getD e.on false = true
                  · exact hx
                  · exact absurd ⟨e, he, hbe, hx⟩ h) hb
            obtain ⟨e, he, hbe, hne⟩ := this
            have hrow := tabOk_row htab hoi
            have hup := hrow.up e he hbe
            obtain ⟨oe, hoe⟩ : ∃ oe, ops[e.on]? = some oe := ⟨_, Array.getElem?_eq_getElem (by omega)⟩
            by_cases hle : late e.on = false
            · exact ihi e.on hup (by omega) hle hne
            · -- a late one ahead of an early one: it waits for the early ones
              have hle' : late e.on = true := by simpa using hle
              have := (tabOk_row htab hoe).late hle' i hi hl
              have := ((tabOk_row htab hoe).deps i this).1
              omega
      obtain ⟨i0, hi0, hl0, hn0⟩ := hex
      obtain ⟨k0, hk0⟩ := hready i0 hi0 hl0 hn0
      refine ⟨fun h => (by rw [h] at hk0; cases hk0), fun i hi => ?_⟩
      obtain ⟨hun, oi, hoi, halli⟩ := mem_ready.1 hi
      have his : i < ops.size := (Array.getElem?_eq_some_iff.1 hoi).1
      have hli : late i = false := by
        cases hlt : late i with
        | false => rfl
        | true =>
          have hm := (tabOk_row htab hoi).late hlt i0 hi0 hl0
          exact absurd (deps_listed htab H.closed i oi hoi halli i0 hm) hn0
      refine rinv_step htab hsz htrans hrefl H hoi hi (hstep i oi hoi hli) (fun a' w' H' => ih _ a' w' ?_ ?_ H')
      · have := unl_set H.lsize his hun
        omega
      · intro j hj
        rcases (getD_set_iff (by rw [H.lsize]; exact his)).1 hj with rfl | hj
        · exact hli
        · exact hl1 j hj

/-- Each operation's step, one behind the other. -/
def RSteps (P : Program) (ops : Array Oper) (late : Nat → Bool) (tab : RTab) (E : World → World → Prop) (post : Nat → List Value → World → Prop) (a0 : Act) (w1 : World) (i : Nat) : Prop :=
  ∀ k o, i ≤ k → ops[k]? = some o → late k = false → ∀ (V : Tmp → Value) (w : World), E w1 w → (∀ j ∈ tab.deps k, ∃ u, E w1 u ∧ E u w ∧ post j (rvals V (tab.slots j)) u) → ROp P ops o (rframe ops V a0 (tab.deps k)) w (fun v w' => E w w' ∧ post k (rvals (rupd V o.dst v) (tab.slots k)) w')
theorem RSteps.nil {i : Nat} (h : ops.size ≤ i) : RSteps P ops late tab E post a0 w1 i := fun k o hk ho => by
  have := (Array.getElem?_eq_some_iff.1 ho).1
  omega
theorem RSteps.cons {i : Nat} {o : Oper} (ho : ops[i]? = some o) (h : ∀ (V : Tmp → Value) (w : World), E w1 w → (∀ j ∈ tab.deps i, ∃ u, E w1 u ∧ E u w ∧ post j (rvals V (tab.slots j)) u) → ROp P ops o (rframe ops V a0 (tab.deps i)) w (fun v w' => E w w' ∧ post i (rvals (rupd V o.dst v) (tab.slots i)) w'))
    (hs : RSteps P ops late tab E post a0 w1 (i + 1)) : RSteps P ops late tab E post a0 w1 i := fun k o' hk ho' hl => by
  rcases Nat.eq_or_lt_of_le hk with rfl | hk
  · rw [ho] at ho'
    obtain rfl := Option.some.inj ho'
    exact h
  · exact hs k o' hk ho' hl
theorem RSteps.skip {i : Nat} (h : late i = true) (hs : RSteps P ops late tab E post a0 w1 (i + 1)) : RSteps P ops late tab E post a0 w1 i := fun k o' hk ho' hl => by
  rcases Nat.eq_or_lt_of_le hk with rfl | hk
  · rw [h] at hl; cases hl
  · exact hs k o' hk ho' hl

/-- THE LAW: a region, none of whose operations is late. -/
theorem wp_region_inv {id : Nat} {a : Act} {w : World} {tab : RTab} {E : World → World → Prop} {post : Nat → List Value → World → Prop} (hm : P.follows .mixedOrders = true)
    (htab : tabOk ops a.tmps.size (fun _ => false) tab = true) (htrans : ∀ a b c, E a b → E b c → E a c) (hrefl : ∀ a, E a a)
    (hstep : RSteps P ops (fun _ => false) tab E post a w.drew 0)
    (hfin : ∀ (V : Tmp → Value) (w' : World), E w.drew w' → (∀ j ∈ List.range ops.size, ∃ u, E w.drew u ∧ E u w' ∧ post j (rvals V (tab.slots j)) u) → Q .normal (rframe ops V a (List.range ops.size)) w') : (Code.region id ops true).wp P Q a w := by
  have hearly : early ops (fun _ => false) = List.range ops.size := by
    unfold early
    exact List.filter_eq_self.2 (fun _ _ => rfl)
  have hrep : ∀ i, ¬ (Array.replicate ops.size false).getD i false = true := fun i h => by
    have h1 := getD_true_lt h
    have hi : i < ops.size := by simpa using h1
    simp [hi] at h
  refine wp_region_any hm (region_any (late := fun _ => false) htab rfl htrans hrefl (fun i o ho hl => hstep i o (Nat.zero_le _) ho hl) ?_ ops.size _ a _ ?_ (fun i h => rfl) ?_)
  · intro V w' h1 h2
    rw [hearly] at h2 ⊢
    refine wpAny_done ?_ (hfin V w' h1 h2) _
    unfold Region.ready
    refine List.filter_eq_nil_iff.2 (fun i hi => ?_)
    have hi := List.mem_range.1 hi
    simp [hi]
  · unfold unl
    rw [List.countP_eq_length.2, List.length_range]
    intro j hj
    have := List.mem_range.1 hj
    simp [this]
  · exact ⟨rfl, rfl, by simp, fun t _ => rfl, hrefl _, fun j h => absurd h (hrep j), fun i o h => absurd h (hrep i)⟩

/-- Slots filled, one behind the other. -/
def rput (V : Tmp → Value) (a : Act) (ts : List Tmp) : Act := ts.foldl (fun a t => a.put (some t) (V t)) a
theorem rframe_eq (V : Tmp → Value) (l : List Nat) : ∀ (a : Act), rframe ops V a l = rput V a (l.filterMap (rdst ops)) := by
  induction l with
  | nil => intro a; rfl
  | cons j l ih =>
    intro a
    show rframe ops V (match rdst ops j with | some t => a.put (some t) (V t) | none => a) l = _
    rw [ih, List.filterMap_cons]
    cases rdst ops j with
    | none => rfl
    | some t => rfl

def dval (d : Option Tmp) (x : Act) : Value := match d with | some t => x.tmps.getD t undef | none => undef
/-- A hypothesis that no tactic looks into. -/
def RShut (p : Prop) : Prop := p
theorem RShut.out {p : Prop} (h : RShut p) : p := h
/-- An operation's step as it is handed over: behind it what its slot holds, and the world, are told. -/
def RGo (P : Program) (ops : Array Oper) (o : Oper) (b : Act) (d0 : List Deferred) (w : World) (R : Value → World → Prop) : Prop :=
  ∀ K : Act → World → Prop, RShut (∀ x w', x.defers = d0 → R (dval o.dst x) w' → K x w') → if Region.wanted o (yielded ops b.tmps) = true then Oper.wp P o b w K (fun _ _ _ => False) else K (b.put o.dst undef) w
theorem dval_put {b : Act} {d : Option Tmp} {v : Value} (hd : ∀ t, d = some t → t < b.tmps.size) {R : Value → Prop} (h : R (dval d (b.put d v))) : ∃ v', b.put d v = b.put d v' ∧ R v' := by
  cases d with
  | none => exact ⟨undef, rfl, h⟩
  | some t =>
    refine ⟨v, rfl, ?_⟩
    have h1 : dval (some t) (b.put (some t) v) = v := by
      show (b.put (some t) v).tmps.getD t undef = v
      rw [put_getD b t v t (hd t rfl), if_pos rfl]
    rw [h1] at h
    exact h
theorem RGo.rop {o : Oper} {b : Act} {d0 : List Deferred} {w : World} {R : Value → World → Prop} (h : RGo P ops o b d0 w R) (hd0 : b.defers = d0) (hd : ∀ t, o.dst = some t → t < b.tmps.size) : ROp P ops o b w R := fun K hK => by
  have h1 := h (fun x w' => x.defers = d0 ∧ R (dval o.dst x) w') (fun x w' e hr => ⟨e, hr⟩)
  have hput : ∀ v, (b.put o.dst v).defers = b.defers := fun v => by cases o.dst <;> rfl
  have back : ∀ v w', R (dval o.dst (b.put o.dst v)) w' → K (b.put o.dst v) w' := fun v w' hr => by
    obtain ⟨v', e, hr'⟩ := dval_put (R := fun z => R z w') hd hr
    rw [e]; exact hK v' w' hr'
  by_cases hwd : Region.wanted o (yielded ops b.tmps) = true
  · rw [if_pos hwd] at h1 ⊢
    unfold Oper.wp at h1 ⊢
    generalize (execOp b.eval o).run P w = r at *
    cases r with
    | ok n w' =>
      cases n <;> simp only [Oper.upon] at h1 ⊢
      case value v => exact back _ _ h1.2
      case skip => exact back _ _ h1.2
      case defer d =>
        exfalso
        have h2 := h1.1
        have : ({ b with defers := d :: b.defers } : Act).defers = d0 := by rw [← h2]; cases o.dst <;> rfl
        rw [← hd0] at this
        have := congrArg List.length this
        simp at this
      case enter f args =>
        refine Calls.mono h1 fun e w'' hx => ?_
        cases e with
        | returned v => exact back _ _ hx.2
        | panicked c => exact hx.elim
        | outgrown => exact hx
      case row row args => exact Rows.mono h1 fun u w'' hx => back _ _ hx.2
    | halt x w' =>
      cases x <;> simp only [Oper.upon] at h1
  · rw [if_neg hwd] at h1 ⊢
    exact back _ _ h1.2

/-- The table: of each operation who comes ahead of it; which slots its post looks at; which slots they are that come ahead. -/
abbrev RTab3 := List (List Nat × List Tmp × List Tmp)
def RTab3.two (t : RTab3) : RTab := t.map (fun r => (r.1, r.2.1))
def fsOk (ops : Array Oper) (t : RTab3) (all : List Tmp) : Bool :=
  decide (t.length = ops.size) && t.all (fun r => decide (r.1.filterMap (rdst ops) = r.2.2)) && decide ((List.range ops.size).filterMap (rdst ops) = all)

def RFact (E : World → World → Prop) (w1 w : World) (p : World → Prop) : Prop := ∃ u, E w1 u ∧ E u w ∧ p u

/-- The operations' steps along the list of them. -/
inductive RL (P : Program) (ops : Array Oper) (E : World → World → Prop) (posts : Nat → List Value → World → Prop) (slots : Nat → List Tmp) (a0 : Act) (w1 : World) : Nat → List Oper → RTab3 → Prop where
  | nil (i : Nat) (t : RTab3) : RL P ops E posts slots a0 w1 i [] t
  | cons {i : Nat} {o : Oper} {l : List Oper} {r : List Nat × List Tmp × List Tmp} {t : RTab3}
    (h : ∀ (V : Tmp → Value) (w : World), E w1 w → (∀ j ∈ r.1, RFact E w1 w (posts j (rvals V (slots j)))) → RGo P ops o (rput V a0 r.2.2) a0.defers w (fun v w' => E w w' ∧ posts i (rvals (rupd V o.dst v) r.2.1) w'))
    (hs : RL P ops E posts slots a0 w1 (i + 1) l t) : RL P ops E posts slots a0 w1 i (o :: l) (r :: t)

theorem rget_cons {r : List Nat × List Tmp × List Tmp} {t t0 : RTab3} {i : Nat} (h : t0.drop i = r :: t) : t0.drop (i + 1) = t ∧ RTab.deps t0.two i = r.1 ∧ RTab.slots t0.two i = r.2.1 := by
  have h1 : t0[i]? = some r := by
    have := congrArg (fun l => l[0]?) h
    simpa using this
  refine ⟨?_, ?_, ?_⟩
  · have := congrArg List.tail h
    simpa [List.tail_drop] using this
  · simp [RTab.deps, RTab3.two, h1]
  · simp [RTab.slots, RTab3.two, h1]
theorem RL.steps {late : Nat → Bool} {E : World → World → Prop} {posts : Nat → List Value → World → Prop} {a0 : Act} {w1 : World} {t0 : RTab3} {size : Nat} {all : List Tmp} (htab : tabOk ops size late t0.two = true) (hf : fsOk ops t0 all = true) (hsz : a0.tmps.size = size) :
    ∀ (l : List Oper) (i : Nat) (t : RTab3), ops.toList.drop i = l → t0.drop i = t → RL P ops E posts (fun j => RTab.slots t0.two j) a0 w1 i l t → RSteps P ops late t0.two E posts a0 w1 i := by
  intro l
  induction l with
  | nil =>
    intro i t hl _ _
    have : ops.toList.length ≤ i := List.drop_eq_nil_iff.1 hl
    exact RSteps.nil (by simpa using this)
  | cons o l ih =>
    intro i t hl ht h
    cases h with
    | cons h hs =>
      rename_i r t'
      have ho : ops[i]? = some o := by
        have := congrArg (fun l => l[0]?) hl
        simpa using this
      have hl' : ops.toList.drop (i + 1) = l := by
        have := congrArg List.tail hl
        simpa [List.tail_drop] using this
      obtain ⟨ht', hd, hsl⟩ := rget_cons ht
      have hrow := tabOk_row htab ho
      refine RSteps.cons ho (fun V w hE hdeps => ?_) (ih (i + 1) t' hl' ht' hs)
      have hfs : r.1.filterMap (rdst ops) = r.2.2 := by
        unfold fsOk at hf
        simp only [Bool.and_eq_true] at hf
        have hm : r ∈ t0 := List.mem_of_mem_drop (by rw [ht]; exact List.mem_cons_self ..)
        have := List.all_eq_true.1 hf.1.2 r hm
        simpa using this
      have h1 := h V w hE (fun j hj => by rw [← hd] at hj; exact hdeps j hj)
      rw [hd, hsl, rframe_eq, hfs]
      refine h1.rop (by rw [← hfs, ← rframe_eq, rframe_defers]) (fun d hdst => ?_)
      rw [← hfs, ← rframe_eq, rframe_size, hsz]
      exact (hrow.dst d hdst).1

/-- THE LAW, as a walk uses it. -/
theorem wp_region_list {id : Nat} {l : List Oper} {a : Act} {w : World} {Q : Exit → Act → World → Prop} (tab : RTab3) (all : List Tmp) (E : World → World → Prop) (posts : Nat → List Value → World → Prop) (hm : P.follows .mixedOrders = true)
    (htab : tabOk l.toArray a.tmps.size (fun _ => false) tab.two = true) (hfs : fsOk l.toArray tab all = true) (htrans : ∀ a b c, E a b → E b c → E a c) (hrefl : ∀ a, E a a)
    (hstep : RL P l.toArray E posts (fun j => RTab.slots tab.two j) a w.drew 0 l tab)
    (hfin : ∀ (V : Tmp → Value) (w' : World), E w.drew w' → (∀ j, j < l.length → RFact E w.drew w' (posts j (rvals V (RTab.slots tab.two j)))) → Q .normal (rput V a all) w') : (Code.region id l.toArray true).wp P Q a w := by
  refine wp_region_inv (tab := tab.two) (E := E) (post := posts) hm htab htrans hrefl (RL.steps htab hfs rfl l 0 tab (by simp) (by simp) hstep) (fun V w' hE h => ?_)
  have h1 := hfin V w' hE (fun j hj => h j (List.mem_range.2 (by simpa using hj)))
  unfold fsOk at hfs
  simp only [Bool.and_eq_true, decide_eq_true_eq] at hfs
  rw [rframe_eq, hfs.2]
  exact h1
end main
end Go.Proofs.Ytnnkfopopanfjaa

/- A region that draws its order and ends in stores: the first operations one by one in any world, the stores in order. No condition. -/
set_option linter.unusedVariables false
namespace Go.Proofs.Ytnnkfopopanfjaa
open Go
section main
variable {P : Program} {ops : Array Oper} {Q : Exit → Act → World → Prop} {late : Nat → Bool} {tab : RTab} {E : World → World → Prop} {post : Nat → List Value → World → Prop} {a0 : Act} {w1 : World}
/-! Regions whose last operations come one behind the other (stores): the first k by the table, the rest in order. -/
def upto (n m : Nat) : Array Bool := ((List.range n).map (fun i => decide (i < m))).toArray
def tailOk (ops : Array Oper) (k : Nat) : Bool := (List.range' k (ops.size - k)).all fun m => decide (Region.ready .any ops (upto ops.size m) = [m])
theorem upto_set {n m : Nat} (h : m < n) : (upto n m).setIfInBounds m true = upto n (m + 1) := by
  apply Array.ext
  · simp [upto]
  · intro i h1 h2
    rw [Array.getElem_setIfInBounds (by simpa using h1)]
    simp only [upto, List.getElem_toArray, List.getElem_map, List.getElem_range]
    by_cases e : m = i
    · subst e; simp
    · rw [if_neg e]
      congr 1
      rw [eq_iff_iff]
      omega
theorem upto_full (ops : Array Oper) : Region.ready .any ops (upto ops.size ops.size) = [] := by
  unfold Region.ready
  refine List.filter_eq_nil_iff.2 (fun i hi => ?_)
  have hi := List.mem_range.1 hi
  simp [upto, hi]
theorem tail_any {k : Nat} (hk : tailOk ops k = true) : ∀ (d m fuel : Nat) (a : Act) (w : World), k ≤ m → m + d = ops.size → d ≤ fuel → wpList P ops Q (ops.toList.drop m) a w → wpAny P .any ops Q fuel (upto ops.size m) a w := by
  intro d
  induction d with
  | zero =>
    intro m fuel a w hkm hm _ h
    obtain rfl : m = ops.size := by omega
    rw [List.drop_eq_nil_of_le (by simp)] at h
    exact wpAny_done (upto_full ops) h fuel
  | succ d ih =>
    intro m fuel a w hkm hm hf h
    obtain ⟨f, rfl⟩ : ∃ f, fuel = f + 1 := ⟨fuel - 1, by omega⟩
    have hr : Region.ready .any ops (upto ops.size m) = [m] := by
      have := List.all_eq_true.1 hk m (by rw [List.mem_range'_1]; omega)
      simpa using this
    have hmo : m < ops.size := by omega
    refine ⟨(fun h0 => by rw [hr] at h0; cases h0), fun i hi => ?_⟩
    rw [hr] at hi
    obtain rfl : i = m := by simpa using hi
    have ho : ops[i]? = some ops[i] := Array.getElem?_eq_getElem hmo
    have hd : ops.toList.drop i = ops[i] :: ops.toList.drop (i + 1) := by
      rw [List.drop_eq_getElem_cons (by simpa using hmo)]; simp
    rw [hd] at h
    rw [upto_set hmo]
    unfold wpOp
    simp only [ho]
    unfold wpList at h
    split
    · rename_i hw
      rw [if_pos hw] at h
      exact h.imp (Oper.wp_mono (fun a' w' h' => ih (i + 1) f a' w' (by omega) (by omega) (by omega) h')) id
    · rename_i hw
      rw [if_neg hw] at h
      exact ih (i + 1) f _ w (by omega) (by omega) (by omega) h
theorem count_from (k : Nat) : ∀ n, (List.range n).countP (fun j => decide (k ≤ j)) = n - k := by
  intro n
  induction n with
  | zero => simp
  | succ n ih =>
    rw [List.range_succ, List.countP_append, ih, List.countP_singleton]
    by_cases h : k ≤ n
    · rw [decide_eq_true h]; simp; omega
    · rw [decide_eq_false h]; simp; omega
theorem RL.stepsTail {k : Nat} {E : World → World → Prop} {posts : Nat → List Value → World → Prop} {a0 : Act} {w1 : World} {t0 : RTab3} {size : Nat} (htab : tabOk ops size (fun i => decide (k ≤ i)) t0.two = true) (hf : t0.all (fun r => decide (r.1.filterMap (rdst ops) = r.2.2)) = true) (hsz : a0.tmps.size = size) :
    ∀ (l : List Oper) (i : Nat) (t : RTab3), (ops.toList.take k).drop i = l → (t0.take k).drop i = t → RL P ops E posts (fun j => RTab.slots t0.two j) a0 w1 i l t → RSteps P ops (fun i => decide (k ≤ i)) t0.two E posts a0 w1 i := by
  intro l
  induction l with
  | nil =>
    intro i t hl _ _ k' o hk' ho hlate
    have h1 : (ops.toList.take k).length ≤ i := List.drop_eq_nil_iff.1 hl
    have h2 : k' < ops.size := (Array.getElem?_eq_some_iff.1 ho).1
    have h3 : ¬ k ≤ k' := of_decide_eq_false hlate
    rw [List.length_take] at h1
    have h4 : ops.toList.length = ops.size := Array.length_toList
    omega
  | cons o l ih =>
    intro i t hl ht h
    cases h with
    | cons h hs =>
      rename_i r t'
      have ho' : (ops.toList.take k)[i]? = some o := by
        have := congrArg (fun l => l[0]?) hl
        simpa using this
      have hik : i < k := by
        have h9 := (List.getElem?_eq_some_iff.1 ho').1
        rw [List.length_take] at h9
        omega
      have ho : ops[i]? = some o := by
        rw [List.getElem?_take_of_lt hik] at ho'
        simpa using ho'
      have hl' : (ops.toList.take k).drop (i + 1) = l := by
        have := congrArg List.tail hl
        simpa [List.tail_drop] using this
      have hr' : (t0.take k)[i]? = some r := by
        have := congrArg (fun l => l[0]?) ht
        simpa using this
      have hr0 : t0[i]? = some r := by rw [List.getElem?_take_of_lt hik] at hr'; exact hr'
      have ht' : (t0.take k).drop (i + 1) = t' := by
        have := congrArg List.tail ht
        simpa [List.tail_drop] using this
      have hd : RTab.deps t0.two i = r.1 := by simp [RTab.deps, RTab3.two, hr0]
      have hsl : RTab.slots t0.two i = r.2.1 := by simp [RTab.slots, RTab3.two, hr0]
      have hrow := tabOk_row htab ho
      refine RSteps.cons ho (fun V w hE hdeps => ?_) (ih (i + 1) t' hl' ht' hs)
      have hfs : r.1.filterMap (rdst ops) = r.2.2 := by
        have := List.all_eq_true.1 hf r (List.mem_of_getElem? hr0)
        simpa using this
      have h1 := h V w hE (fun j hj => by rw [← hd] at hj; exact hdeps j hj)
      rw [hd, hsl, rframe_eq, hfs]
      refine h1.rop (by rw [← hfs, ← rframe_eq, rframe_defers]) (fun d hdst => ?_)
      rw [← hfs, ← rframe_eq, rframe_size, hsz]
      exact (hrow.dst d hdst).1
def fsTail (ops : Array Oper) (k : Nat) (t : RTab3) (all : List Tmp) : Bool :=
  decide (k ≤ ops.size) && t.all (fun r => decide (r.1.filterMap (rdst ops) = r.2.2)) && decide ((early ops (fun i => decide (k ≤ i))).filterMap (rdst ops) = all) && decide (early ops (fun i => decide (k ≤ i)) = List.range k)
/-- THE LAW with a tail: the first k operations in any order, the others behind them, one by one. -/
theorem wp_region_tail {id : Nat} {l : List Oper} {a : Act} {w : World} {Q : Exit → Act → World → Prop} (k : Nat) (tab : RTab3) (all : List Tmp) (E : World → World → Prop) (posts : Nat → List Value → World → Prop) (hm : P.follows .mixedOrders = true)
    (htab : tabOk l.toArray a.tmps.size (fun i => decide (k ≤ i)) tab.two = true) (hfs : fsTail l.toArray k tab all = true) (htl : tailOk l.toArray k = true) (htrans : ∀ a b c, E a b → E b c → E a c) (hrefl : ∀ a, E a a)
    (hstep : RL P l.toArray E posts (fun j => RTab.slots tab.two j) a w.drew 0 (l.take k) (tab.take k))
    (hfin : ∀ (V : Tmp → Value) (w' : World), E w.drew w' → (∀ j, j < k → RFact E w.drew w' (posts j (rvals V (RTab.slots tab.two j)))) → wpList P l.toArray Q (l.drop k) (rput V a all) w') : (Code.region id l.toArray true).wp P Q a w := by
  unfold fsTail at hfs
  simp only [Bool.and_eq_true] at hfs
  obtain ⟨⟨⟨hk, hf1⟩, hf2⟩, hf3⟩ := hfs
  have hk := of_decide_eq_true hk
  have hf2 := of_decide_eq_true hf2
  have hf3 := of_decide_eq_true hf3
  have hrep : ∀ i, ¬ (Array.replicate l.toArray.size false).getD i false = true := fun i h => by
    have h1 := getD_true_lt h
    have hi : i < l.toArray.size := by simpa using h1
    have h2 : (Array.replicate l.toArray.size false).getD i false = false := by simp [Array.getD]
    rw [h2] at h; cases h
  refine wp_region_any hm (region_any (late := fun i => decide (k ≤ i)) htab rfl htrans hrefl (fun i o ho hl => RL.stepsTail htab hf1 rfl (l.take k) 0 (tab.take k) (by simp) (by simp) hstep i o (Nat.zero_le _) ho hl) ?_ l.toArray.size _ a _ ?_ (fun i h => absurd h (hrep i)) ?_)
  · intro V w' h1 h2
    have hup : ((List.range l.toArray.size).map (fun i => !decide (k ≤ i))).toArray = upto l.toArray.size k := by
      unfold upto
      congr 1
      apply List.map_congr_left
      intro i _
      by_cases h : k ≤ i
      · rw [decide_eq_true h, decide_eq_false (by omega)]; rfl
      · rw [decide_eq_false h, decide_eq_true (by omega)]; rfl
    rw [hup, rframe_eq, hf2]
    rw [hf3] at h2
    have hun : l.toArray.size - k ≤ unl l.toArray (upto l.toArray.size k) := by
      unfold unl
      rw [← count_from k l.toArray.size]
      apply Nat.le_of_eq
      apply List.countP_congr
      intro j hj
      have hj := List.mem_range.1 hj
      have e : (upto l.toArray.size k).getD j false = decide (j < k) := by simp [upto, Array.getD, hj] <;> simp_all
      rw [e]
      by_cases h : k ≤ j
      · rw [decide_eq_true h, decide_eq_false (by omega)]; simp
      · rw [decide_eq_false h, decide_eq_true (by omega)]; simp
    exact tail_any htl (l.toArray.size - k) k _ _ _ (Nat.le_refl _) (by omega) hun (hfin V w' h1 (fun j hj => h2 j (List.mem_range.2 hj)))
  · unfold unl
    rw [List.countP_eq_length.2, List.length_range]
    intro j hj
    have := hrep j
    simpa using this
  · exact ⟨rfl, rfl, by simp, fun t _ => rfl, hrefl _, fun j h => absurd h (hrep j), fun i o h => absurd h (hrep i)⟩
end main
end Go.Proofs.Ytnnkfopopanfjaa

/- The plain law of a division of 128 bits by 64: two steps, each of 32 bits; and the degrees' shares. No condition. -/
set_option linter.unusedVariables false
namespace Go.Proofs.Ytnnkfopopanfjaa

/-- One step: what a guess is, and what is left. U below V; V at least 2^63; q yn1 + r = U. -/
structure Guess (yn1 yn0 U q r : Nat) : Prop where
  sum : q * yn1 + r = U
  above : U * 4294967296 / (yn1 * 4294967296 + yn0) ≤ q
  small : q ≤ 4294967297
theorem Guess.test {yn1 yn0 U q r : Nat} (h : Guess yn1 yn0 U q r) : q * (yn1 * 4294967296 + yn0) ≤ U * 4294967296 ↔ q * yn0 ≤ 4294967296 * r := by
  have e : U * 4294967296 = q * yn1 * 4294967296 + r * 4294967296 := by rw [← h.sum, Nat.add_mul]
  have e2 : q * (yn1 * 4294967296 + yn0) = q * yn1 * 4294967296 + q * yn0 := by rw [Nat.mul_add, Nat.mul_assoc]
  omega
theorem Guess.first {yn1 yn0 U : Nat} (h1 : 2147483648 ≤ yn1) (h0 : yn0 < 4294967296) (hU : U < yn1 * 4294967296 + yn0) : Guess yn1 yn0 U (U / yn1) (U % yn1) := by
  refine ⟨by rw [Nat.mul_comm]; exact Nat.div_add_mod U yn1, ?_, ?_⟩
  · refine Nat.le_trans (Nat.div_le_div_left (show yn1 * 4294967296 ≤ _ by omega) (by omega)) ?_
    rw [Nat.mul_div_mul_right _ _ (by omega)]
    exact Nat.le_refl _
  · have : U / yn1 < 4294967298 := by
      rw [Nat.div_lt_iff_lt_mul (by omega)]
      omega
    omega
theorem Guess.big {yn1 yn0 U q r : Nat} (h : Guess yn1 yn0 U q r) (hV : 0 < yn1) (hU : U < yn1 * 4294967296 + yn0) (hq : 4294967296 ≤ q) : U * 4294967296 / (yn1 * 4294967296 + yn0) < q := by
  rw [Nat.div_lt_iff_lt_mul (by omega)]
  refine Nat.lt_of_lt_of_le (Nat.mul_lt_mul_of_pos_right hU (by omega : 0 < 4294967296)) ?_
  rw [Nat.mul_comm]
  exact Nat.mul_le_mul_right _ hq
theorem Guess.next {yn1 yn0 U q r : Nat} (h : Guess yn1 yn0 U q r) (hV : 0 < yn1) (hU : U < yn1 * 4294967296 + yn0) (ht : 4294967296 ≤ q ∨ 4294967296 * r < q * yn0) : 0 < q ∧ Guess yn1 yn0 U (q - 1) (r + yn1) := by
  have hlt : U * 4294967296 / (yn1 * 4294967296 + yn0) < q := by
    rcases ht with ht | ht
    · exact h.big hV hU ht
    · rw [Nat.div_lt_iff_lt_mul (by omega)]
      have := h.test
      omega
  have h0 : 0 < q := Nat.lt_of_le_of_lt (Nat.zero_le _) hlt
  refine ⟨h0, ?_, by omega, by have := h.small; omega⟩
  have := h.sum
  obtain ⟨p, rfl⟩ : ∃ p, q = p + 1 := ⟨q - 1, by omega⟩
  rw [Nat.add_mul] at this
  simp at this ⊢
  omega
theorem Guess.done {yn1 yn0 U q r : Nat} (h : Guess yn1 yn0 U q r) (hV : 0 < yn1) (ht : q * yn0 ≤ 4294967296 * r) : q = U * 4294967296 / (yn1 * 4294967296 + yn0) := by
  refine Nat.le_antisymm ?_ h.above
  rw [Nat.le_div_iff_mul_le (by omega)]
  exact h.test.2 ht
theorem Guess.over {yn1 yn0 U q r : Nat} (h : Guess yn1 yn0 U q r) (hV : 0 < yn1) (h0 : yn0 < 4294967296) (hq : q ≤ 4294967296) (hr : 4294967296 ≤ r) : q = U * 4294967296 / (yn1 * 4294967296 + yn0) := by
  refine h.done hV (Nat.le_trans (Nat.mul_le_mul hq (Nat.le_of_lt h0)) (Nat.mul_le_mul_left _ hr))
theorem Guess.prod {yn1 yn0 U q r : Nat} (h : Guess yn1 yn0 U q r) (h0 : yn0 < 4294967296) : q * yn0 < 18446744073709551616 := by
  have := Nat.mul_le_mul h.small (show yn0 ≤ 4294967295 by omega)
  omega
/-- Both steps: the quotient of U 2^64 by V. -/
theorem two_steps (U V : Nat) (hV : 0 < V) : U * 18446744073709551616 / V = U * 4294967296 / V * 4294967296 + U * 4294967296 % V * 4294967296 / V := by
  have e : U * 18446744073709551616 = V * (U * 4294967296 / V * 4294967296) + U * 4294967296 % V * 4294967296 := by
    have := Nat.div_add_mod (U * 4294967296) V
    calc U * 18446744073709551616 = U * 4294967296 * 4294967296 := by rw [Nat.mul_assoc]
      _ = (V * (U * 4294967296 / V) + U * 4294967296 % V) * 4294967296 := by rw [this]
      _ = _ := by rw [Nat.add_mul, Nat.mul_assoc]
  rw [e, Nat.mul_add_div hV]
theorem scaled (hi y s : Nat) : hi * 2 ^ s * 18446744073709551616 / (y * 2 ^ s) = hi * 18446744073709551616 / y := by
  rw [Nat.mul_assoc, Nat.mul_comm (2 ^ s), ← Nat.mul_assoc, Nat.mul_div_mul_right _ _ (Nat.pow_pos (by omega))]
/-- How great a share of 2^64 n is of d. -/
theorem share_ex : ∃ s : Nat → Nat → Nat, ∀ n d, s n d = n * 18446744073709551616 / d := ⟨fun n d => n * 18446744073709551616 / d, fun _ _ => rfl⟩
noncomputable def shareN : Nat → Nat → Nat := Classical.choose share_ex
theorem shareN_def (n d : Nat) : shareN n d = n * 18446744073709551616 / d := Classical.choose_spec share_ex n d
theorem shareN_lt {n d : Nat} (h : n < d) : shareN n d < 18446744073709551616 := by
  rw [shareN_def]
  rw [Nat.div_lt_iff_lt_mul (by omega), Nat.mul_comm]
  exact Nat.mul_lt_mul_of_pos_left h (by omega)
/-- Bit by bit. -/
def bitsN (n d : Nat) : Nat → Nat × Nat
  | 0 => (0, n)
  | k + 1 => if d ≤ (bitsN n d k).2 * 2 then ((bitsN n d k).1 * 2 + 1, (bitsN n d k).2 * 2 - d) else ((bitsN n d k).1 * 2, (bitsN n d k).2 * 2)
theorem bitsN_inv (n d : Nat) (h : n < d) : ∀ k, (bitsN n d k).1 * d + (bitsN n d k).2 = n * 2 ^ k ∧ (bitsN n d k).2 < d ∧ (bitsN n d k).1 < 2 ^ k := by
  intro k
  induction k with
  | zero => exact ⟨by simp [bitsN], h, by simp [bitsN]⟩
  | succ k ih =>
    obtain ⟨h1, h2, h3⟩ := ih
    rw [Nat.pow_succ]
    unfold bitsN
    generalize bitsN n d k = p at *
    obtain ⟨o, l⟩ := p
    simp only at *
    split
    · rename_i hle
      refine ⟨?_, by simp; omega, by simp; omega⟩
      simp only
      rw [Nat.add_mul, ← Nat.mul_assoc, ← h1]
      have : o * 2 * d = o * d * 2 := by rw [Nat.mul_assoc, Nat.mul_comm 2, ← Nat.mul_assoc]
      omega
    · refine ⟨?_, by simp; omega, by simp; omega⟩
      simp only
      rw [← Nat.mul_assoc, ← h1]
      have : o * 2 * d = o * d * 2 := by rw [Nat.mul_assoc, Nat.mul_comm 2, ← Nat.mul_assoc]
      omega
theorem bitsN_share (n d : Nat) (h : n < d) : (bitsN n d 64).1 = shareN n d := by
  obtain ⟨h1, h2, _⟩ := bitsN_inv n d h 64
  rw [shareN_def]
  rw [show (18446744073709551616 : Nat) = 2 ^ 64 by rfl, ← h1, Nat.mul_comm _ d, Nat.mul_add_div (by omega), Nat.div_eq_of_lt h2]
  omega

/-! The degrees. -/
def highN (f e i : Nat) : Nat := (f * e - 1000) * (f - 1) * i + 1000 * (f + 1) * f * (i - 1)
def lowN (f e i : Nat) : Nat := f * (1000 + e) * (f - 1) * i
set_option maxRecDepth 20000 in
theorem low_high (f e i : Nat) (he : 1000 < f * e) (h1 : 1 ≤ i) (hi : i < f) : lowN f e i = highN f e i + 1000 * (f + 1) * (f - i) := by
  obtain ⟨g, rfl⟩ : ∃ g, f = g + 1 := ⟨f - 1, by omega⟩
  obtain ⟨j, rfl⟩ : ∃ j, i = j + 1 := ⟨i - 1, by omega⟩
  obtain ⟨n, hn⟩ : ∃ n, g = j + n := ⟨g - j, by omega⟩
  obtain ⟨c, hc⟩ : ∃ c, (g + 1) * e = c + 1000 := ⟨(g + 1) * e - 1000, by omega⟩
  have e0 : (g + 1) * (1000 + e) = c + 1000 * (g + 1 + 1) := by rw [Nat.mul_add, hc]; omega
  have e1 : g * (j + 1) = (g + 1) * j + n := by rw [Nat.mul_add, Nat.add_mul]; omega
  have e3 : g + 1 - (j + 1) = n := by omega
  unfold lowN highN
  have e4 : c + 1000 - 1000 = c := by omega
  have e5 : g + 1 - 1 = g := by omega
  have e6 : j + 1 - 1 = j := by omega
  rw [e0, hc, e3, e4, e5, e6]
  clear e0 hc e3 e4 e5 e6 hi h1 he
  generalize 1000 * (g + 1 + 1) = d
  rw [Nat.mul_assoc _ g (j + 1), Nat.mul_assoc c g, e1, Nat.add_mul]
  rw [Nat.mul_add d, ← Nat.mul_assoc d, Nat.add_assoc]
theorem high_lt (f e i : Nat) (he : 1000 < f * e) (h1 : 1 ≤ i) (hi : i < f) : highN f e i < lowN f e i := by
  rw [low_high f e i he h1 hi]
  have : 0 < 1000 * (f + 1) * (f - i) := Nat.mul_pos (by omega) (by omega)
  omega
/-- The share of a degree, or lesser ones. -/
noncomputable def degN (f e i : Nat) : Nat := shareN (highN f e i) (lowN f e i)
theorem div_cross {a b c d : Nat} (hb : 0 < b) (hd : 0 < d) (h : a * d ≤ c * b) : a / b ≤ c / d := by
  rw [Nat.le_div_iff_mul_le hd]
  have h1 : a / b * b ≤ a := Nat.div_mul_le_self a b
  have h2 : a / b * d * b ≤ c * b := by
    rw [Nat.mul_assoc, Nat.mul_comm d b, ← Nat.mul_assoc]
    exact Nat.le_trans (Nat.mul_le_mul_right d h1) h
  exact Nat.le_of_mul_le_mul_right h2 hb
theorem deg_mono (f e i : Nat) (he : 1000 < f * e) (h1 : 1 ≤ i) (hi : i + 1 < f) : degN f e i ≤ degN f e (i + 1) := by
  have ha := low_high f e i he h1 (by omega)
  have hb := low_high f e (i + 1) he (by omega) hi
  have la := high_lt f e i he h1 (by omega)
  have lb := high_lt f e (i + 1) he (by omega) hi
  unfold degN
  rw [shareN_def, shareN_def]
  refine div_cross (by omega) (by omega) ?_
  have key : highN f e i * lowN f e (i + 1) ≤ highN f e (i + 1) * lowN f e i := by
    have e1 : lowN f e i = f * (1000 + e) * (f - 1) * i := rfl
    have e2 : lowN f e (i + 1) = f * (1000 + e) * (f - 1) * (i + 1) := rfl
    -- (low i - a) low' <= (low' - b) low i, where a = c (f - i), b = c (f - i - 1)
    have k1 : 1000 * (f + 1) * (f - (i + 1)) * lowN f e i ≤ 1000 * (f + 1) * (f - i) * lowN f e (i + 1) := by
      refine Nat.mul_le_mul (Nat.mul_le_mul_left _ (by omega)) ?_
      rw [e1, e2]; exact Nat.mul_le_mul_left _ (by omega)
    have k2 : highN f e i * lowN f e (i + 1) + 1000 * (f + 1) * (f - i) * lowN f e (i + 1) = lowN f e i * lowN f e (i + 1) := by rw [← Nat.add_mul, ← ha]
    have k3 : highN f e (i + 1) * lowN f e i + 1000 * (f + 1) * (f - (i + 1)) * lowN f e i = lowN f e (i + 1) * lowN f e i := by rw [← Nat.add_mul, ← hb]
    have k4 : lowN f e i * lowN f e (i + 1) = lowN f e (i + 1) * lowN f e i := Nat.mul_comm _ _
    omega
  calc highN f e i * 18446744073709551616 * lowN f e (i + 1) = highN f e i * lowN f e (i + 1) * 18446744073709551616 := by rw [Nat.mul_assoc, Nat.mul_comm 18446744073709551616, ← Nat.mul_assoc]
    _ ≤ highN f e (i + 1) * lowN f e i * 18446744073709551616 := Nat.mul_le_mul_right _ key
    _ = _ := by rw [Nat.mul_assoc, Nat.mul_comm (lowN f e i), ← Nat.mul_assoc]
theorem deg_le (f e : Nat) (he : 1000 < f * e) (a : Nat) (h1 : 1 ≤ a) : ∀ n, a + n < f → degN f e a ≤ degN f e (a + n) := by
  intro n
  induction n with
  | zero => intro _; exact Nat.le_refl _
  | succ n ih => intro h; exact Nat.le_trans (ih (by omega)) (deg_mono f e (a + n) he (by omega) h)
/-- The degree of a number: the first share that it is below. -/
noncomputable def degreeN (f e u : Nat) : Nat := 1 + (List.range (f - 1)).countP (fun i => !decide (u < degN f e (i + 1)))
theorem degreeN_bounds (f e u : Nat) (hf : 2 ≤ f) : 1 ≤ degreeN f e u ∧ degreeN f e u ≤ f := by
  unfold degreeN
  have := List.countP_le_length (p := fun i => !decide (u < degN f e (i + 1))) (l := List.range (f - 1))
  simp at this
  omega
theorem countP_upto (p : Nat → Bool) (n k : Nat) (hk : k ≤ n) (h1 : ∀ t, t < k → p t = true) (h2 : ∀ t, k ≤ t → t < n → p t = false) : (List.range n).countP p = k := by
  induction n with
  | zero => obtain rfl : k = 0 := by omega
            rfl
  | succ n ih =>
    rw [List.range_succ, List.countP_append, List.countP_singleton]
    by_cases h : k = n + 1
    · have : (List.range n).countP p = n := by
        rw [List.countP_eq_length.2 (fun a ha => h1 a (by have := List.mem_range.1 ha; omega))]; simp
      rw [this, h1 n (by omega)]; simp [h]
    · rw [ih (by omega) (fun t h3 h4 => h2 t h3 (by omega)), h2 n (by omega) (by omega)]; simp
theorem degreeN_first (f e u k : Nat) (he : 1000 < f * e) (h1 : 1 ≤ k) (hk : k < f) (hlt : u < degN f e k) (hb : ∀ i, 1 ≤ i → i < k → ¬ u < degN f e i) : degreeN f e u = k := by
  unfold degreeN
  rw [countP_upto _ _ (k - 1) (by omega)]
  · omega
  · intro t ht; simp only [Bool.not_eq_true', decide_eq_false_iff_not]; exact hb (t + 1) (by omega) (by omega)
  · intro t h3 h4
    have := deg_le f e he k h1 (t + 1 - k) (by omega)
    rw [show k + (t + 1 - k) = t + 1 by omega] at this
    simp only [Bool.not_eq_false', decide_eq_true_eq]
    omega
theorem degreeN_last (f e u : Nat) (hf : 2 ≤ f) (hb : ∀ i, 1 ≤ i → i < f → ¬ u < degN f e i) : degreeN f e u = f := by
  unfold degreeN
  rw [countP_upto _ _ (f - 1) (Nat.le_refl _)]
  · omega
  · intro t ht; simp only [Bool.not_eq_true', decide_eq_false_iff_not]; exact hb (t + 1) (by omega) (by omega)
  · intro t h3 h4; omega
theorem deg_bounds (f e i : Nat) (hf : f ≤ 4096) (he : e ≤ 1000) (hi : i < f) : lowN f e i ≤ 137371852800000 := by
  unfold lowN
  have h1 : f * (1000 + e) ≤ 4096 * 2000 := Nat.mul_le_mul hf (by omega)
  have h2 : f * (1000 + e) * (f - 1) ≤ 4096 * 2000 * 4095 := Nat.mul_le_mul h1 (by omega)
  have h3 : f * (1000 + e) * (f - 1) * i ≤ 4096 * 2000 * 4095 * 4095 := Nat.mul_le_mul h2 (by omega)
  omega
end Go.Proofs.Ytnnkfopopanfjaa

/- The payload of a packet by value. No condition. -/
set_option linter.unusedVariables false
namespace Go.Proofs.Ytnnkfopopanfjaa
set_option maxRecDepth 20000 in
theorem pay_field (w : World) (x0 x1 x2 x3 x4 x5 x6 x7 v : Value) : Sem.run Try.prog (Instr.field 52 (.agg #[x0, x1, x2, x3, x4, x5, x6, x7, v]) 1) w = Result.ok v w := by kernel_rfl
end Go.Proofs.Ytnnkfopopanfjaa
