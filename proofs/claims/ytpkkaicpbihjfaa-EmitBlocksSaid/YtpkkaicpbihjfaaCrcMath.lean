/- The sum of 32 bits: by a table, byte by byte, and by definition, bit by bit: one and the same. No condition. -/
set_option linter.unusedVariables false
namespace Go.Proofs.Ytpkkaicpbihjfaa

/-- One step of the division. -/
def cF (r : BitVec 32) : BitVec 32 := (r <<< 1) ^^^ (if r.msb then 0x04C11DB7#32 else 0#32)
def cIt : Nat → BitVec 32 → BitVec 32
  | 0, r => r
  | n + 1, r => cIt n (cF r)
def cBit (b : Bool) : BitVec 32 := if b then 1#32 else 0#32
def cTop (b : Bool) : BitVec 32 := if b then 0x04C11DB7#32 else 0#32
/-- A bit more, behind the others; a bit more, ahead of the register. -/
def cG (r : BitVec 32) (b : Bool) : BitVec 32 := cF r ^^^ cBit b
def cD (r : BitVec 32) (b : Bool) : BitVec 32 := cF r ^^^ cTop b
theorem xor4 (a b c d : BitVec 32) : (a ^^^ b) ^^^ (c ^^^ d) = (a ^^^ c) ^^^ (b ^^^ d) := by ac_rfl
theorem cF_xor (a b : BitVec 32) : cF (a ^^^ b) = cF a ^^^ cF b := by
  unfold cF
  rw [BitVec.shiftLeft_xor_distrib, BitVec.msb_xor, xor4]
  cases a.msb <;> cases b.msb <;> simp
theorem cF_zero : cF 0#32 = 0#32 := by decide
theorem cIt_xor (n : Nat) : ∀ a b, cIt n (a ^^^ b) = cIt n a ^^^ cIt n b := by
  induction n with
  | zero => intro a b; rfl
  | succ n ih => intro a b; simp only [cIt]; rw [cF_xor, ih]
theorem cIt_zero (n : Nat) : cIt n 0#32 = 0#32 := by
  induction n with
  | zero => rfl
  | succ n ih => simp only [cIt]; rw [cF_zero, ih]
theorem cIt_F (n : Nat) : ∀ r, cIt n (cF r) = cF (cIt n r) := by
  induction n with
  | zero => intro r; rfl
  | succ n ih => intro r; simp only [cIt]; rw [ih]
theorem cIt_bit (b : Bool) : cIt 32 (cBit b) = cTop b := by cases b <;> decide +kernel
theorem cIt_top (b : Bool) : cIt 31 (cF (cBit b)) = cTop b := by cases b <;> decide +kernel
/-- The bits behind a register, and ahead of it. -/
theorem behind (l : List Bool) : ∀ r, cIt 32 (l.foldl cG r) = l.foldl cD (cIt 32 r) := by
  induction l with
  | nil => intro r; rfl
  | cons b l ih =>
    intro r
    rw [List.foldl_cons, List.foldl_cons, ih]
    congr 1
    unfold cG cD
    rw [cIt_xor, cIt_bit, cIt_F]
theorem foldD_xor (l : List Bool) : ∀ a b, l.foldl cD (a ^^^ b) = cIt l.length a ^^^ l.foldl cD b := by
  induction l with
  | nil => intro a b; rfl
  | cons x l ih =>
    intro a b
    rw [List.foldl_cons, List.foldl_cons, List.length_cons]
    have : cD (a ^^^ b) x = cF a ^^^ cD b x := by unfold cD; rw [cF_xor, BitVec.xor_assoc]
    rw [this, ih]; rfl
theorem foldG_zero (n : Nat) : ∀ r, (List.replicate n false).foldl cG r = cIt n r := by
  induction n with
  | zero => intro r; rfl
  | succ n ih =>
    intro r
    rw [List.replicate_succ, List.foldl_cons, ih]
    show cIt n (cG r false) = cIt n (cF r)
    unfold cG cBit; simp
theorem foldG_xor (s : List Bool) : ∀ (t : List Bool) a b, s.length = t.length → (List.zipWith (· ^^ ·) s t).foldl cG (a ^^^ b) = s.foldl cG a ^^^ t.foldl cG b := by
  induction s with
  | nil => intro t a b h; cases t with
    | nil => rfl
    | cons y t => simp at h
  | cons x s ih =>
    intro t a b h
    cases t with
    | nil => simp at h
    | cons y t =>
      rw [List.zipWith_cons_cons, List.foldl_cons, List.foldl_cons, List.foldl_cons]
      have e : cG (a ^^^ b) (x ^^ y) = cG a x ^^^ cG b y := by
        unfold cG cBit
        rw [cF_xor, xor4 (cF a)]
        cases x <;> cases y <;> simp
      rw [e, ih _ _ _ (by simpa using h)]
theorem ones32 : (List.replicate 32 true).foldl cG 0#32 = BitVec.allOnes 32 := by decide +kernel
/-- The stream that is divided: all bits, with 32 noughts behind them, the first 32 turned. -/
def cStream (M : List Bool) : List Bool := List.zipWith (· ^^ ·) (M ++ List.replicate 32 false) (List.replicate 32 true ++ List.replicate M.length false)
theorem stream_sum (M : List Bool) : (cStream M).foldl cG 0#32 = M.foldl cD (BitVec.allOnes 32) := by
  unfold cStream
  have h := foldG_xor (M ++ List.replicate 32 false) (List.replicate 32 true ++ List.replicate M.length false) 0#32 0#32 (by rw [List.length_append, List.length_append, List.length_replicate, List.length_replicate, List.length_replicate]; omega)
  rw [BitVec.xor_zero] at h
  rw [h, List.foldl_append, foldG_zero, behind, cIt_zero, List.foldl_append, foldG_zero, ones32]
  have h2 := foldD_xor M (BitVec.allOnes 32) 0#32
  rw [BitVec.xor_zero] at h2
  rw [h2, BitVec.xor_comm]
/-- The bits of a byte, the highest first. -/
def bitsB (x : UInt8) : List Bool := (List.range 8).map fun i => x.toNat.testBit (7 - i)
def cTab (x : BitVec 32) : BitVec 32 := cIt 8 (x <<< 24)
theorem cTab_xor (a b : BitVec 32) : cTab (a ^^^ b) = cTab a ^^^ cTab b := by unfold cTab; rw [BitVec.shiftLeft_xor_distrib, cIt_xor]
theorem fold_byte0 : ∀ x : Fin 256, (bitsB (UInt8.ofNat x.val)).foldl cD 0#32 = cTab (BitVec.ofNat 32 x.val) := by decide +kernel
theorem fold_byte (x : UInt8) : (bitsB x).foldl cD 0#32 = cTab (BitVec.ofNat 32 x.toNat) := by
  have h := fold_byte0 ⟨x.toNat, x.toNat_lt⟩
  simpa using h
theorem cF_low (r : BitVec 32) (h : r.toNat < 2147483648) : cF r = r <<< 1 := by
  have : r.msb = false := by rw [BitVec.msb_eq_decide]; simp; omega
  unfold cF
  rw [this]; simp
theorem cIt_low (j : Nat) : ∀ (r : BitVec 32), j ≤ 31 → r.toNat < 2 ^ (32 - j) → cIt j r = r <<< j := by
  induction j with
  | zero => intro r _ _; simp [cIt]
  | succ j ih =>
    intro r hj h
    have h1 : r.toNat * 2 < 2 ^ (32 - j) := by
      have : 2 ^ (32 - j) = 2 ^ (32 - (j + 1)) * 2 := by rw [← Nat.pow_succ]; congr 1; omega
      omega
    have hle : 2 ^ (32 - j) ≤ 2 ^ 32 := Nat.pow_le_pow_right (by decide) (by omega)
    have h2 : r.toNat < 2147483648 := by omega
    simp only [cIt]
    rw [cF_low r h2, ih _ (by omega) (by
      rw [BitVec.toNat_shiftLeft, Nat.shiftLeft_eq]
      have : r.toNat * 2 ^ 1 % 2 ^ 32 = r.toNat * 2 := by rw [Nat.mod_eq_of_lt] <;> omega
      omega), ← BitVec.shiftLeft_add]
    congr 1; omega
theorem split24 (r : BitVec 32) : r = (r &&& 0xFFFFFF#32) ^^^ ((r >>> 24) <<< 24) := by
  apply BitVec.eq_of_getLsbD_eq
  intro i hi
  simp only [BitVec.getLsbD_xor, BitVec.getLsbD_and, BitVec.getLsbD_shiftLeft, BitVec.getLsbD_ushiftRight]
  by_cases h : i < 24
  · have : (0xFFFFFF#32).getLsbD i = true := by
      have : ∀ k : Fin 24, (0xFFFFFF#32).getLsbD k.val = true := by decide
      exact this ⟨i, h⟩
    rw [this, Bool.and_true]
    simp [h]
  · have : (0xFFFFFF#32).getLsbD i = false := by
      have : ∀ k : Fin 32, 24 ≤ k.val → (0xFFFFFF#32).getLsbD k.val = false := by decide
      exact this ⟨i, hi⟩ (by simpa using h)
    have e : 24 + (i - 24) = i := by omega
    rw [this, Bool.and_false]
    simp [h, hi, e]
theorem cIt8 (r : BitVec 32) : cIt 8 r = (r <<< 8) ^^^ cTab (r >>> 24) := by
  have h1 : cIt 8 (r &&& 0xFFFFFF#32) = (r &&& 0xFFFFFF#32) <<< 8 := cIt_low 8 _ (by decide) (by
    rw [BitVec.toNat_and]
    exact Nat.lt_of_le_of_lt Nat.and_le_right (by decide))
  have h2 : (r &&& 0xFFFFFF#32) <<< 8 = r <<< 8 := by
    apply BitVec.eq_of_getLsbD_eq
    intro i hi
    simp only [BitVec.getLsbD_shiftLeft, BitVec.getLsbD_and]
    by_cases h : i < 8
    · simp [h]
    · have : (0xFFFFFF#32).getLsbD (i - 8) = true := by
        have : ∀ k : Fin 24, (0xFFFFFF#32).getLsbD k.val = true := by decide
        exact this ⟨i - 8, by omega⟩
      simp [h, this]
  have h3 : cIt 8 r = cIt 8 (r &&& 0xFFFFFF#32) ^^^ cIt 8 ((r >>> 24) <<< 24) := by rw [← cIt_xor, ← split24]
  rw [h3, h1, h2]; rfl
/-- A byte more, by the table. -/
def cByte (r : BitVec 32) (x : UInt8) : BitVec 32 := (r <<< 8) ^^^ cTab ((r >>> 24) ^^^ BitVec.ofNat 32 x.toNat)
theorem byte_bits (r : BitVec 32) (x : UInt8) : (bitsB x).foldl cD r = cByte r x := by
  have h := foldD_xor (bitsB x) r 0#32
  rw [BitVec.xor_zero] at h
  rw [h, fold_byte]
  have : (bitsB x).length = 8 := by simp [bitsB]
  rw [this, cIt8]
  unfold cByte
  rw [cTab_xor, BitVec.xor_assoc]
def bitsL (l : List UInt8) : List Bool := l.flatMap bitsB
theorem bitsL_length (l : List UInt8) : (bitsL l).length = 8 * l.length := by
  induction l with
  | nil => rfl
  | cons x l ih => unfold bitsL at *; rw [List.flatMap_cons, List.length_append, ih, List.length_cons]; simp [bitsB]; omega
theorem bytes_bits (l : List UInt8) : ∀ r, (bitsL l).foldl cD r = l.foldl cByte r := by
  induction l with
  | nil => intro r; rfl
  | cons x l ih =>
    intro r
    unfold bitsL at *
    rw [List.flatMap_cons, List.foldl_append, byte_bits, List.foldl_cons, ih]
/-- The sum's register, its bits not turned. -/
def crcR (l : List UInt8) : BitVec 32 := l.foldl cByte (BitVec.allOnes 32)
theorem crc_one (l : List UInt8) : (cStream (bitsL l)).foldl cG 0#32 = crcR l := by rw [stream_sum, bytes_bits]; rfl
/-- The sum. -/
def crcN (l : List UInt8) : BitVec 32 := ~~~ crcR l
/-- The division in natural numbers. -/
theorem cG_nat (r : BitVec 32) (b : Bool) : (cG r b).toNat = (if 4294967296 ≤ r.toNat * 2 + b.toNat then (r.toNat * 2 + b.toNat) ^^^ 4374732215 else r.toNat * 2 + b.toNat) := by
  have hr := r.isLt
  have hb : b.toNat < 2 := by cases b <;> decide
  have hs : (r <<< 1).toNat = r.toNat * 2 % 4294967296 := by rw [BitVec.toNat_shiftLeft, Nat.shiftLeft_eq]
  have hbit : (cBit b).toNat = b.toNat := by cases b <;> rfl
  have hlow : ∀ n : Nat, n % 2 = 0 → n ^^^ b.toNat = n + b.toNat := by
    intro n hn
    obtain ⟨k, rfl⟩ : ∃ k, n = 2 * k := ⟨n / 2, by omega⟩
    have h := Nat.two_pow_add_eq_or_of_lt (i := 1) (b := b.toNat) hb k
    apply Nat.eq_of_testBit_eq
    intro i
    rw [show 2 * k + b.toNat = 2 ^ 1 * k + b.toNat from rfl, h, Nat.testBit_xor, Nat.testBit_or]
    by_cases hi : i = 0
    · subst hi
      have : (2 ^ 1 * k).testBit 0 = false := by simp
      have : (2 * k).testBit 0 = false := by simp
      simp [*]
    · have : b.toNat.testBit i = false := Nat.testBit_lt_two_pow (Nat.lt_of_lt_of_le hb (by
        calc 2 = 2 ^ 1 := rfl
          _ ≤ 2 ^ i := Nat.pow_le_pow_right (by decide) (by omega)))
      simp [this]
  unfold cG cF
  rw [BitVec.toNat_xor, BitVec.toNat_xor, hs, hbit]
  by_cases hm : r.msb = true
  · rw [BitVec.msb_eq_decide] at hm
    have hm2 : 2147483648 ≤ r.toNat := by simpa using hm
    have hmsb : r.msb = true := by rw [BitVec.msb_eq_decide]; simpa using hm2
    rw [hmsb, if_pos rfl, if_pos (by omega)]
    have e : r.toNat * 2 + b.toNat = 4294967296 + (r.toNat * 2 % 4294967296 + b.toNat) := by omega
    generalize hn : r.toNat * 2 % 4294967296 = n at *
    have hn2 : n % 2 = 0 := by omega
    have hlt : n + b.toNat < 4294967296 := by omega
    rw [e, ← hlow n hn2]
    have hlt' : n ^^^ b.toNat < 4294967296 := by rw [hlow n hn2]; exact hlt
    rw [Nat.xor_assoc, Nat.xor_comm (0x04C11DB7#32).toNat, ← Nat.xor_assoc]
    generalize n ^^^ b.toNat = m at *
    have h1 : 4294967296 + m = 2 ^ 32 ||| m := by
      have := Nat.two_pow_add_eq_or_of_lt (i := 32) (b := m) hlt' 1
      simpa using this
    apply Nat.eq_of_testBit_eq
    intro i
    rw [h1, Nat.testBit_xor, Nat.testBit_xor, Nat.testBit_or]
    have h2 : (4374732215 : Nat) = 2 ^ 32 ||| 79764919 := by decide
    rw [h2, Nat.testBit_or]
    have h3 : (0x04C11DB7#32).toNat = 79764919 := rfl
    rw [h3]
    by_cases hi : i = 32
    · subst hi
      have a1 : m.testBit 32 = false := Nat.testBit_lt_two_pow hlt'
      have a2 : (79764919 : Nat).testBit 32 = false := by decide
      have a3 : (2 ^ 32).testBit 32 = true := by decide
      simp [a1, a2]
    · have a3 : (2 ^ 32).testBit i = false := by
        rw [Nat.testBit_two_pow]; simp; omega
      simp [a3]
  · have hm' : r.msb = false := by simpa using hm
    rw [hm']
    rw [BitVec.msb_eq_decide] at hm'
    have hm2 : r.toNat < 2147483648 := by simpa using hm'
    rw [if_neg (by decide), if_neg (by omega)]
    have e : r.toNat * 2 % 4294967296 = r.toNat * 2 := Nat.mod_eq_of_lt (by omega)
    rw [e]
    show r.toNat * 2 ^^^ (0#32).toNat ^^^ b.toNat = _
    rw [show (0#32).toNat = 0 from rfl, Nat.xor_zero, hlow _ (by omega)]
end Go.Proofs.Ytpkkaicpbihjfaa
