/- What is written is read: a frame's bytes, read, are what was written. No condition beyond the numbers' bounds. -/
import Derived.Test.YtnnkfopopanfjaaFrameMath
set_option linter.unusedVariables false
namespace Go.Proofs.Ytnnkfopopanfjaa
open Go.RowKit

theorem numI_big (l : List UInt8) (h : numB l < 9223372036854775808) : numI l = (numB l : Int) := by
  unfold numI
  exact IntWalk.i64_in _ (by omega)
/-- A header's bytes behind the first three, and what comes behind them. -/
def tailN (h : Hd) (t : List UInt8) : List UInt8 := beN 8 h.session ++ (beN 4 h.par.n.toNat ++ (beN 2 h.par.b.toNat ++ (beN 1 h.par.q.toNat ++ (beN 2 h.par.eps.toNat ++ (beN 2 h.par.f.toNat ++ (beN 8 h.len.toNat ++ (beN 8 h.id ++ t)))))))
theorem num_part (s n : Nat) (t : List UInt8) (h : n < 256 ^ s) : numB ((beN s n ++ t).take s) = n := by
  rw [List.take_left' (beN_length s n), num_be, Nat.mod_eq_of_lt h]
theorem drop_part (s n : Nat) (t : List UInt8) : (beN s n ++ t).drop s = t := List.drop_left' (beN_length s n)
theorem numI_part (s n : Nat) (t : List UInt8) (h : n < 256 ^ s) (h2 : n < 9223372036854775808) : numI ((beN s n ++ t).take s) = (n : Int) := by
  rw [numI_big _ (by rw [num_part s n t h]; exact h2), num_part s n t h]
structure HdFits (h : Hd) : Prop where
  s : h.session < 18446744073709551616
  i : h.id < 18446744073709551616
  n : 0 ≤ h.par.n ∧ h.par.n < 4294967296
  b : 0 ≤ h.par.b ∧ h.par.b < 65536
  q : 0 ≤ h.par.q ∧ h.par.q < 256
  e : 0 ≤ h.par.eps ∧ h.par.eps < 65536
  f : 0 ≤ h.par.f ∧ h.par.f < 65536
  l : 0 ≤ h.len ∧ h.len < 9223372036854775808
theorem hdN_tail (h : Hd) (t : List UInt8) (hf : HdFits h) : hdN (tailN h t) = h := by
  obtain ⟨se, ⟨n, b, q, ep, f⟩, len, id⟩ := h
  obtain ⟨h1, h2, ⟨n1, n2⟩, ⟨b1, b2⟩, ⟨q1, q2⟩, ⟨e1, e2⟩, ⟨f1, f2⟩, ⟨l1, l2⟩⟩ := hf
  simp only at h1 h2 n1 n2 b1 b2 q1 q2 e1 e2 f1 f2 l1 l2
  unfold hdN tailN
  simp only
  have k8 := drop_part 8 se (beN 4 n.toNat ++ (beN 2 b.toNat ++ (beN 1 q.toNat ++ (beN 2 ep.toNat ++ (beN 2 f.toNat ++ (beN 8 len.toNat ++ (beN 8 id ++ t)))))))
  have s8 := num_part 8 se (beN 4 n.toNat ++ (beN 2 b.toNat ++ (beN 1 q.toNat ++ (beN 2 ep.toNat ++ (beN 2 f.toNat ++ (beN 8 len.toNat ++ (beN 8 id ++ t))))))) (by simpa using h1)
  generalize hL : beN 8 se ++ (beN 4 n.toNat ++ (beN 2 b.toNat ++ (beN 1 q.toNat ++ (beN 2 ep.toNat ++ (beN 2 f.toNat ++ (beN 8 len.toNat ++ (beN 8 id ++ t))))))) = L at *
  have k12 : L.drop 12 = beN 2 b.toNat ++ (beN 1 q.toNat ++ (beN 2 ep.toNat ++ (beN 2 f.toNat ++ (beN 8 len.toNat ++ (beN 8 id ++ t))))) := by
    rw [show (12 : Nat) = 8 + 4 from rfl, ← List.drop_drop, k8, drop_part]
  have k14 : L.drop 14 = beN 1 q.toNat ++ (beN 2 ep.toNat ++ (beN 2 f.toNat ++ (beN 8 len.toNat ++ (beN 8 id ++ t)))) := by
    rw [show (14 : Nat) = 12 + 2 from rfl, ← List.drop_drop, k12, drop_part]
  have k15 : L.drop 15 = beN 2 ep.toNat ++ (beN 2 f.toNat ++ (beN 8 len.toNat ++ (beN 8 id ++ t))) := by
    rw [show (15 : Nat) = 14 + 1 from rfl, ← List.drop_drop, k14, drop_part]
  have k17 : L.drop 17 = beN 2 f.toNat ++ (beN 8 len.toNat ++ (beN 8 id ++ t)) := by
    rw [show (17 : Nat) = 15 + 2 from rfl, ← List.drop_drop, k15, drop_part]
  have k19 : L.drop 19 = beN 8 len.toNat ++ (beN 8 id ++ t) := by
    rw [show (19 : Nat) = 17 + 2 from rfl, ← List.drop_drop, k17, drop_part]
  have k27 : L.drop 27 = beN 8 id ++ t := by
    rw [show (27 : Nat) = 19 + 8 from rfl, ← List.drop_drop, k19, drop_part]
  rw [k8, k12, k14, k15, k17, k19, k27, s8, numI_part 4 n.toNat _ (by simp; omega) (by omega), numI_part 2 b.toNat _ (by simp; omega) (by omega), numI_part 1 q.toNat _ (by simp; omega) (by omega), numI_part 2 ep.toNat _ (by simp; omega) (by omega),
    numI_part 2 f.toNat _ (by simp; omega) (by omega), numI_part 8 len.toNat _ (by simp; omega) (by omega), num_part 8 id _ (by simpa using h2)]
  simp only [Int.toNat_of_nonneg, n1, b1, q1, e1, f1, l1]
theorem HdFits.of {h : Hd} (hk : h.ok) (h1 : h.session < 18446744073709551616) (h2 : h.id < 18446744073709551616) : HdFits h := by
  obtain ⟨hm, hl0, hl1⟩ := hk
  obtain ⟨N, B, e1, e2, e3, e4, e5, e6, e7, e8, hNB, hNB2⟩ := par_sizes hm
  unfold Par.may at hm
  rw [hNB] at hl1
  exact ⟨h1, h2, by omega, by omega, by omega, by omega, by omega, by omega⟩
theorem enc_parts (h : Hd) (pay : List UInt8) : encN h pay = beN 2 16716 ++ (beN 1 1 ++ tailN h (pay ++ sumB4 (headN h ++ pay))) := by
  unfold encN sealB tailN headN
  simp only [List.append_assoc]
theorem enc_drop3 (h : Hd) (pay : List UInt8) : (encN h pay).drop 3 = tailN h (pay ++ sumB4 (headN h ++ pay)) := by
  rw [enc_parts, show (3 : Nat) = 2 + 1 from rfl, ← List.drop_drop, drop_part, drop_part]
theorem parse_enc {h : Hd} {pay : List UInt8} (hk : h.ok) (h1 : h.session < 18446744073709551616) (h2 : h.id < 18446744073709551616) (hp : (pay.length : Int) = h.par.b) :
    parseE (encN h pay) = 0 ∧ hdN ((encN h pay).drop 3) = h ∧ parseP (encN h pay) = pay := by
  have hd : hdN ((encN h pay).drop 3) = h := by rw [enc_drop3]; exact hdN_tail h _ (HdFits.of hk h1 h2)
  have hr : rightL (encN h pay) = true := rightL_seal _
  have hlen := encN_length h pay
  have ht2 : numB ((encN h pay).take 2) = 16716 := by rw [enc_parts]; exact num_part 2 16716 _ (by decide)
  have ht1 : numB (((encN h pay).drop 2).take 1) = 1 := by rw [enc_parts, drop_part]; exact num_part 1 1 _ (by decide)
  refine ⟨?_, hd, ?_⟩
  · unfold parseE
    rw [hd, hr, ht2, ht1, hokB_true hk, hlen, if_neg (by omega), if_neg (by simp), if_neg (by simp), if_neg (by simp), if_neg (by omega), if_neg (by simp)]
  · unfold parseP
    rw [hd]
    unfold encN sealB
    rw [List.append_assoc, List.drop_left' (headN_length h), List.take_left' (by omega)]
end Go.Proofs.Ytnnkfopopanfjaa
