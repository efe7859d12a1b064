/- Frames in lists of bytes: what a header is, how it is written. No condition. -/
import Derived.Test.YtnnkfopopanfjaaWireRead
import Derived.Test.YtnnkfopopanfjaaCrcRight
set_option linter.unusedVariables false
namespace Go.Proofs.Ytnnkfopopanfjaa
open Go.RowKit

/-- A header. -/
structure Hd where
  session : Nat
  par : Par
  len : Int
  id : Nat
def Hd.cells (h : Hd) : Array Value := #[.int .u64 (h.session : Int), .int .i64 h.par.n, .int .i64 h.par.b, .int .i64 h.par.q, .int .i64 h.par.eps, .int .i64 h.par.f, .int .i64 h.len, .int .u64 (h.id : Int)]
def Hd.val (h : Hd) : Value := .agg h.cells
def Hd.ok (h : Hd) : Prop := h.par.may ∧ 0 ≤ h.len ∧ h.len ≤ h.par.n * h.par.b
instance (h : Hd) : Decidable h.ok := by unfold Hd.ok; infer_instance
def hokB (h : Hd) : Bool := decide h.ok
theorem hokB_true {h : Hd} (x : h.ok) : hokB h = true := decide_eq_true x
theorem hokB_false {h : Hd} (x : ¬ h.ok) : hokB h = false := decide_eq_false x
/-- What frame.Check answers. -/
def fchkN (h : Hd) : Int := if hokB h then 0 else 1
theorem cells8 {w : World} {b : Nat} {h : Hd} {T : TypeId} {fr : Nat × Nat} (hc : w.heap[b]? = some (.cells h.cells T fr)) :
    w.cell? ⟨b, 0, none⟩ = some (.int .u64 (h.session : Int)) ∧ w.cell? ⟨b, 1, none⟩ = some (.int .i64 h.par.n) ∧ w.cell? ⟨b, 2, none⟩ = some (.int .i64 h.par.b) ∧ w.cell? ⟨b, 3, none⟩ = some (.int .i64 h.par.q) ∧ w.cell? ⟨b, 4, none⟩ = some (.int .i64 h.par.eps) ∧ w.cell? ⟨b, 5, none⟩ = some (.int .i64 h.par.f) ∧ w.cell? ⟨b, 6, none⟩ = some (.int .i64 h.len) ∧ w.cell? ⟨b, 7, none⟩ = some (.int .u64 (h.id : Int)) := by
  unfold Hd.cells at hc
  simp [World.cell?, hc]
/-- A frame's head, and the frame. -/
def headN (h : Hd) : List UInt8 := beN 2 16716 ++ beN 1 1 ++ beN 8 h.session ++ beN 4 h.par.n.toNat ++ beN 2 h.par.b.toNat ++ beN 1 h.par.q.toNat ++ beN 2 h.par.eps.toNat ++ beN 2 h.par.f.toNat ++ beN 8 h.len.toNat ++ beN 8 h.id
theorem headN_length (h : Hd) : (headN h).length = 38 := by unfold headN; simp only [List.length_append, beN_length]
def encN (h : Hd) (pay : List UInt8) : List UInt8 := sealB (headN h ++ pay)
theorem encN_length (h : Hd) (pay : List UInt8) : (encN h pay).length = 42 + pay.length := by unfold encN; rw [sealB_length, List.length_append, headN_length]; omega
/-- What is read. -/
def numI (l : List UInt8) : Int := IntKind.i64.wrap (numB l : Int)
def hdN (l : List UInt8) : Hd := ⟨numB (l.take 8), ⟨numI ((l.drop 8).take 4), numI ((l.drop 12).take 2), numI ((l.drop 14).take 1), numI ((l.drop 15).take 2), numI ((l.drop 17).take 2)⟩, numI ((l.drop 19).take 8), numB ((l.drop 27).take 8)⟩
def hd0 : Hd := ⟨0, ⟨0, 0, 0, 0, 0⟩, 0, 0⟩
/-- The number of the error that a frame is read with. -/
def parseE (l : List UInt8) : Int :=
  if l.length < 42 then 4 else if numB (l.take 2) ≠ 16716 then 5 else if numB ((l.drop 2).take 1) ≠ 1 then 6
  else if hokB (hdN (l.drop 3)) = false then 1 else if (l.length : Int) ≠ 42 + (hdN (l.drop 3)).par.b then 7 else if rightL l = false then 8 else 0
def parseP (l : List UInt8) : List UInt8 := (l.drop 38).take (hdN (l.drop 3)).par.b.toNat
theorem numI_small (l : List UInt8) (h : l.length ≤ 7) : numI l = (numB l : Int) := by
  unfold numI
  have h1 := numB_lt l
  have h2 : 256 ^ l.length ≤ 256 ^ 7 := Nat.pow_le_pow_right (by decide) h
  have h3 : numB l < 72057594037927936 := Nat.lt_of_lt_of_le h1 (Nat.le_trans h2 (by decide))
  generalize numB l = n at *
  unfold IntKind.wrap
  simp [IntKind.bits, IntKind.signed]
  omega
/-- There and back. -/
theorem rightL_seal (l : List UInt8) : rightL (sealB l) = true := by
  unfold rightL
  rw [sealB_length]
  have e : (sealB l).take (l.length + 4 - 4) = l := by unfold sealB; rw [Nat.add_sub_cancel, List.take_left]
  rw [e]
  simp
end Go.Proofs.Ytnnkfopopanfjaa
