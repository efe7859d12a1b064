/- An object, put together of its blocks: the walk of segment.Join. Conditions: numbers are of their kinds. -/
import Derived.Test.YtnnkfopopanfjaaGreatSegment
set_option linter.unusedVariables false
namespace Go.Proofs.YtnnkfopopanfjaaGreat
open Go.RowKit
attribute [local go_sem ↓] Go.wp_at_zero Go.wp_at_succ

/-- So many bytes of blocks, one behind the other. -/
def joinN (n : Nat) (ls : List (List UInt8)) : List UInt8 := ls.flatten.take n
theorem joinN_snoc (n : Nat) (ls : List (List UInt8)) (l : List UInt8) : joinN n (ls ++ [l]) = joinN n ls ++ l.take (n - (joinN n ls).length) := by
  unfold joinN
  rw [List.flatten_append, List.take_append, List.length_take]
  simp only [List.flatten_cons, List.flatten_nil, List.append_nil]
  congr 2
  omega
theorem flatten_len {B : Nat} {ls : List (List UInt8)} (h : fitB B ls = true) : ls.flatten.length = ls.length * B := by
  induction ls with
  | nil => simp
  | cons l r ih =>
    simp only [fitB, List.all_cons, Bool.and_eq_true, decide_eq_true_eq] at h
    rw [List.flatten_cons, List.length_append, h.1, ih h.2, List.length_cons, Nat.add_mul]; omega
theorem joinN_length {B n : Nat} {ls : List (List UInt8)} (h : fitB B ls = true) : (joinN n ls).length = min n (ls.length * B) := by
  unfold joinN; rw [List.length_take, flatten_len h]
theorem BytesIn.take {R : Nat → Prop} {w : World} {A : Option Addr} {l : List UInt8} (h : BytesIn R w A l) (k : Nat) : BytesIn R w A (l.take k) := by
  refine ⟨⟨by have := h.len; rw [enc8_length, List.length_take]; omega, fun h0 => ?_⟩, fun b off e h0 => h.2 b off e (by rw [List.length_take] at h0; omega)⟩
  rw [enc8_length, List.length_take] at h0
  obtain ⟨b, off, e, _, hc⟩ := h.get (by omega)
  refine ⟨b, off, e, fun j hj => ?_⟩
  rw [enc8_length, List.length_take] at hj
  rw [gi_enc8 _ j (by rw [List.length_take]; omega), hc j (by omega)]
  congr 4
  unfold gb
  rw [List.getD_eq_getElem?_getD, List.getD_eq_getElem?_getD, List.getElem?_take_of_lt (by omega)]
/-- 'append(v, b...)' of bytes, v the call's own; the lengths by their names. -/
theorem wpList_appB {ops : Array Oper} {rest : List Oper} {o : Oper} {a : Act} {Q : Exit → Act → World → Prop} (w : World) (hgd : o.guard = none) (s x : Operand) (t : TypeId)
    (ho : o.op = .call { callee := .builtin .append, args := #[s, x], argTypes := #[t, t] }) (base : Nat) (ht : Tryz.prog.underlying t = some (.slice 5)) (v : Value) (to : List UInt8) (hs : a.eval s = v) (hown : OwnB w base v to) (A : Option Addr) (n c : Nat) (b : List UInt8)
    (hx : a.eval x = .slice A n c) (hn : b.length = n) (hA : A = none → c = 0) {R : Nat → Prop} (hat : BytesIn R w A b) (m : Nat) (hm : to.length = m) (hmx : m + n ≤ 140737488355328) (hbase : base ≤ w.heap.size)
    (h : ∀ v' w', OwnB w' base v' (to ++ b) → w.grownBy w' v.ownBlock → wpList Tryz.prog ops Q rest (a.put o.dst v') w') : wpList Tryz.prog ops Q (o :: rest) a w := by
  subst hn hm
  refine wpList_appInts w hgd s x t ho base 5 .u8 1 ht info_u8 v (enc8 to) hs hown A c (enc8 b) (by rw [enc8_length]; exact hx) hA hat.1 (by rw [enc8_length, enc8_length]; omega) (by rw [enc8_length, enc8_length]; omega) hbase ?_
  intro v' w' h1 h2
  exact h v' w' (by unfold OwnB; rw [enc8_append]; exact h1) h2
/-- What Join asks; and what it answers. -/
def JoinOk (p : Par) (n : Int) (ls : List (List UInt8)) : Prop := (ls.length : Int) = p.n ∧ 0 ≤ n ∧ n ≤ p.n * p.b ∧ fitB p.b.toNat ls = true
def JoinPost (p : Par) (n : Int) (ls : List (List UInt8)) (w : World) (e : Ending) (w' : World) : Prop := Keeps NoB w w' ∧
  ((¬ JoinOk p n ls ∧ e = .returned (.tuple #[.slice none 0 0, .int .i64 2])) ∨ (JoinOk p n ls ∧ ∃ v, e = .returned (.tuple #[v, .int .i64 0]) ∧ OwnB w' w.heap.size v (joinN n.toNat ls)))
end Go.Proofs.YtnnkfopopanfjaaGreat
