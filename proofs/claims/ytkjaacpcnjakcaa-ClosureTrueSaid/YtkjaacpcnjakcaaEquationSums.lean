/- Equations that hold of blocks, put upon each other, hold of them, too: the law's walk. Conditions: lengths that memory bears. -/
import Derived.Test.YtkjaacpcnjakcaaEquationHolds
import Derived.Test.YtkjaacpcnjakcaaEqsOwn
import Derived.Test.YtkjaacpcnjakcaaSumsMath
set_option linter.unusedVariables false
namespace Go.Proofs.Ytkjaacpcnjakcaa
open Go.RowKit
attribute [local go_sem ↓] Go.wp_at_zero Go.wp_at_succ

theorem wpList_copyB {ops : Array Oper} {rest : List Oper} {o : Oper} {a : Act} {w : World} {Q : Exit → Act → World → Prop} (hgd : o.guard = none) (d s : Operand) (dT sT : TypeId)
    (ho : o.op = .call { callee := .builtin .copy, args := #[d, s], argTypes := #[dT, sT] }) (hu : Try.prog.underlying dT = some (.slice 5)) (base : Nat) (v : Value) (to b : List UInt8) (hd : a.eval d = v) (hown : OwnB w base v to) (R : Nat → Prop) (A : Option Addr) (m c : Nat)
    (hs : a.eval s = .slice A m c) (hm : b.length = m) (hb : BytesIn R w A b)
    (h : ∀ (n : Nat) (w' : World), n = min b.length to.length → OwnB w' base v (b.take n ++ to.drop n) → Keeps (fun k => v.ownBlock = some k) w w' → wpList Try.prog ops Q rest (a.put o.dst (goInt n)) w') : wpList Try.prog ops Q (o :: rest) a w := by
  refine wpList_plain hgd fun K hK => ?_
  obtain ⟨n, w', hrun, h1, h2, h3⟩ := run_copy_bytes dT sT o.type hu hown c hb
  rw [hm] at hrun
  unfold Oper.wp
  simp [execOp, ho, resolve, invoke, builtin, hd, hs, hrun, Result.andThen]
  exact hK _ _ (h n w' h1 h2 h3)
theorem cells4 {w : World} {b : Nat} {x0 x1 x2 x3 : Value} {T : TypeId} {fr : Nat × Nat} (h : w.heap[b]? = some (.cells #[x0, x1, x2, x3] T fr)) :
    w.cell? ⟨b, 0, none⟩ = some x0 ∧ w.cell? ⟨b, 1, none⟩ = some x1 ∧ w.cell? ⟨b, 2, none⟩ = some x2 ∧ w.cell? ⟨b, 3, none⟩ = some x3 := by simp [World.cell?, h]
theorem eqs_dup {w : World} {u1 u2 : Value} {x : EqV} {R : Nat → Prop} (h : PairIn R w u1 u2 x) : EqsIn (fun _ => True) (w.alloc (.cells #[u1, u2, u1, u2] 69)) (some ⟨w.heap.size, 0, none⟩) [x, x] := by
  have hk := (Keeps.refl NoB w).alloc (.cells #[u1, u2, u1, u2] 69)
  have hb := heap_alloc_new w (.cells #[u1, u2, u1, u2] 69)
  have h2 := (h.keeps hk (fun _ _ h => h)).mono (R' := fun _ => True) (fun _ _ _ => trivial)
  refine ⟨by simp, fun _ => ⟨w.heap.size, 0, rfl, trivial, fun j hj => ?_⟩⟩
  match j, hj with
  | 0, _ => exact ⟨u1, u2, (cells4 hb).1, (cells4 hb).2.1, h2.1, h2.2⟩
  | 1, _ => exact ⟨u1, u2, (cells4 hb).2.2.1, (cells4 hb).2.2.2, h2.1, h2.2⟩
end Go.Proofs.Ytkjaacpcnjakcaa
