/- Does an equation hold of blocks: the program's walk. Conditions: lengths are small; what is read lies below. -/
import Derived.Test.YtnnkfopopanfjaaG2
set_option linter.unusedVariables false
namespace Go.Proofs.Ytnnkfopopanfjaa
open Go.RowKit

/-- Is there such a block, as long? -/
def okB (n : Nat) (bs : List (List UInt8)) (i : Int) : Bool := decide (0 ≤ i) && decide (i < (bs.length : Int)) && decide ((gr bs i.toNat).length = n)
def selB (bs : List (List UInt8)) (is : List Int) : List (List UInt8) := is.map fun i => gr bs i.toNat
/-- Does an equation hold of blocks? -/
def holdsE (is : List Int) (val : List UInt8) (bs : List (List UInt8)) : Bool := is.all (okB val.length bs) && zeroB (xorAll val (selB bs is))
theorem take_gi2 (is : List Int) (k : Nat) (h : k < is.length) : is.take (k + 1) = is.take k ++ [gi is k] := by rw [List.take_succ_eq_append_getElem h, gi_eq is k h]
theorem selB_snoc (bs : List (List UInt8)) (is : List Int) (i : Int) : selB bs (is ++ [i]) = selB bs is ++ [gr bs i.toNat] := by simp [selB]
theorem holdsE_no {is : List Int} {val : List UInt8} {bs : List (List UInt8)} {k : Nat} (hk : k < is.length) (h : okB val.length bs (gi is k) = false) : holdsE is val bs = false := by
  unfold holdsE
  rw [show is.all (okB val.length bs) = false from List.all_eq_false.2 ⟨gi is k, gi_mem is k hk, by simp [h]⟩, Bool.false_and]
theorem allOk_fit {n : Nat} {bs : List (List UInt8)} {is : List Int} (h : is.all (okB n bs) = true) : fitB n (selB bs is) = true := by
  unfold fitB selB
  rw [List.all_map, List.all_eq_true]
  intro i hi
  have := List.all_eq_true.1 h i hi
  simp only [okB, Bool.and_eq_true, decide_eq_true_eq] at this
  simpa using this.2
theorem bytes_one (R : Nat → Prop) (w : World) {u : Value} {l : List UInt8} {T : TypeId} (h : RowIn R w u l) (hR : ∀ b, R b → b < w.heap.size) : RowsIn (fun b => R b ∨ b = w.heap.size) (w.alloc (.cells #[u] T)) (some ⟨w.heap.size, 0, none⟩) [l] := by
  refine ⟨by simp, fun _ => ⟨w.heap.size, 0, rfl, .inr rfl, fun j hj => ?_⟩⟩
  obtain rfl : j = 0 := by simpa using hj
  exact ⟨u, cell_one _ _ _, (h.keeps ((Keeps.refl NoB w).alloc _) (fun _ _ h => h)).mono (fun b _ hb => .inl hb)⟩
theorem box_two (w : World) (a b : Value) (T : TypeId) : (w.alloc (.cells #[a, b] T)).cell? ⟨w.heap.size, 0, none⟩ = some a ∧ (w.alloc (.cells #[a, b] T)).cell? ⟨w.heap.size, 1, none⟩ = some b := by
  constructor <;> (unfold World.cell?; rw [heap_alloc_new]; rfl)
theorem OwnInts.empty1 (w : World) (o : Obj) (base : Nat) (k : IntKind) (e : TypeId) (hb : base ≤ w.heap.size) : OwnInts ((w.alloc o).alloc (.cells #[] e)) base k e (.slice (some ⟨w.heap.size + 1, 0, none⟩) 0 0) [] := by
  have := OwnInts.empty (w.alloc o) base k e (by simp; omega)
  rwa [World.size_alloc] at this
end Go.Proofs.Ytnnkfopopanfjaa
