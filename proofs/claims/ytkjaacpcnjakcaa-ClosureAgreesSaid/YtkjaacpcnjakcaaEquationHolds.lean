/- Whether any equation holds of any blocks is the document's: the law's walk. Conditions: lengths that memory bears. -/
import Derived.Test.YtkjaacpcnjakcaaSpeaks15
import Derived.Test.YtkjaacpcnjakcaaLaw15Big
import Derived.Test.YtkjaacpcnjakcaaSame
import Derived.Deep.RegionHeld3
set_option linter.unusedVariables false
namespace Go.Proofs.Ytkjaacpcnjakcaa
open Go.RowKit

theorem eqs_one {R : Nat → Prop} {w : World} {A1 A2 : Option Addr} {c1 c2 : Nat} {x : EqV} (h1 : IntsIn R w A1 x.of) (h2 : BytesIn R w A2 x.val) (l1 : x.of.length ≤ c1) (l2 : x.val.length ≤ c2) (n1 : A1 = none → c1 = 0) (n2 : A2 = none → c2 = 0) :
    EqsIn (fun b => R b ∨ b = w.heap.size) (w.alloc (.cells #[.slice A1 x.of.length c1, .slice A2 x.val.length c2] 69)) (some ⟨w.heap.size, 0, none⟩) [x] := by
  have hk := (Keeps.refl NoB w).alloc (.cells #[.slice A1 x.of.length c1, .slice A2 x.val.length c2] 69)
  have hb := box_two w (.slice A1 x.of.length c1) (.slice A2 x.val.length c2) 69
  refine ⟨by simp, fun _ => ⟨w.heap.size, 0, rfl, .inr rfl, fun j hj => ?_⟩⟩
  match j, hj with
  | 0, _ => exact ⟨_, _, hb.1, hb.2, ⟨A1, c1, rfl, l1, n1, (h1.keeps hk (fun _ _ h => h)).mono (fun b _ h => .inl h)⟩, ⟨A2, c2, rfl, l2, n2, (h2.keeps hk (fun _ _ h => h)).mono (fun b _ h => .inl h)⟩⟩
end Go.Proofs.Ytkjaacpcnjakcaa
