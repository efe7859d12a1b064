/- The payloads of two objects, as long, and of both put upon each other: the plain law of EmitAdds. Conditions: parameters that may be. -/
import Derived.Test.YtpkkaicpbihjfaaEmit
import Derived.Test.YtpkkaicpbihjfaaAddsMath
import Derived.Test.YtpkkaicpbihjfaaXorMath
set_option linter.unusedVariables false
namespace Go.Proofs.Ytpkkaicpbihjfaa

theorem pay_xor {p : Par} (hm : p.may) (session : Nat) (a b : List UInt8) (h : b.length = a.length) (id : Nat) : payN p session (xorL a b) id = xorL (payN p session a id) (payN p session b id) := by
  have hr := blkN_range hm session id a
  have hc : ∀ i ∈ blkN p session id, i.toNat < p.n.toNat + (auxN p).toNat := fun i hi => by
    have := hr i hi
    rw [compN_length'] at this
    omega
  have key := sum_xor (n := p.b.toNat) (blkN p session id) (compN p session a) (compN p session b) (compN p session (xorL a b)) (fun i hi => (comp_xor hm session a b h i.toNat (hc i hi)).1) (fun i hi => (comp_xor hm session a b h i.toNat (hc i hi)).2.1)
    (fun i hi => by
      have hx := comp_xor hm session a b h i.toNat (hc i hi)
      rw [← hx.2.2, sum_two hx.1])
    (List.replicate p.b.toNat 0) (List.replicate p.b.toNat 0) (by simp) (by simp)
  rw [xorL_zero (by simp)] at key
  exact key
/-- The three payloads that EmitAdds puts upon each other. -/
noncomputable def three14 (p : Par) (session : Nat) (a b : List UInt8) (id : Nat) : List (List UInt8) := [payN p session a id, payN p session b id, payN p session (xorL a b) id]
theorem three14_fit {p : Par} (hm : p.may) (session : Nat) (a b : List UInt8) (id : Nat) : fitN p.b (three14 p session a b id) = true := by
  have hb : 1 ≤ p.b := hm.2.2.1
  unfold fitN three14 fitB
  simp [payN_length hm session a id, payN_length hm session b id, payN_length hm session (xorL a b) id]
  omega
theorem three14_sum {p : Par} (hm : p.may) (session : Nat) (a b : List UInt8) (h : b.length = a.length) (id : Nat) : zeroB (sumB p.b.toNat (three14 p session a b id)) = true := by
  have h1 := payN_length hm session a id
  have h2 := payN_length hm session b id
  unfold three14
  rw [pay_xor hm session a b h]
  show zeroB (xorL (xorL (xorL (List.replicate p.b.toNat 0) (payN p session a id)) (payN p session b id)) (xorL (payN p session a id) (payN p session b id))) = true
  rw [xorL_zero h1, xor_self]
  exact zeroB_zero _
theorem sum_pair {n : Nat} {a b : List UInt8} (ha : a.length = n) : sumB n [a, b] = xorL a b := sum_two ha
end Go.Proofs.Ytpkkaicpbihjfaa
