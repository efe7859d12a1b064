/- What a payload and its blocks come to: the plain law of EmitSums. No condition. -/
import Derived.Test.YtpkkaicpbihjfaaEmit
import Derived.Test.YtpkkaicpbihjfaaComposite
import Derived.Test.YtpkkaicpbihjfaaHoldsMath
import Derived.Test.YtpkkaicpbihjfaaXorMath
set_option linter.unusedVariables false
namespace Go.Proofs.Ytpkkaicpbihjfaa

/-- The rows that EmitSums lays by the first k blocks. -/
noncomputable def rows14 (p : Par) (session : Nat) (obj : List UInt8) (id k : Nat) : List (List UInt8) := payN p session obj id :: pickR (compN p session obj) ((blkN p session id).take k)
theorem rows14_zero (p : Par) (session : Nat) (obj : List UInt8) (id : Nat) : rows14 p session obj id 0 = [payN p session obj id] := rfl
theorem rows14_length (p : Par) (session : Nat) (obj : List UInt8) (id k : Nat) (h : k ≤ (blkN p session id).length) : (rows14 p session obj id k).length = k + 1 := by
  unfold rows14; rw [List.length_cons, pickR_length, List.length_take]; omega
theorem rows14_succ {p : Par} (hm : p.may) (session : Nat) (obj : List UInt8) (id k : Nat) (h : k < (blkN p session id).length) : rows14 p session obj id (k + 1) = rows14 p session obj id k ++ [cmpN (compN p session obj) (gi (blkN p session id) k)] := by
  have hr := blkN_range hm session id obj (gi (blkN p session id) k) (by rw [gi_eq _ k h]; exact List.getElem_mem h)
  unfold rows14 cmpN
  rw [take_gi _ k h, pickR_snoc, if_pos hr.1]
  rfl
theorem rows14_fit {p : Par} (hm : p.may) (session : Nat) (obj : List UInt8) (id : Nat) : fitN p.b (rows14 p session obj id (blkN p session id).length) = true := by
  have h1 := (checkB_yes (comp_checkB hm session id obj)).2.2.2
  have hb : 1 ≤ p.b := hm.2.2.1
  unfold fitN rows14
  rw [List.take_length, decide_eq_true (show 0 ≤ p.b by omega), Bool.true_and]
  unfold fitB at h1 ⊢
  rw [List.all_cons, h1, Bool.and_true, decide_eq_true_eq]
  exact payN_length hm session obj id
theorem rows14_sum {p : Par} (hm : p.may) (session : Nat) (obj : List UInt8) (id : Nat) : zeroB (sumB p.b.toNat (rows14 p session obj id (blkN p session id).length)) = true := by
  unfold rows14
  rw [List.take_length, sumB_cons (payN_length hm session obj id)]
  show zeroB (xorL (payN p session obj id) (payN p session obj id)) = true
  rw [xor_self]
  exact zeroB_zero _
end Go.Proofs.Ytpkkaicpbihjfaa
