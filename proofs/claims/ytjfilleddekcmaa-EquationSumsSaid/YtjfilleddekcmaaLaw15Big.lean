/- Are there more equations, or greater ones, than are looked at: the law's walk. Condition: lengths that memory bears. -/
import Derived.Test.YtjfilleddekcmaaEqAdd
set_option linter.unusedVariables false
namespace Go.Proofs.Ytjfilleddekcmaa
open Go.RowKit

structure SmallE (es : List EqV) : Prop where
  len : es.length ≤ 300
  of : (ofsE es).length ≤ 300
  val : ∀ e ∈ es, e.val.length ≤ 60
set_option maxHeartbeats 800000 in
set_option maxRecDepth 20000 in
theorem big_calls (es : List EqV) (A : Option Addr) (c : Nat) (R : Nat → Prop) (w : World) (he : EqsIn R w A es) (hmx : ∀ e ∈ es, e.of.length ≤ 140737488355328 ∧ e.val.length ≤ 140737488355328) :
    Calls Try.prog 16 #[.slice A es.length c] w fun e w' => ∃ b, e = .returned (.bool b) ∧ (b = false → SmallE es) ∧ Keeps NoB w w' := by
  have hl := he.1
  have HE := hid he
  have HT := hid (take_ge es)
  have HMX := hid (fun k (hk : k < es.length) => hmx (ge es k) (ge_mem es k hk))
  clear he hmx
  obtain ⟨m, hm⟩ : ∃ m, es.length = m := ⟨_, rfl⟩
  rw [hm] at hl ⊢
  have hmm := hid hm
  clear hm
  go_enter Try.func16, Try.ntmps16
  go_wp2_with fail
  go_loopw [3, 8] (fun v3 v8 wr => ∃ k q : Nat, k ≤ m ∧ v8 = .int .i64 (k : Int) ∧ v3 = .int .i64 (q : Int) ∧ q ≤ 300 ∧ Hid (q = (ofsE (es.take k)).length + k) ∧ Hid (∀ e ∈ es.take k, e.val.length ≤ 60) ∧ Hid (Keeps NoB w wr)) (fun _ v8 _ => m - (intOf v8).toNat)
  case atStart => exact ⟨0, 0, Nat.zero_le _, rfl, rfl, Nat.zero_le _, hid rfl, hid (fun e he => by simp at he), Keeps.refl _ _⟩
  case round =>
    obtain ⟨k, q, hk, rfl, rfl, hq, HQ, HV, HK⟩ := hrel
    by_cases hlt : k < m
    · obtain ⟨b, off, rfl, hbR, hc⟩ := HE.out.2 (by rw [hmm.out]; omega)
      obtain ⟨u1, u2, h1, h2, ⟨A1, c1, rfl, _, _, _⟩, ⟨A2, c2, rfl, _, _, _⟩⟩ := hc k (by rw [hmm.out]; exact hlt)
      have e1 := HK.out.cell h1 (fun h => h)
      have e2 := HK.out.cell h2 (fun h => h)
      have p0 : (0 : Int) ≤ (k : Int) := by omega
      have p1 : (k : Int) < (m : Int) := by omega
      obtain ⟨hx1, hx2⟩ := HMX.out k (by rw [hmm.out]; exact hlt)
      have ht := hid (HT.out k (by rw [hmm.out]; exact hlt))
      clear hc h1 h2 hbR
      generalize hge : ge es k = ek at *
      obtain ⟨eof, evl⟩ := ek
      dsimp only at *
      by_cases h1 : 300 < q + (eof.length + 1)
      · have d1 : decide ((300 : Int) < (q : Int) + ((eof.length : Int) + 1)) = true := decide_eq_true (by omega)
        go_wp2_with fail
        go_ret
        exact ⟨true, rfl, (fun h => absurd h (by simp)), HK.out.alloc _⟩
      · have d1 : decide ((300 : Int) < (q : Int) + ((eof.length : Int) + 1)) = false := decide_eq_false (by omega)
        by_cases h2 : 60 < evl.length
        · have d2 : decide ((60 : Int) < (evl.length : Int)) = true := decide_eq_true (by omega)
          go_wp2_with fail
          go_ret
          exact ⟨true, rfl, (fun h => absurd h (by simp)), HK.out.alloc _⟩
        · have d2 : decide ((60 : Int) < (evl.length : Int)) = false := decide_eq_false (by omega)
          have HQ2 := hid (show q + (eof.length + 1) = (ofsE (es.take (k + 1))).length + (k + 1) by
            rw [ht.out, ofsE_snoc, List.length_append]
            have := HQ.out
            show q + (eof.length + 1) = (ofsE (es.take k)).length + eof.length + (k + 1)
            omega)
          have HV2 := hid (show ∀ e ∈ es.take (k + 1), e.val.length ≤ 60 from fun e he => by
            rw [ht.out] at he
            rcases List.mem_append.1 he with h | h
            · exact HV.out e h
            · rw [List.mem_singleton.1 h]; show evl.length ≤ 60; omega)
          go_wp2_with fail
          go_roundw
          case rel => exact ⟨k + 1, q + (eof.length + 1), by omega, by go_num, by go_num, by omega, HQ2, HV2, hid (HK.out.alloc _)⟩
          case measure => simp [intOf]; omega
    · obtain rfl : k = m := by omega
      have hall : es.take k = es := by rw [← hmm.out, List.take_length]
      rw [hall] at HQ HV
      go_wp2_with fail
      go_ret
      refine ⟨false, rfl, fun _ => ⟨?_, ?_, HV.out⟩, HK.out⟩
      · have := HQ.out; have := hmm.out; omega
      · have := HQ.out; omega
end Go.Proofs.Ytjfilleddekcmaa
