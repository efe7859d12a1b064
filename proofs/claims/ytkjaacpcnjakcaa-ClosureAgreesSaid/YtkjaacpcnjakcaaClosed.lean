/- Are all blocks of an equation among those that are known: the walk of closure.Closed. Conditions: the known rise; lengths are small. -/
import Derived.Test.YtkjaacpcnjakcaaFits
import Derived.Test.YtkjaacpcnjakcaaSort
set_option linter.unusedVariables false
namespace Go.Proofs.Ytkjaacpcnjakcaa
open Go.RowKit

def inAllN (known of : List Int) : Bool := of.all fun i => decide (i ∈ known)
theorem inAllN_no {known of : List Int} {k : Nat} (hk : k < of.length) (h : gi of k ∉ known) : inAllN known of = false := by
  have hm : gi of k ∈ of := by
    have : gi of k = of[k] := by simp [gi, hk]
    rw [this]; exact List.getElem_mem _
  cases hx : inAllN known of with
  | false => rfl
  | true => exact absurd (of_decide_eq_true (List.all_eq_true.1 hx _ hm)) h
theorem inAllN_yes {known of : List Int} (h : ∀ k, k < of.length → gi of k ∈ known) : inAllN known of = true :=
  List.all_eq_true.2 fun x hx => by
    obtain ⟨k, hk, rfl⟩ := List.getElem_of_mem hx
    have := h k hk
    exact decide_eq_true (by simpa [gi, hk] using this)

set_option maxHeartbeats 1600000 in
set_option maxRecDepth 20000 in
theorem closed_calls (known of : List Int) (K A : Option Addr) (ck c : Nat) (w : World) (hk : IntsAt w .i64 K known) (hs : known.Pairwise (· ≤ ·)) (hkl : known.length ≤ 1073741824) (h : IntsAt w .i64 A of) :
    Calls Try.prog 34 #[.slice K known.length ck, .slice A of.length c] w fun e w' => e = .returned (.bool (inAllN known of)) ∧ ∃ q, w' = w.drewN q := by
  have hl := h.len
  have HC := hid h
  have HK := hid hk
  have HS := hid hs
  have HNO := hid (fun k (hk : k < of.length) (h : gi of k ∉ known) => inAllN_no hk h)
  have HYES := hid (inAllN_yes (known := known) (of := of))
  clear h hk hs
  obtain ⟨n, hn⟩ : ∃ n, of.length = n := ⟨_, rfl⟩
  rw [hn] at hl ⊢
  have hnn := hid hn
  clear hn
  go_enter Try.func34, Try.ntmps34
  go_wp2_with fail
  go_loopw [11] (fun v11 wr => ∃ k : Nat, k ≤ n ∧ v11 = .int .i64 (k : Int) ∧ Hid (∀ j, j < k → gi of j ∈ known) ∧ Hid (∃ q, wr = w.drewN q)) (fun v11 _ => n - (intOf v11).toNat)
  case atStart => exact ⟨0, Nat.zero_le _, rfl, fun j hj => absurd hj (Nat.not_lt_zero _), 0, rfl⟩
  case round =>
    obtain ⟨k, hk, rfl, HJ, HW⟩ := hrel
    by_cases hlt : k < n
    · obtain ⟨b, off, rfl, hc⟩ := HC.out.get (by rw [hnn.out]; omega)
      have c1 : wr.cell? ⟨b, off + k, none⟩ = some (.int .i64 (gi of k)) := by
        obtain ⟨q, rfl⟩ := HW.out
        exact hc k (by rw [hnn.out]; exact hlt)
      have p0 : (0 : Int) ≤ (k : Int) := by omega
      have p1 : (k : Int) < (n : Int) := by omega
      have hno := hid (HNO.out k (by rw [hnn.out]; exact hlt))
      have HKW := hid (show IntsAt wr .i64 K known by obtain ⟨q, rfl⟩ := HW.out; exact HK.out)
      have HJ2 := hid (show gi of k ∈ known → ∀ j, j < k + 1 → gi of j ∈ known from fun hx j hj => by
        by_cases e : j = k
        · rw [e]; exact hx
        · exact HJ.out j (by omega))
      clear hc
      generalize gi of k = x at *
      go_wp2_with fail
      refine (search_calls known x K ck wr HKW.out HS.out (by omega)).mono ?_
      rintro e w2 ⟨rfl, hw2'⟩
      obtain ⟨q2, hw2⟩ := hw2'
      have HW2 := hid (show ∃ q, w2 = w.drewN q from by obtain ⟨q, rfl⟩ := HW.out; exact ⟨q + q2, by rw [hw2, World.drewN_drewN]⟩)
      clear hw2
      by_cases hx : x ∈ known
      · rw [decide_eq_true hx]
        have HJ3 := hid (HJ2.out hx)
        clear hx HJ2
        go_wp2_with fail
        go_roundw
        case rel => exact ⟨k + 1, by omega, by go_num, HJ3, HW2⟩
        case measure => simp [intOf]; omega
      · rw [decide_eq_false hx]
        have hr := hid (hno.out hx)
        clear hx HJ2
        go_wp2_with fail
        go_ret
        rw [hr.out]; exact ⟨rfl, HW2.out⟩
    · obtain rfl : k = n := by omega
      have hr := hid (HYES.out (fun j hj => HJ.out j (by rw [← hnn.out]; exact hj)))
      go_wp2_with fail
      go_ret
      rw [hr.out]; exact ⟨rfl, HW.out⟩
end Go.Proofs.Ytkjaacpcnjakcaa
