/- Are two lists the same; is a number among some that rise; a sample by its contract. Conditions: lengths that the lists' reads bear. -/
import Derived.Test.YtnoooeeciebhfaaSome
import Derived.Test.YtnoooeeciebhfaaSampleMath
set_option linter.unusedVariables false
namespace Go.Proofs.Ytnoooeeciebhfaa
open Go.RowKit

def sameN (a b : List Int) : Int := if a = b then 1 else 0
theorem list_ext_gi {xs ys : List Int} (hl : xs.length = ys.length) (h : ∀ j, j < xs.length → gi xs j = gi ys j) : xs = ys := by
  apply List.ext_getElem hl
  intro j h1 h2
  have := h j h1
  rwa [gi_eq _ _ h1, gi_eq _ _ h2] at this
set_option maxHeartbeats 400000 in
theorem same_calls (xs ys : List Int) (A B : Option Addr) (ca cb : Nat) (w : World) (ha : IntsAt w .i64 A xs) (hb : IntsAt w .i64 B ys) :
    Calls Try.prog 22 #[.slice A xs.length ca, .slice B ys.length cb] w fun e w' => e = .returned (.int .i64 (sameN xs ys)) ∧ Keeps NoB w w' := by
  have la := ha.len
  have lb := hb.len
  have HA := hid ha
  have HB := hid hb
  clear ha hb
  by_cases hl : xs.length = ys.length
  · have HL := hid hl
    have hd2 : ((xs.length : Int) != (ys.length : Int)) = false := by simp [hl]
    clear hl
    go_enter Try.func22, Try.ntmps22
    go_wp2
    go_loopw [13] (fun i wr => ∃ k : Nat, k ≤ xs.length ∧ i = .int .i64 k ∧ Hid (∀ j, j < k → gi xs j = gi ys j) ∧ Hid (Keeps NoB w wr)) (fun i _ => xs.length - (intOf i).toNat)
    case atStart => exact ⟨0, Nat.zero_le _, rfl, fun j hj => absurd hj (Nat.not_lt_zero _), Keeps.refl _ _⟩
    case round =>
      obtain ⟨k, hk, rfl, HE, HK⟩ := hrel
      by_cases hlt : k < xs.length
      · have hky : k < ys.length := by have := HL.out; omega
        obtain ⟨b1, o1, rfl, h1⟩ := HA.out.get (by omega)
        obtain ⟨b2, o2, rfl, h2⟩ := HB.out.get (by omega)
        have c1 : wr.cell? ⟨b1, o1 + k, none⟩ = some (.int .i64 (gi xs k)) := HK.out.cell (h1 k hlt) (fun h => h)
        have c2 : wr.cell? ⟨b2, o2 + k, none⟩ = some (.int .i64 (gi ys k)) := HK.out.cell (h2 k hky) (fun h => h)
        clear h1 h2
        by_cases hxy : gi xs k = gi ys k
        · have hq : (gi xs k != gi ys k) = false := by simp [hxy]
          have HX := hid hxy
          clear hxy
          go_wp2
          go_quiet (fail)
          go_wp2
          go_roundw
          case rel => exact ⟨k + 1, by omega, by go_num, fun j hj => by rcases Nat.lt_or_ge j k with h | h; exact HE.out j h; obtain rfl : j = k := by omega
                                                                        exact HX.out, HK.out.drewN _⟩
          case measure => simp [intOf]; omega
        · have hq : (gi xs k != gi ys k) = true := by simp [hxy]
          have HX := hid hxy
          clear hxy
          go_wp2
          go_quiet (fail)
          go_wp2
          go_ret
          exact ⟨congrArg (fun x => Ending.returned (.int .i64 x)) (if_neg (fun e => HX.out (by rw [e]))).symm, HK.out.drewN _⟩
      · obtain rfl : k = xs.length := by omega
        go_wp2
        go_ret
        exact ⟨congrArg (fun x => Ending.returned (.int .i64 x)) (if_pos (list_ext_gi HL.out HE.out)).symm, HK.out⟩
  · have hd2 : ((xs.length : Int) != (ys.length : Int)) = true := by simp; omega
    have HL := hid hl
    clear hl
    go_enter Try.func22, Try.ntmps22
    go_wp2
    go_ret
    exact ⟨congrArg (fun x => Ending.returned (.int .i64 x)) (if_neg (fun e => HL.out (by rw [e]))).symm, Keeps.refl _ _⟩

theorem someS_lt (s : Nat) (below many : Int) (hs : s < 18446744073709551616) : someS s below many < 18446744073709551616 := drawN_lt s _ hs _
end Go.Proofs.Ytnoooeeciebhfaa
