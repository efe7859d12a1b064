/- The laws of layer 10: what they speak. No condition but that numbers are of their kinds. -/
import Derived.Test.YtdjfacdlcnnjnaaOuterNew
import Derived.Laws.Rows
set_option linter.unusedVariables false
namespace Go.Proofs.Ytdjfacdlcnnjnaa
open Go.RowKit

def par1 : Par := ⟨1, 1, 1, 1000, 2⟩
theorem par1_may : par1.may := by decide
theorem aux1 : auxN par1 = 1 := by decide
theorem of1 (s i : Nat) : ofN par1 s i = [0] := by
  unfold ofN
  rw [aux1]
  exact someN_all _ 1
theorem ofs1 (s : Nat) : ofsN par1 s 1 = [[0]] := by
  show [ofN par1 s 0] = _
  rw [of1]
theorem has1 (s : Nat) : hasN par1 s 1 = [[0]] := by
  show putAll (List.replicate (auxN par1).toNat []) 0 (ofN par1 s 0) = _
  rw [of1, aux1]; rfl
set_option maxHeartbeats 800000 in
set_option maxRecDepth 20000 in
theorem speaks10_calls (w : World) :
    Calls Try.prog 39 #[] w fun e w' => e = .returned (.bool true) ∧ Keeps NoB w w' := by
  go_enter Try.func39, Try.ntmps39
  go_wp2_with fail
  refine (onew_yes par1 7 _ par1_may (by omega)).mono ?_
  rintro e w1 ⟨g, rfl, hg, HK1⟩
  have HG : GraphAt w1 g [[0]] [[0]] := by
    have e1 := ofs1 7
    have e2 := has1 7
    rw [show par1.n.toNat = 1 from rfl, e1, e2] at hg
    exact hg
  clear hg
  have HG := hid HG
  have HK1 := hid HK1
  have ge : Hid (eqN [[0]] [[0]] 0 = [0, 1]) := hid rfl
  have gn : Hid (getN [[0]] 0 = [0]) := hid rfl
  go_wp2_with fail
  refine (gEquation_calls g [[0]] [[0]] 0 _ HG.out (by omega) (by omega)).mono ?_
  rintro e w2 ⟨v2, rfl, hown2, HK2⟩
  rw [ge.out] at hown2
  obtain ⟨A2, c2, rfl, _, hat2⟩ := hown2.reads
  have HG := hid (HG.out.kept HK2)
  have HK2 := hid (HK1.out.fresh HK2)
  have hat2 := hid hat2
  clear hown2
  go_wp2_with fail
  refine (same_calls [0, 1] [0, 1] A2 _ c2 _ _ (hat2.out.kept ((Keeps.refl NoB w2).alloc _)) (IntsAt.ofBlock [0, 1] (heap_alloc_new w2 _) (by decide))).mono ?_
  rintro e w3 ⟨rfl, HK3⟩
  have HK3 := hid (((Keeps.refl NoB w2).alloc (.cells #[.int .i64 0, .int .i64 1] 3)).fresh HK3)
  have HG := hid (HG.out.kept HK3.out)
  have HK3 := hid (HK2.out.fresh HK3.out)
  have es : sameN [0, 1] [0, 1] = 1 := rfl
  rw [es]
  clear es
  go_wp2_with fail
  refine (gOf_calls g [[0]] [[0]] 0 _ HG.out (by omega) (by omega)).mono ?_
  rintro e w4 ⟨v4, rfl, hown4, HK4⟩
  rw [gn.out] at hown4
  obtain ⟨A4, c4, rfl, _, hat4⟩ := hown4.reads
  have HG := hid (HG.out.kept HK4)
  have HK4 := hid (HK3.out.fresh HK4)
  have hat4 := hid hat4
  clear hown4
  go_wp2_with fail
  refine (same_calls [0] [0] A4 _ c4 _ _ (hat4.out.kept ((Keeps.refl NoB w4).alloc _)) (IntsAt.ofBlock [0] (heap_alloc_new w4 _) (by decide))).mono ?_
  rintro e w5 ⟨rfl, HK5⟩
  have HK5 := hid (((Keeps.refl NoB w4).alloc (.cells #[.int .i64 0] 3)).fresh HK5)
  have HG := hid (HG.out.kept HK5.out)
  have HK5 := hid (HK4.out.fresh HK5.out)
  have es : sameN [0] [0] = 1 := rfl
  rw [es]
  clear es
  go_wp2_with fail
  refine (gMessage_calls g [[0]] [[0]] _ HG.out).mono ?_
  rintro e w6 ⟨rfl, rfl⟩
  go_wp2_with fail
  refine (gAuxiliary_calls g [[0]] [[0]] _ HG.out).mono ?_
  rintro e w7 ⟨rfl, rfl⟩
  go_wp2_with fail
  go_ret
  exact ⟨rfl, HK5.out⟩
/-- Parameters of no more blocks than are looked at. -/
def smP (p : Par) : Par := if 60 < p.n then ⟨1 + p.n % 60, p.b, p.q, p.eps, p.f⟩ else p
theorem smP_le (p : Par) : (smP p).n ≤ 60 := by unfold smP; split <;> (try simp) <;> omega
theorem smP_wf {p : Par} (h : p.wf) : (smP p).wf := by
  unfold Par.wf at *; unfold smP; split <;> (try simp) <;> omega
set_option maxHeartbeats 400000 in
theorem smaller_calls (p : Par) (w : World) :
    Calls Try.prog 41 #[p.val] w fun e w' => e = .returned (smP p).val ∧ Keeps NoB w w' := by
  have hu := Try.underlying66
  unfold Par.val
  by_cases h : 60 < p.n
  · have d1 : decide ((60 : Int) < p.n) = true := decide_eq_true h
    have hs := hid (show smP p = ⟨1 + p.n % 60, p.b, p.q, p.eps, p.f⟩ from if_pos h)
    go_enter Try.func41, Try.ntmps41
    go_wp2_with fail
    refine bodyPost_ret (results_cell_row rfl _ _ (w.heap.size + 1) 66 _ (0, 0) _ rfl (heap_alloc2_new w _ _) hu rfl (by kernel_rfl)) rfl ?_
    rw [hs.out]
    exact ⟨rfl, ((Keeps.refl NoB w).alloc _).alloc _⟩
  · have d1 : decide ((60 : Int) < p.n) = false := decide_eq_false h
    have hs := hid (show smP p = p from if_neg h)
    go_enter Try.func41, Try.ntmps41
    go_wp2_with fail
    refine bodyPost_ret (results_cell_row rfl _ _ (w.heap.size + 1) 66 _ (0, 0) _ rfl (heap_alloc2_new w _ _) hu rfl (by kernel_rfl)) rfl ?_
    rw [hs.out]
    exact ⟨rfl, ((Keeps.refl NoB w).alloc _).alloc _⟩
end Go.Proofs.Ytdjfacdlcnnjnaa
