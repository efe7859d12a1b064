/- The reference of the graph: Find, Edges, Of, without walked. Condition: lengths are small. -/
import Derived.Test.YtnoooeeciebhfaaEqNSt
import Derived.Test.YtnoooeeciebhfaaRef
import Derived.IntWalk
set_option linter.unusedVariables false
namespace Go.Proofs.Ytnoooeeciebhfaa
open Go.RowKit

theorem mem_nums {es : List EqN} {n : Int} : n ∈ nums es ↔ ∃ j, j < es.length ∧ (gn es j).num = n := by
  unfold nums
  rw [List.mem_map]
  constructor
  · rintro ⟨e, he, h⟩
    obtain ⟨j, hj, rfl⟩ := List.getElem_of_mem he
    exact ⟨j, hj, by rw [gn_eq es j hj]; exact h⟩
  · rintro ⟨j, hj, h⟩
    exact ⟨gn es j, gn_mem es j hj, h⟩
theorem take_gn {es : List EqN} {k : Nat} (h : k < es.length) : es.take (k + 1) = es.take k ++ [gn es k] := by rw [List.take_succ_eq_append_getElem h, gn_eq es k h]
set_option maxHeartbeats 800000 in
set_option maxRecDepth 20000 in
theorem find19_calls (es : List EqN) (n : Int) (A : Option Addr) (c : Nat) (R : Nat → Prop) (w : World) (h : EqsN R w A es) (hm : es.length ≤ 1000000) :
    Calls Try.prog 23 #[.slice A es.length c, .int .i64 n] w fun e w' => ∃ r : Int, e = .returned (.int .i64 r) ∧ (0 ≤ r ↔ n ∈ nums es) ∧ w' = w := by
  have HE := hid h
  clear h
  obtain ⟨m, hm1⟩ : ∃ m, es.length = m := ⟨_, rfl⟩
  rw [hm1] at hm ⊢
  have HM := hid hm1
  clear hm1
  go_enter Try.func23, Try.ntmps23
  go_wp2_with fail
  go_loopw [5] (fun v5 wr => ∃ k : Nat, k ≤ m ∧ v5 = .int .i64 (k : Int) ∧ wr = w ∧ Hid (∀ j, j < k → (gn es j).num ≠ n)) (fun v5 _ => m - (intOf v5).toNat)
  case atStart => exact ⟨0, Nat.zero_le _, rfl, rfl, hid (fun j hj => absurd hj (Nat.not_lt_zero _))⟩
  case round =>
    obtain ⟨k, hk, rfl, rfl, HN⟩ := hrel
    by_cases hlt : k < m
    · obtain ⟨b, off, rfl, _, hc⟩ := HE.out.2 (by rw [HM.out]; omega)
      obtain ⟨u1, u2, c1, c2, rfl, _⟩ := hc k (by rw [HM.out]; exact hlt)
      have p0 : (0 : Int) ≤ (k : Int) := by omega
      have p1 : (k : Int) < (m : Int) := by omega
      clear hc
      by_cases he : (gn es k).num = n
      · have HF := hid (show n ∈ nums es from mem_nums.2 ⟨k, by rw [HM.out]; exact hlt, he⟩)
        generalize (gn es k).num = x at *
        subst he
        go_wp2_with fail
        go_ret
        exact ⟨k, rfl, ⟨fun _ => HF.out, fun _ => p0⟩, rfl⟩
      · have HN2 := hid (show ∀ j, j < k + 1 → (gn es j).num ≠ n from fun j hj => by
          rcases Nat.lt_succ_iff_lt_or_eq.1 hj with h1 | h1
          · exact HN.out j h1
          · rw [h1]; exact he)
        generalize (gn es k).num = x at *
        have e1 : (x = n) = False := eq_false he
        go_wp2_with fail
        go_roundw
        case rel => exact ⟨k + 1, by omega, by go_num, trivial, HN2⟩
        case measure => simp [intOf]; omega
    · obtain rfl : k = m := by omega
      go_wp2_with fail
      go_ret
      refine ⟨-1, rfl, ⟨fun h => absurd h (by decide), fun h => ?_⟩, rfl⟩
      obtain ⟨j, hj, h1⟩ := mem_nums.1 h
      exact absurd h1 (HN.out j (by rw [HM.out] at hj; exact hj))
set_option maxHeartbeats 800000 in
set_option maxRecDepth 20000 in
theorem edges19_calls (es : List EqN) (A : Option Addr) (c : Nat) (R : Nat → Prop) (w : World) (h : EqsN R w A es) (hm : es.length ≤ 1000000) (hr : ∀ e ∈ es, e.rest.length ≤ 1000000) :
    Calls Try.prog 25 #[.slice A es.length c] w fun e w' => e = .returned (.int .i64 (edgesN es : Int)) ∧ w' = w := by
  have HE := hid h
  have HB := hid (fun k (hk : k ≤ es.length) => edgesN_le (es.take k) 1000000 (fun e he => hr e (List.mem_of_mem_take he)))
  have HR := hid (fun k (hk : k < es.length) => hr (gn es k) (gn_mem es k hk))
  clear h hr
  obtain ⟨m, hm1⟩ : ∃ m, es.length = m := ⟨_, rfl⟩
  rw [hm1] at hm HB HR ⊢
  have HM := hid hm1
  clear hm1
  go_enter Try.func25, Try.ntmps25
  go_wp2_with fail
  go_loopw [3, 4] (fun v3 v4 wr => ∃ k : Nat, k ≤ m ∧ v4 = .int .i64 (k : Int) ∧ v3 = .int .i64 (edgesN (es.take k) : Int) ∧ wr = w) (fun _ v4 _ => m - (intOf v4).toNat)
  case atStart => exact ⟨0, Nat.zero_le _, rfl, rfl, rfl⟩
  case round =>
    obtain ⟨k, hk, rfl, rfl, rfl⟩ := hrel
    by_cases hlt : k < m
    · obtain ⟨b, off, rfl, _, hc⟩ := HE.out.2 (by rw [HM.out]; omega)
      obtain ⟨u1, u2, c1, c2, _, A2, d2, rfl, _⟩ := hc k (by rw [HM.out]; exact hlt)
      have p0 : (0 : Int) ≤ (k : Int) := by omega
      have p1 : (k : Int) < (m : Int) := by omega
      have hrk := HR.out k hlt
      have hbk := HB.out k hk
      have hlk : (es.take k).length = k := by rw [List.length_take, HM.out]; omega
      have HT := hid (show edgesN (es.take (k + 1)) = edgesN (es.take k) + (gn es k).rest.length by rw [take_gn (by rw [HM.out]; exact hlt), edgesN_snoc])
      rw [hlk] at hbk
      have hbk2 : edgesN (es.take k) ≤ 1000000000000 := Nat.le_trans hbk (by omega)
      clear hc hbk hlk
      generalize (gn es k).rest.length = lr at *
      generalize edgesN (es.take k) = x at *
      have hadd : IntKind.i64.wrap ((x : Int) + (lr : Int)) = (x : Int) + (lr : Int) := IntWalk.i64_in _ (by omega)
      go_wp2_with fail
      go_roundw
      case rel => exact ⟨k + 1, by omega, by go_num, by rw [HT.out]; rfl, trivial⟩
      case measure => simp [intOf]; omega
    · obtain rfl : k = m := by omega
      have ht : es.take k = es := by rw [← HM.out]; exact List.take_length
      rw [ht]
      go_wp2_with fail
      go_ret
      exact ⟨rfl, rfl⟩
set_option maxHeartbeats 800000 in
set_option maxRecDepth 20000 in
theorem of19_calls (es : List EqN) (n : Int) (A : Option Addr) (c : Nat) (R : Nat → Prop) (w : World) (h : EqsN R w A es) (hm : es.length ≤ 1000000) (hnd : (nums es).Nodup) :
    Calls Try.prog 20 #[.slice A es.length c, .int .i64 n] w fun e w' => ∃ v, e = .returned v ∧ OwnInts w' w.heap.size .i64 3 v (ofN es n) ∧ Keeps NoB w w' := by
  have HE := hid h
  have HL := hid (fun k => (ofN_spec (es.take k) n (by
    have : nums (es.take k) = (nums es).take k := by unfold nums; rw [List.map_take]
    rw [this]; exact hnd.sublist (List.take_sublist _ _))).2.2)
  clear h hnd
  obtain ⟨m, hm1⟩ : ∃ m, es.length = m := ⟨_, rfl⟩
  rw [hm1] at hm ⊢
  have HM := hid hm1
  clear hm1
  go_enter Try.func20, Try.ntmps20
  go_wp2_with fail
  have HO1 := hid (OwnInts.empty w w.heap.size .i64 3 (Nat.le_refl _))
  have HK1 := hid ((Keeps.refl NoB w).alloc (.cells #[] 3))
  generalize hw1 : w.alloc (.cells #[] 3) = w1 at *
  clear hw1
  go_loopw [5, 6] (fun v5 v6 wr => ∃ k : Nat, k ≤ m ∧ v6 = .int .i64 (k : Int) ∧ Hid (OwnInts wr w.heap.size .i64 3 v5 (ofN (es.take k) n)) ∧ Hid (Keeps NoB w wr)) (fun _ v6 _ => m - (intOf v6).toNat)
  case atStart => exact ⟨0, Nat.zero_le _, rfl, HO1, HK1⟩
  case round =>
    clear HO1 HK1
    obtain ⟨k, hk, rfl, HO, HK⟩ := hrel
    by_cases hlt : k < m
    · obtain ⟨b, off, rfl, _, hc⟩ := HE.out.2 (by rw [HM.out]; omega)
      obtain ⟨u1, u2, c1, c2, rfl, A2, d2, rfl, _, _, hat⟩ := hc k (by rw [HM.out]; exact hlt)
      have c1 := HK.out.cell c1 (fun h => h)
      have c2 := HK.out.cell c2 (fun h => h)
      have p0 : (0 : Int) ≤ (k : Int) := by omega
      have p1 : (k : Int) < (m : Int) := by omega
      have hlk := HL.out k
      have hlk2 : (es.take k).length = k := by rw [List.length_take, HM.out]; omega
      rw [hlk2] at hlk
      have HT := hid (show ofN (es.take (k + 1)) n = if n ∈ (gn es k).rest then ins (gn es k).num (ofN (es.take k) n) else ofN (es.take k) n by rw [take_gn (by rw [HM.out]; exact hlt), ofN_snoc])
      have HHC := hid (has_calls (gn es k).rest n A2 d2 wr (hat.1.kept HK.out))
      obtain ⟨A5, d5, hv5, _, hat5⟩ := HO.out.reads
      have HIC := hid (fun (w2 : World) (hk2 : Keeps NoB wr w2) => insert_calls (ofN (es.take k) n) (gn es k).num A5 d5 w2 (hat5.kept hk2) (by omega))
      clear hc hat hat5 hlk2
      obtain ⟨lr, hlr⟩ : ∃ lr, (gn es k).rest.length = lr := ⟨_, rfl⟩
      rw [hlr] at c2 HHC
      clear hlr
      obtain ⟨lo, hlo⟩ : ∃ lo, (ofN (es.take k) n).length = lo := ⟨_, rfl⟩
      rw [hlo] at HIC hv5
      clear hlo hlk
      subst hv5
      by_cases hmem : n ∈ (gn es k).rest
      · rw [decide_eq_true hmem] at HHC
        rw [if_pos hmem] at HT
        generalize (gn es k).num = x at *
        go_wp2_with fail
        refine HHC.out.mono ?_
        rintro e w2 ⟨rfl, hk2⟩
        have HIC2 := hid (HIC.out w2 hk2)
        have HK2 := hid (HK.out.fresh hk2)
        have c1 := hk2.cell c1 (fun h => h)
        clear hk2 HHC
        go_wp2_with fail
        refine HIC2.out.mono ?_
        rintro e w3 ⟨v3, rfl, ho3, hk3⟩
        have HO3 := hid (show OwnInts w3 w.heap.size .i64 3 v3 (ofN (es.take (k + 1)) n) by rw [HT.out]; exact OwnInts.lower ho3 HK2.out.size)
        have HK3 := hid (HK2.out.fresh hk3)
        clear ho3 hk3 HIC2
        go_wp2_with fail
        go_roundw
        case rel => exact ⟨k + 1, by omega, by go_num, HO3, HK3⟩
        case measure => simp [intOf]; omega
      · rw [decide_eq_false hmem] at HHC
        rw [if_neg hmem] at HT
        generalize (gn es k).num = x at *
        go_wp2_with fail
        refine HHC.out.mono ?_
        rintro e w2 ⟨rfl, hk2⟩
        have HO2 := hid (show OwnInts w2 w.heap.size .i64 3 (.slice A5 lo d5) (ofN (es.take (k + 1)) n) by rw [HT.out]; exact HO.out.kept hk2)
        have HK2 := hid (HK.out.fresh hk2)
        clear hk2 HHC
        go_wp2_with fail
        go_roundw
        case rel => exact ⟨k + 1, by omega, by go_num, HO2, HK2⟩
        case measure => simp [intOf]; omega
    · obtain rfl : k = m := by omega
      have ht : es.take k = es := by rw [← HM.out]; exact List.take_length
      rw [ht] at HO
      go_wp2_with fail
      go_ret
      exact ⟨_, rfl, HO.out, HK.out⟩
end Go.Proofs.Ytnoooeeciebhfaa
