/- A sample, as the program draws it: its walk. Conditions: the numbers are of their kinds; below is at most 2^30. -/
import Derived.Test.YtpkkaicpbihjfaaRefSome
import Derived.Test.YtpkkaicpbihjfaaSort
import Derived.Maps.OwnSet
set_option linter.unusedVariables false
namespace Go.Proofs.Ytpkkaicpbihjfaa
open Go.RowKit

theorem key_law : Maps.Keyed Try.prog 3 := Maps.int_keyed Try.underlying3
theorem zero_unit (w : World) : (zeroValue 135).run Try.prog w = .ok (.agg #[]) w := by kernel_rfl
/-- A set of numbers, by its keys in the order in which they were put. -/
def SetAt (w : World) (b n : Nat) (l : List Int) : Prop := w.ownsMap (H := Unit) Try.prog 3 unitElem b n (Maps.setOf (.agg []) (l.map (Lit.int .i64)))
theorem same_key_int (a b : Int) : (Lit.int .i64 a).sameKey (.int .i64 b) = decide (a = b) := by
  by_cases h : a = b
  · subst h; rw [WideAt.sameKey_self (a := .int .i64 a) trivial]; simp
  · rw [Maps.sameKey_ne (fun e => h (by injection e))]; simp [h]
theorem set_has (l : List Int) (x : Int) : Maps.has (Maps.setOf (H := Unit) (.agg []) (l.map (Lit.int .i64))) (.int .i64 x) = decide (x ∈ l) := by
  rw [Maps.has_setOf _ _ _ (fun y hy => by obtain ⟨a, _, rfl⟩ := List.mem_map.1 hy; trivial), List.any_map]
  rw [Bool.eq_iff_iff, List.any_eq_true, decide_eq_true_eq]
  constructor
  · rintro ⟨y, hy, h⟩
    rw [Function.comp_apply, same_key_int, decide_eq_true_eq] at h
    exact h ▸ hy
  · intro h
    exact ⟨x, h, by rw [Function.comp_apply, same_key_int]; simp⟩
theorem cnt_cast (below many : Int) : min (max many 0) (max below 0) = ((cntN below many : Nat) : Int) := by
  unfold cntN; split <;> omega
theorem cnt_le (below many : Int) : cntN below many ≤ below.toNat := by unfold cntN; split <;> omega
theorem ne_own {H : Type} {k : TypeId} {R : Value → Option (DataW H × List MemPlace)} {P : Program} {w : World} {b n : Nat} {D : DataW H} {base : Nat} {q : IntKind} {e : TypeId} {v : Value} {xs : List Int} (hm : w.ownsMap P k R b n D) (h : OwnInts w base q e v xs) : some b ≠ v.ownBlock := by
  obtain ⟨es, clock, hb, _⟩ := hm
  rcases h.2 with ⟨rfl, _⟩ | ⟨g, cap, cur, rfl, _, hg, _⟩
  · simp [Value.ownBlock]
  · intro e1
    have : b = g := by simpa [Value.ownBlock] using e1
    subst this
    rw [hb] at hg; cases hg
theorem SetAt.keeps {w w1 : World} {b n : Nat} {l : List Int} (h : SetAt w b n l) {S : Nat → Prop} (hk : Keeps S w w1) (hn : ¬ S b) : SetAt w1 b n l := by
  obtain ⟨es, clock, hb, r⟩ := h
  exact ⟨es, clock, hk.heap hb hn, r⟩
theorem SetAt.lt {w : World} {b n : Nat} {l : List Int} (h : SetAt w b n l) : b < w.heap.size := World.ownsMap.lt h
set_option maxRecDepth 20000 in
set_option maxHeartbeats 800000 in
theorem some_core (g s : Nat) (below many : Int) (cnt lo : Nat) (w : World) (h : RandAt w g s) (hb : below ≤ 1073741824) (hb' : -9223372036854775808 ≤ below) (hm0 : -9223372036854775808 ≤ many) (hm1 : many ≤ 9223372036854775807)
    (hc : cnt = cntN below many) (hl : lo = loN below many) :
    Calls Try.prog 70 #[.pointer (some ⟨g, 0, none⟩), .int .i64 below, .int .i64 many] w fun e w' => ∃ v, e = .returned v ∧ OwnInts w' w.heap.size .i64 3 v ((drawN s lo cnt).2.mergeSort (fun x y => decide (x ≤ y))) ∧ RandAt w' g (drawN s lo cnt).1 ∧ Keeps (· = g) w w' := by
  have HC := hid hc
  have HL := hid hl
  clear hc hl
  have hcnt := hid (show min (max many 0) (max below 0) = (cnt : Int) by rw [HC.out]; exact cnt_cast below many)
  have hcl : cnt ≤ below.toNat := by rw [HC.out]; exact cnt_le below many
  have hcn : cnt ≤ 1073741824 := by omega
  have hgl := h.lt
  have HR := hid h
  clear h
  have hmm := @run_makeMap Try.prog
  have hu := Try.underlying62
  obtain ⟨i0, hi, hz0, hz1, hz2⟩ := info_parts info_int
  go_enter Try.func70, Try.ntmps70
  go_wp2_with (at_make; rw [hcnt.out]; go_must (refine wpList_make_own _ rfl _ _ _ rfl w.heap.size 3 i0 (.int .i64 0) 1 hu hi hz0 hz1 .i64 .i64 _ cnt rfl rfl rfl (by rw [hz2]; omega) (by unfold maxLen; omega) (by simp) ?_); intro w1 hown1 hgr1)
  have hown1 : OwnInts w1 w.heap.size .i64 3 (.slice (some ⟨(w.alloc (.map #[] 0)).heap.size, 0, none⟩) 0 cnt) [] := hown1
  have e1 : (w.alloc (.map #[] 0)).heap.size = w.heap.size + 1 := by simp
  rw [e1] at hown1
  clear e1
  have HK1 := hid (((Keeps.refl (· = g) w).alloc (.map #[] 0)).grown hgr1 (fun i e => by cases e))
  have HS1 := hid (show SetAt w1 w.heap.size 0 [] from World.ownsMap.kept (World.ownsMap_made w Try.prog 3 unitElem) hgr1 (by simp))
  go_loopw [8, 9, 10] (fun v8 v9 _v10 wr => ∃ (i st : Nat) (l : List Int), i ≤ cnt ∧ v9 = .int .i64 (below - cnt + i) ∧ l.length ≤ i ∧ OwnInts wr w.heap.size .i64 3 v8 l ∧ Hid (drawN s lo i = (st, l)) ∧ Hid (SetAt wr w.heap.size i l) ∧ Hid (RandAt wr g st) ∧ Hid (Keeps (· = g) w wr)) (fun _ v9 _ _ => (below - intOf v9).toNat)
  case atStart => exact ⟨0, s, [], Nat.zero_le _, by go_num, Nat.le_refl _, hown1, rfl, HS1.out, (HR.out.keeps ((Keeps.refl NoB w).alloc (.map #[] 0)) (fun h => h)).keeps (Keeps.ofGrown hgr1) (fun e => by cases e), HK1.out⟩
  case round =>
    obtain ⟨i, st, l, hi', rfl, hli, hown, HD, HS, HRr, HK⟩ := hrel
    by_cases hlt : i < cnt
    · have hj1 := hid (show below - (cnt : Int) + (i : Int) + 1 = ((lo + i + 1 : Nat) : Int) by have := HL.out; unfold loN at this; rw [← HC.out] at this; omega)
      have hj0 := hid (show below - (cnt : Int) + (i : Int) = ((lo + i : Nat) : Int) by have := HL.out; unfold loN at this; rw [← HC.out] at this; omega)
      have hn9 := hid (show lo + i + 1 ≤ 9223372036854775807 by have := HL.out; unfold loN at this; rw [← HC.out] at this; omega)
      go_wp2_with fail
      rw [hj1.out]
      refine (below_calls g st (lo + i + 1) _ HRr.out hn9.out).mono ?_
      rintro e w2 ⟨rfl, hr1, HK2'⟩
      have hx := hid (show drawN s lo (i + 1) = ((belowN st (lo + i + 1)).1, l ++ [pickN l (lo + i) (belowN st (lo + i + 1)).2]) by
        show ((belowN (drawN s lo i).1 (lo + i + 1)).1, (drawN s lo i).2 ++ [pickN (drawN s lo i).2 (lo + i) (belowN (drawN s lo i).1 (lo + i + 1)).2]) = _
        rw [HD.out])
      have hxlt := belowN_below st (lo + i + 1) (by omega)
      have hmne : w.heap.size ≠ g := by omega
      have hs2 := hid (HS.out.keeps HK2' hmne)
      have hown2 : OwnInts w2 w.heap.size .i64 3 u8 l := hown.keeps HK2' (fun b hb e => by have := (hown.base_le b hb).1; omega)
      have HK2 := hid (HK.out.then HK2' (fun _ h _ => h))
      have HK2' := hid HK2'
      generalize hB : belowN st (lo + i + 1) = B at *
      obtain ⟨st1, x⟩ := B
      clear hB
      have hxw := hid (show (Lit.int .i64 (x : Int)).wf = true from WalkArith.wf_i64 (by have := hn9.out; simp only at hxlt; omega))
      by_cases hin : (x : Int) ∈ l
      · have hd : decide ((x : Int) ∈ l) = true := decide_eq_true hin
        have hp := hid (show pickN l (lo + i) x = below - (cnt : Int) + (i : Int) by rw [hj0.out]; unfold pickN; rw [if_pos hin])
        have hjw := hid (show (Lit.int .i64 (below - (cnt : Int) + (i : Int))).wf = true from WalkArith.wf_i64 (by omega))
        go_wp2_with (first
          | (at_lookup; go_must (refine wpList_lookup_own_unit _ rfl _ _ 134 rfl 3 135 key_law Try.underlying134 (zero_unit _) w.heap.size i _ rfl hs2.out _ _ rfl (Maps.keyOf_int_mk Try.underlying3 hxw.out) ?_); rw [set_has])
          | (at_mapUpdate; go_must (refine wpList_mapUpdate_own _ rfl _ _ _ 134 rfl 3 135 key_law Try.underlying134 unitElem w.heap.size i _ rfl (World.ownsMap.alloc hs2.out _) (by unfold maxLen; omega) _ _ _ rfl rfl (Maps.keyOf_int_mk Try.underlying3 hjw.out) _ [] unitElem_mk ?_); intro w3 hown3 hgr3; have hn3 := hid (show some w.heap.size ≠ u8.ownBlock from ne_own hs2.out hown2); have HO3 := hid (show OwnInts w3 w.heap.size .i64 3 u8 l from World.ownsRow.kept (OwnInts.alloc hown2 _) hgr3 (.inr (fun e => hn3.out e.symm))); have hs3 := hid (show SetAt w3 w.heap.size (i + 1) (l ++ [below - (cnt : Int) + (i : Int)]) by unfold SetAt; rw [List.map_append, List.map_cons, List.map_nil, Maps.setOf_snoc]; exact hown3); have HK3 := hid ((HK2.out.alloc (.cells #[] 135)).grown hgr3 (fun q e hq => by cases e; exact absurd hq (Nat.lt_irrefl _))); have HR3 := hid ((hr1.keeps ((Keeps.refl NoB w2).alloc (.cells #[] 135)) (fun h => h)).keeps (Keeps.ofGrown hgr3) (fun e => hmne (by cases e; rfl))); clear hown3 hgr3)
          | (at_builtin; go_must (refine wpList_app1 _ rfl _ _ 62 rfl w.heap.size 3 .i64 8 hu info_int _ _ rfl (OwnInts.alloc HO3.out _) _ _ _ rfl (cell_one _ _ _) (by omega) (by omega) (by have := HK3.out.size; simp; omega) ?_); intro v4 w4 hown4 hgr4 _))
        have hn4 : some w.heap.size ≠ u8.ownBlock := ne_own hs3.out HO3.out
        go_roundw
        case rel => exact ⟨i + 1, st1, l ++ [below - (cnt : Int) + (i : Int)], by omega, by go_num, by simp; omega, hown4, hid (by rw [hx.out, hp.out]), hid (World.ownsMap.kept (World.ownsMap.alloc hs3.out _) hgr4 hn4), hid ((HR3.out.keeps ((Keeps.refl NoB w3).alloc _) (fun h => h)).keeps (Keeps.ofGrown hgr4) (fun e => by have := (HO3.out.base_le g e.symm).1; omega)), hid ((HK3.out.alloc _).own (OwnInts.alloc HO3.out _) hgr4 (Nat.le_refl _))⟩
        case measure => simp [intOf]; omega
      · have hd : decide ((x : Int) ∈ l) = false := decide_eq_false hin
        have hp := hid (show pickN l (lo + i) x = (x : Int) by unfold pickN; rw [if_neg hin])
        go_wp2_with (first
          | (at_lookup; go_must (refine wpList_lookup_own_unit _ rfl _ _ 134 rfl 3 135 key_law Try.underlying134 (zero_unit _) w.heap.size i _ rfl hs2.out _ _ rfl (Maps.keyOf_int_mk Try.underlying3 hxw.out) ?_); rw [set_has])
          | (at_mapUpdate; go_must (refine wpList_mapUpdate_own _ rfl _ _ _ 134 rfl 3 135 key_law Try.underlying134 unitElem w.heap.size i _ rfl (World.ownsMap.alloc hs2.out _) (by unfold maxLen; omega) _ _ _ rfl rfl (Maps.keyOf_int_mk Try.underlying3 hxw.out) _ [] unitElem_mk ?_); intro w3 hown3 hgr3; have hn3 := hid (show some w.heap.size ≠ u8.ownBlock from ne_own hs2.out hown2); have HO3 := hid (show OwnInts w3 w.heap.size .i64 3 u8 l from World.ownsRow.kept (OwnInts.alloc hown2 _) hgr3 (.inr (fun e => hn3.out e.symm))); have hs3 := hid (show SetAt w3 w.heap.size (i + 1) (l ++ [(x : Int)]) by unfold SetAt; rw [List.map_append, List.map_cons, List.map_nil, Maps.setOf_snoc]; exact hown3); have HK3 := hid ((HK2.out.alloc (.cells #[] 135)).grown hgr3 (fun q e hq => by cases e; exact absurd hq (Nat.lt_irrefl _))); have HR3 := hid ((hr1.keeps ((Keeps.refl NoB w2).alloc (.cells #[] 135)) (fun h => h)).keeps (Keeps.ofGrown hgr3) (fun e => hmne (by cases e; rfl))); clear hown3 hgr3)
          | (at_builtin; go_must (refine wpList_app1 _ rfl _ _ 62 rfl w.heap.size 3 .i64 8 hu info_int _ _ rfl (OwnInts.alloc HO3.out _) _ _ _ rfl (cell_one _ _ _) (by omega) (by omega) (by have := HK3.out.size; simp; omega) ?_); intro v4 w4 hown4 hgr4 _))
        have hn4 : some w.heap.size ≠ u8.ownBlock := ne_own hs3.out HO3.out
        go_roundw
        case rel => exact ⟨i + 1, st1, l ++ [(x : Int)], by omega, by go_num, by simp; omega, hown4, hid (by rw [hx.out, hp.out]), hid (World.ownsMap.kept (World.ownsMap.alloc hs3.out _) hgr4 hn4), hid ((HR3.out.keeps ((Keeps.refl NoB w3).alloc _) (fun h => h)).keeps (Keeps.ofGrown hgr4) (fun e => by have := (HO3.out.base_le g e.symm).1; omega)), hid ((HK3.out.alloc _).own (OwnInts.alloc HO3.out _) hgr4 (Nat.le_refl _))⟩
        case measure => simp [intOf]; omega
    · obtain rfl : i = cnt := by omega
      go_wp2_with fail
      refine (sort_calls _ l w.heap.size _ hown (by omega)).mono ?_
      rintro e w2 ⟨rfl, hown2, hgr2⟩
      go_wp2_with fail
      go_ret
      refine ⟨_, rfl, ?_, ?_, HK.out.own hown hgr2 (Nat.le_refl _)⟩
      · rw [show (drawN s lo i).2 = l by rw [HD.out]]; exact hown2
      · rw [show (drawN s lo i).1 = st by rw [HD.out]]
        exact HRr.out.keeps (Keeps.ofGrown hgr2) (fun e => by have := (hown.base_le g e.symm).1; omega)
end Go.Proofs.Ytpkkaicpbihjfaa
