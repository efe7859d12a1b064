/- The reference of the graph: without, Drop, Add walked. Condition: lengths are small. -/
import Derived.Test.YtnoooeeciebhfaaRef19
set_option linter.unusedVariables false
namespace Go.Proofs.Ytnoooeeciebhfaa
open Go.RowKit

theorem info_int5 : (Try.prog.info? 3).map (fun i => (i.zero, i.size, i.bytes)) = some (some (.int .i64 0), 1, 8) := by kernel_rfl
theorem OwnEqN.empty (R : Nat → Prop) (w : World) (base : Nat) (hb : base ≤ w.heap.size) : OwnEqN R (w.alloc (.cells #[] 79)) base (.slice (some ⟨w.heap.size, 0, none⟩) 0 0) [] :=
  ⟨[], World.ownsRow_made w #[] 0 hb (Nat.zero_le _) rfl, rfl, fun j hj => by simp at hj⟩
theorem without_snoc (l : List Int) (b y : Int) : withoutN (l ++ [y]) b = if y = b then withoutN l b else withoutN l b ++ [y] := by
  unfold withoutN
  rw [List.filter_append]
  by_cases h : y = b
  · rw [if_pos h]; simp [h]
  · rw [if_neg h]; simp [h]
theorem dropN_snoc (es : List EqN) (n : Int) (e : EqN) : dropN (es ++ [e]) n = if e.num = n then dropN es n else dropN es n ++ [e] := by
  unfold dropN
  rw [List.filter_append]
  by_cases h : e.num = n
  · rw [if_pos h]; simp [h]
  · rw [if_neg h]; simp [h]
theorem filter_len {α : Type} (p : α → Bool) (l : List α) (k : Nat) : ((l.take k).filter p).length ≤ k := Nat.le_trans (List.length_filter_le _ _) (by rw [List.length_take]; omega)
set_option maxHeartbeats 800000 in
set_option maxRecDepth 20000 in
theorem without_calls (xs : List Int) (n : Int) (A : Option Addr) (c : Nat) (w : World) (h : IntsAt w .i64 A xs) (hm : xs.length ≤ 1000000) :
    Calls Try.prog 43 #[.slice A xs.length c, .int .i64 n] w fun e w' => ∃ v, e = .returned v ∧ OwnInts w' w.heap.size .i64 3 v (withoutN xs n) ∧ Keeps NoB w w' := by
  have HE := hid h
  have HL := hid (fun k => filter_len (fun y => !decide (y = n)) xs k)
  clear h
  obtain ⟨m, hm1⟩ : ∃ m, xs.length = m := ⟨_, rfl⟩
  rw [hm1] at hm ⊢
  have HM := hid hm1
  clear hm1
  have hub := Try.underlying27
  go_enter Try.func43, Try.ntmps43
  go_wp2_with fail
  have HO1 := hid (OwnInts.empty w w.heap.size .i64 3 (Nat.le_refl _))
  have HK1 := hid ((Keeps.refl NoB w).alloc (.cells #[] 3))
  generalize hw1 : w.alloc (.cells #[] 3) = w1 at *
  clear hw1
  go_loopw [5, 6] (fun v5 v6 wr => ∃ k : Nat, k ≤ m ∧ v6 = .int .i64 (k : Int) ∧ Hid (OwnInts wr w.heap.size .i64 3 v5 (withoutN (xs.take k) n)) ∧ Hid (Keeps NoB w wr)) (fun _ v6 _ => m - (intOf v6).toNat)
  case atStart => exact ⟨0, Nat.zero_le _, rfl, HO1, HK1⟩
  case round =>
    clear HO1 HK1
    obtain ⟨k, hk, rfl, HO, HK⟩ := hrel
    by_cases hlt : k < m
    · obtain ⟨b, off, rfl, hc⟩ := (HE.out.kept HK.out).get (by rw [HM.out]; omega)
      have c1 := hc k (by rw [HM.out]; exact hlt)
      have p0 : (0 : Int) ≤ (k : Int) := by omega
      have p1 : (k : Int) < (m : Int) := by omega
      have hlk : (withoutN (xs.take k) n).length ≤ k := HL.out k
      have hszw := HK.out.size
      have HT := hid (show withoutN (xs.take (k + 1)) n = if gi xs k = n then withoutN (xs.take k) n else withoutN (xs.take k) n ++ [gi xs k] by rw [take_snoc (by rw [HM.out]; exact hlt), without_snoc])
      clear hc
      generalize gi xs k = x at *
      by_cases hx : x = n
      · rw [if_pos hx] at HT
        subst hx
        go_wp2_with fail
        go_roundw
        case rel => exact ⟨k + 1, by omega, by go_num, hid (by rw [HT.out]; exact HO.out), HK⟩
        case measure => simp [intOf]; omega
      · rw [if_neg hx] at HT
        have e1 : (x = n) = False := eq_false hx
        go_wp2_with (at_builtin; go_must (refine wpList_app1 _ rfl _ _ 27 rfl w.heap.size 3 .i64 8 hub info_int5 _ _ rfl (OwnInts.alloc HO.out _) _ _ _ rfl (cell_one _ _ _) (by omega) (by omega) (by simp; omega) ?_); intro v8 w8 hown8 hgr8 _)
        have HO8 := hid (show OwnInts w8 w.heap.size .i64 3 v8 (withoutN (xs.take (k + 1)) n) by rw [HT.out]; exact hown8)
        have HK8 := hid ((HK.out.alloc (.cells #[.int .i64 x] 3)).own (OwnInts.alloc HO.out _) hgr8 (Nat.le_refl _))
        clear hown8 hgr8
        go_roundw
        case rel => exact ⟨k + 1, by omega, by go_num, HO8, HK8⟩
        case measure => simp [intOf]; omega
    · obtain rfl : k = m := by omega
      have ht : xs.take k = xs := by rw [← HM.out]; exact List.take_length
      rw [ht] at HO
      go_wp2_with fail
      go_ret
      exact ⟨_, rfl, HO.out, HK.out⟩
set_option maxHeartbeats 800000 in
set_option maxRecDepth 20000 in
theorem drop19_calls (es : List EqN) (n : Int) (A : Option Addr) (c : Nat) (R : Nat → Prop) (w : World) (h : EqsN R w A es) (hm : es.length ≤ 1000000) :
    Calls Try.prog 24 #[.slice A es.length c, .int .i64 n] w fun e w' => ∃ v, e = .returned v ∧ OwnEqN (fun b => R b ∧ b < w.heap.size) w' w.heap.size v (dropN es n) ∧ Keeps NoB w w' := by
  have HE := hid h.lt
  have HL := hid (fun k => filter_len (fun e : EqN => !decide (e.num = n)) es k)
  clear h
  obtain ⟨m, hm1⟩ : ∃ m, es.length = m := ⟨_, rfl⟩
  rw [hm1] at hm ⊢
  have HM := hid hm1
  clear hm1
  have hue := Try.underlying38
  go_enter Try.func24, Try.ntmps24
  go_wp2_with fail
  have HO1 := hid (OwnEqN.empty (fun b => R b ∧ b < w.heap.size) w w.heap.size (Nat.le_refl _))
  have HK1 := hid ((Keeps.refl NoB w).alloc (.cells #[] 79))
  generalize hw1 : w.alloc (.cells #[] 79) = w1 at *
  clear hw1
  go_loopw [5, 6] (fun v5 v6 wr => ∃ k : Nat, k ≤ m ∧ v6 = .int .i64 (k : Int) ∧ Hid (OwnEqN (fun b => R b ∧ b < w.heap.size) wr w.heap.size v5 (dropN (es.take k) n)) ∧ Hid (Keeps NoB w wr)) (fun _ v6 _ => m - (intOf v6).toNat)
  case atStart => exact ⟨0, Nat.zero_le _, rfl, HO1, HK1⟩
  case round =>
    clear HO1 HK1
    obtain ⟨k, hk, rfl, HO, HK⟩ := hrel
    by_cases hlt : k < m
    · obtain ⟨b, off, rfl, _, hc⟩ := HE.out.2 (by rw [HM.out]; omega)
      obtain ⟨u1, u2, c1, c2, rfl, hn2⟩ := hc k (by rw [HM.out]; exact hlt)
      have d1 := HK.out.cell c1 (fun h => h)
      have d2 := HK.out.cell c2 (fun h => h)
      clear c1 c2
      have p0 : (0 : Int) ≤ (k : Int) := by omega
      have p1 : (k : Int) < (m : Int) := by omega
      have hlk : (dropN (es.take k) n).length ≤ k := HL.out k
      have hszw := HK.out.size
      have HT := hid (show dropN (es.take (k + 1)) n = if (gn es k).num = n then dropN (es.take k) n else dropN (es.take k) n ++ [gn es k] by rw [take_gn (by rw [HM.out]; exact hlt), dropN_snoc])
      have HN2 := hid hn2
      clear hc hn2
      obtain ⟨ek, hek⟩ : ∃ ek, gn es k = ek := ⟨_, rfl⟩
      rw [hek] at HT HN2 d1
      clear hek
      obtain ⟨x, rs⟩ := ek
      have c1 : wr.cell? ⟨b, off + k * 2, none⟩ = some (.int .i64 x) := d1
      clear d1
      by_cases hx : x = n
      · have HT2 := hid (show dropN (es.take (k + 1)) n = dropN (es.take k) n by have := HT.out; rw [if_pos (show (EqN.mk x rs).num = n from hx)] at this; exact this)
        subst hx
        go_wp2_with fail
        go_roundw
        case rel => exact ⟨k + 1, by omega, by go_num, hid (by rw [HT2.out]; exact HO.out), HK⟩
        case measure => simp [intOf]; omega
      · have HT2 := hid (show dropN (es.take (k + 1)) n = dropN (es.take k) n ++ [⟨x, rs⟩] by have := HT.out; rw [if_neg (show ¬ (EqN.mk x rs).num = n from hx)] at this; exact this)
        have e1 : (x = n) = False := eq_false hx
        have HKA := hid ((Keeps.refl NoB wr).alloc (.cells #[.int .i64 x, u2] 79))
        have HOA := hid (HO.out.kept HKA.out)
        have HP := hid (show PairN (fun b => (R b ∧ b < w.heap.size) ∧ u5.ownBlock ≠ some b) (wr.alloc (.cells #[.int .i64 x, u2] 79)) (.int .i64 x) u2 ⟨x, rs⟩ from ⟨rfl, (HN2.out.keeps (HK.out.fresh HKA.out) (fun _ _ h => h)).mono (fun b _ hb => ⟨hb, fun e => by have h1 := (HO.out.base_le b e).1; have h2 := hb.2; omega⟩)⟩)
        have hcc := cells2 (heap_alloc_new wr (.cells #[.int .i64 x, u2] 79))
        have HC1 := hid hcc.1
        have HC2 := hid hcc.2
        clear hcc
        obtain ⟨lo, hlo⟩ : ∃ lo, (dropN (es.take k) n).length = lo := ⟨_, rfl⟩
        have HLO := hid hlo
        rw [hlo] at hlk
        clear hlo
        go_wp2_with (at_builtin; go_must (refine wpList_app1EqN rfl _ _ 38 rfl w.heap.size hue u5 (dropN (es.take k) n) rfl HOA.out _ _ _ _ ⟨x, rs⟩ rfl HC1.out HC2.out HP.out lo HLO.out (by omega) (by simp; omega) ?_); intro A9 c9 w9 hown9 hgr9 hat9)
        have HO9 := hid (show OwnEqN (fun b => R b ∧ b < w.heap.size) w9 w.heap.size (.slice A9 (lo + 1) c9) (dropN (es.take (k + 1)) n) by rw [HT2.out]; exact hown9)
        have HK9 := hid ((HK.out.fresh HKA.out).grown hgr9 (fun i e hi => by have := (HO.out.base_le i e.symm).1; omega))
        clear hown9 hgr9 hat9
        go_roundw
        case rel => exact ⟨k + 1, by omega, by go_num, HO9, HK9⟩
        case measure => simp [intOf]; omega
    · obtain rfl : k = m := by omega
      have ht : es.take k = es := by rw [← HM.out]; exact List.take_length
      rw [ht] at HO
      go_wp2_with fail
      go_ret
      exact ⟨_, rfl, HO.out, HK.out⟩
end Go.Proofs.Ytnoooeeciebhfaa
