/- All keys of a set, rising: edges.keys walked. Conditions: the set is small. -/
import Derived.Test.YtnoooeeciebhfaaGraphSt
import Derived.Test.YtnoooeeciebhfaaSort
import Derived.Test.YtnoooeeciebhfaaSampleMath
import Derived.Test.YtnoooeeciebhfaaFits
set_option linter.unusedVariables false
namespace Go.Proofs.Ytnoooeeciebhfaa
open Go.RowKit Go.ChangeShapes

theorem info_int4 : (Try.prog.info? 3).map (fun i => (i.zero, i.size, i.bytes)) = some (some (.int .i64 0), 1, 8) := by kernel_rfl
theorem zero_set (w : World) : (zeroValue 73).run Try.prog w = .ok (.agg #[]) w := by kernel_rfl
/-- The members of a set, rising. -/
structure KeysOf (s : Int → Bool) (l : List Int) : Prop where
  rise : l.Pairwise (· < ·)
  mem : ∀ x, x ∈ l ↔ s x = true
  wf : ∀ x ∈ l, (Lit.int .i64 x).wf = true
theorem KeysOf.nodup {s : Int → Bool} {l : List Int} (h : KeysOf s l) : l.Nodup := h.rise.imp (fun h e => by omega)
theorem KeysOf.eq {s : Int → Bool} {l l' : List Int} (h : KeysOf s l) (h' : l'.Pairwise (· < ·)) (hm : ∀ x, x ∈ l' ↔ s x = true) : l = l' := rise_ext h.rise h' (fun x => by rw [h.mem, hm])
theorem MapV.count {w : World} {v : Value} {n : Nat} {f : Int → Option Value} (h : MapV w v n f) : ∃ l : List Int, l.Nodup ∧ (∀ x, x ∈ l ↔ (f x).isSome = true) ∧ l.length ≤ n := by
  obtain ⟨l, h1, h2⟩ := h.listed
  refine ⟨l, h1, h2, ?_⟩
  rcases h with ⟨_, rfl⟩ | ⟨b, _, D, hD, hf⟩
  · have : l = [] := List.eq_nil_iff_forall_not_mem.2 (fun x hx => by have := (h2 x).1 hx; simp at this)
    rw [this]; exact Nat.zero_le _
  · rw [← keys_count hD hf h1 h2]
    exact World.ownsMap.size_le hD
theorem keysOf_sorted {s : Int → Bool} {ss : List Int} (h1 : ss.Nodup) (h2 : ∀ x, x ∈ ss ↔ (setV s x).isSome = true) (h3 : ∀ x ∈ ss, (Lit.int .i64 x).wf = true) : KeysOf s (srtM ss) := by
  have hp := srtM_perm ss
  refine ⟨?_, fun x => by rw [hp.mem_iff, h2, setV_some], fun x hx => h3 x (hp.mem_iff.1 hx)⟩
  have hnd : (srtM ss).Pairwise (· ≠ ·) := hp.nodup_iff.2 h1
  exact (srtM_sorted ss).imp₂ (fun a b h1 h2 => by omega) hnd
set_option maxHeartbeats 1600000 in
set_option maxRecDepth 20000 in
theorem keys_none (w : World) : Calls Try.prog 40 #[.map none] w fun e w' => ∃ v' l, e = .returned v' ∧ OwnInts w' w.heap.size .i64 3 v' l ∧ KeysOf (fun _ => false) l ∧ Keeps NoB w w' := by
  obtain ⟨i1, hi', hz0', hz1', hz2'⟩ := info_parts info_int4
  have hub := Try.underlying27
  go_enter Try.func40, Try.ntmps40
  go_wp2_with (first
    | (at_len; refine wpList_len_v _ rfl _ 71 rfl 73 Try.underlying71 (.map none) 0 _ rfl (MapV.nil _ _) [] List.nodup_nil (fun x => by simp) ?_)
    | (at_make; go_must (refine wpList_make_own _ rfl _ _ _ rfl w.heap.size 3 i1 (.int .i64 0) 1 hub hi' hz0' hz1' .i64 .i64 _ 0 rfl rfl rfl (by rw [hz2']; omega) (by unfold maxLen; omega) (Nat.le_refl _) ?_); intro w3 hown3 hgr3; have HO3 := hid (show OwnInts w3 w.heap.size .i64 3 (.slice (some ⟨w.heap.size, 0, none⟩) 0 0) [] from hown3); have HK3 := hid ((Keeps.refl NoB w).grown hgr3 (fun i e => by cases e)); clear hown3 hgr3)
    | (at_range; go_must (refine wpList_range_nil _ rfl _ 71 rfl 73 Try.underlying71 rfl ?_)))
  go_frame
  have HIT := hid (heap_alloc_new w3 (.mapIter none 0 #[] 0))
  have HO4 := hid (HO3.out.kept ((Keeps.refl NoB w3).alloc (.mapIter none 0 #[] 0)))
  have HK4 := hid (HK3.out.alloc (.mapIter none 0 #[] 0))
  generalize hw4 : w3.alloc (.mapIter none 0 #[] 0) = w4 at *
  clear hw4
  go_loopw [3] (fun v3 wr => wr = w4 ∧ v3 = (.slice (some ⟨w.heap.size, 0, none⟩) 0 0)) (fun _ wr => 0)
  case atStart => exact ⟨rfl, rfl⟩
  case round =>
    obtain ⟨rfl, rfl⟩ := hrel
    go_wp2_with (at_next; go_must (refine wpList_next_nil _ rfl _ rfl _ rfl HIT.out ?_))
    refine (sort_calls _ [] w.heap.size _ HO4.out (by simp)).mono ?_
    rintro e w7 ⟨rfl, hown7, hgr7⟩
    have HO7 := hid hown7
    have HK7 := hid (HK4.out.own HO4.out hgr7 (Nat.le_refl _))
    clear hown7 hgr7
    go_wp2_with fail
    go_ret
    exact ⟨_, _, rfl, HO7.out, ⟨by simp [srtM], fun x => by simp [srtM], fun x hx => by simp [srtM] at hx⟩, HK7.out⟩
set_option maxHeartbeats 1600000 in
set_option maxRecDepth 20000 in
theorem keys_at (b n : Nat) (s : Int → Bool) (w : World) (h : MapAt w b n (setV s)) (hn : n ≤ 1000000000) : Calls Try.prog 40 #[.map (some b)] w fun e w' => ∃ v' l, e = .returned v' ∧ OwnInts w' w.heap.size .i64 3 v' l ∧ KeysOf s l ∧ Keeps NoB w w' := by
  obtain ⟨i1, hi', hz0', hz1', hz2'⟩ := info_parts info_int4
  have hub := Try.underlying27
  obtain ⟨ls, hls1, hls2, hls3⟩ := (MapV.of h).count
  obtain ⟨m, hm⟩ : ∃ m, ls.length = m := ⟨_, rfl⟩
  rw [hm] at hls3
  have HM := hid hm
  have HL1 := hid hls1
  have HL2 := hid hls2
  have HA := hid h
  clear hm hls1 hls2 h
  go_enter Try.func40, Try.ntmps40
  go_wp2_with (first
    | (at_len; refine wpList_len_v _ rfl _ 71 rfl 73 Try.underlying71 (.map (some b)) n _ rfl (MapV.of HA.out) ls HL1.out HL2.out ?_; rw [HM.out])
    | (at_make; go_must (refine wpList_make_own _ rfl _ _ _ rfl w.heap.size 3 i1 (.int .i64 0) 1 hub hi' hz0' hz1' .i64 .i64 _ m rfl rfl rfl (by rw [hz2']; omega) (by unfold maxLen; omega) (Nat.le_refl _) ?_); intro w3 hown3 hgr3; have HO3 := hid (show OwnInts w3 w.heap.size .i64 3 (.slice (some ⟨w.heap.size, 0, none⟩) 0 m) [] from hown3); have HK3 := hid ((Keeps.refl NoB w).grown hgr3 (fun i e => by cases e)); have HA3 := hid (HA.out.keeps HK3.out (fun h => h)); clear hown3 hgr3)
    | (at_range; go_must (refine wpList_range_at _ rfl _ 71 rfl 73 Try.underlying71 b n (setV s) rfl HA3.out ?_); intro w4 lf4 cnt4 hrg4 hco4 hcn4 hgr4 hs4))
  go_frame
  have HRG := hid hrg4
  have HCO := hid hco4
  have HK4 := hid (HK3.out.grown hgr4 (fun i e => by cases e))
  have HO4 := hid (HO3.out.kept ((Keeps.refl NoB w3).grown hgr4 (fun i e => by cases e)))
  have hw34 := hid (HO3.out.base_le w.heap.size rfl).2
  clear hrg4 hco4 hgr4 hs4
  go_loopw [3, 4] (fun v3 _ wr => ∃ (ss : List Int) (lf : Lit → Bool) (cnt : Nat), Hid (AtRange wr b w3.heap.size n (setV s) lf cnt) ∧ Hid (CollF (setV s) lf ss) ∧ Hid (OwnInts wr w.heap.size .i64 3 v3 ss) ∧ Hid (Keeps NoB w wr) ∧ ss.length + cnt ≤ n) (fun _ _ wr => wr.rangeLeft b w3.heap.size)
  case atStart => exact ⟨[], _, cnt4, HRG, HCO, HO4, HK4, by simpa using hcn4⟩
  case round =>
    clear HRG HCO HO4 HK4
    obtain ⟨ss, lf, cnt, HR5, HCo, HO5, HK5, hcnt⟩ := hrel
    go_wp2_with (at_next; go_must (refine wpList_next_at _ rfl _ rfl b w3.heap.size n (setV s) lf cnt rfl HR5.out ?_ ?_))
    · intro hc0 hl0
      have hend := hid (HCo.out.end_ hl0)
      have hsl : ss.length ≤ 1073741824 := by omega
      clear hl0
      go_wp2_with fail
      refine (sort_calls _ ss w.heap.size _ HO5.out hsl).mono ?_
      rintro e w7 ⟨rfl, hown7, hgr7⟩
      have HO7 := hid hown7
      have HK7 := hid (HK5.out.own HO5.out hgr7 (Nat.le_refl _))
      clear hown7 hgr7
      go_wp2_with fail
      go_ret
      exact ⟨_, _, rfl, HO7.out, keysOf_sorted hend.out.1 hend.out.2.1 hend.out.2.2, HK7.out⟩
    · intro x u w6 cnt6 hwx hlx hfx hrg6 hlt6 hgr6 hs6 hen6
      have HR6 := hid hrg6
      have HC6 := hid (HCo.out.step hlx (by rw [hfx]; rfl) hwx)
      have HO6 := hid (show OwnInts w6 w.heap.size .i64 3 u3 ss from HO5.out.keeps (Keeps.ofGrown hgr6) (fun b hb e => HR5.out.ne_iter HO5.out (by rw [← e, hb])))
      have HK6 := hid (HK5.out.grown hgr6 (fun i e hi => by injection e with e; have := hw34.out; have := HK3.out.size; omega))
      have HLT := hid hlt6
      have hb6 := HK6.out.size
      clear hrg6 hgr6 hs6 hwx hlx hfx hlt6
      go_wp2_with (at_builtin; go_must (refine wpList_app1 _ rfl _ _ 27 rfl w.heap.size 3 .i64 8 hub info_int4 _ _ rfl (OwnInts.alloc HO6.out _) _ _ _ rfl (cell_one _ _ _) (by omega) (by omega) (by simp; omega) ?_); intro v8 w8 hown8 hgr8 _)
      have HO8 := hid hown8
      have HR8 := hid ((HR6.out.alloc (.cells #[.int .i64 x] 3)).keeps hgr8 ((HR6.out.alloc (.cells #[.int .i64 x] 3)).at.ne_own (OwnInts.alloc HO6.out _)).symm ((HR6.out.alloc (.cells #[.int .i64 x] 3)).ne_iter (OwnInts.alloc HO6.out _)))
      have HK8 := hid ((HK6.out.alloc (.cells #[.int .i64 x] 3)).own (OwnInts.alloc HO6.out _) hgr8 (Nat.le_refl _))
      clear hown8 hgr8
      have hl8 := HLT.out
      go_roundw
      case rel => exact ⟨ss ++ [x], _, cnt6, HR8, HC6, HO8, HK8, by simp; omega⟩
      case measure => rw [HR8.out.left_eq, HR5.out.left_eq]; exact HLT.out
theorem keys_calls (v : Value) (n : Nat) (s : Int → Bool) (w : World) (h : MapV w v n (setV s)) (hn : n ≤ 1000000000) : Calls Try.prog 40 #[v] w fun e w' => ∃ v' l, e = .returned v' ∧ OwnInts w' w.heap.size .i64 3 v' l ∧ KeysOf s l ∧ Keeps NoB w w' := by
  rcases h with ⟨rfl, hs⟩ | ⟨b, rfl, h⟩
  · have hs0 : s = fun _ => false := by
      funext x
      have := congrFun hs x
      rw [← setV_some s x, this]; rfl
    rw [hs0]
    exact keys_none w
  · exact keys_at b n s w h hn
end Go.Proofs.Ytnoooeeciebhfaa
