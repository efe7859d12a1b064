/- Texts of this claim, part 3 of 3, one behind the other: what each proves, and its conditions, stands ahead of it. -/
import Derived.Test.YtkjaacpcnjakcaaPart2
import Derived.Test.YtkjaacpcnjakcaaPart1
import Derived.BigQuiet
import Derived.Deep.Matrix
import Derived.SizedLaws
/- The blocks that follow, by the list of what is to be done: closure.Reach's walk. UNDER WAY. -/
set_option linter.unusedVariables false
namespace Go.Proofs.Ytkjaacpcnjakcaa
open Go.RowKit Go.ChangeShapes

theorem info_int3 : (Try.prog.info? 3).map (fun i => (i.zero, i.size, i.bytes)) = some (some (.int .i64 0), 1, 8) := by kernel_rfl
theorem OwnInts.ofMake {w : World} {base n : Nat} {v : Value} (h : w.ownsRow base 3 1 v n (madeCells (Value.int .i64 0).cells (n * 1)).toList) : OwnInts w base .i64 3 v (List.replicate n 0) := by
  have e0 : (madeCells (Value.int .i64 0).cells (n * 1)).toList = List.replicate n (Value.int .i64 0) := by
    apply List.ext_getElem
    · simp [madeCells]
    · intro i h1 h2; simp [madeCells, Value.cells, Nat.mod_one]
  rw [e0] at h
  unfold OwnInts
  rw [List.length_replicate, List.map_replicate]
  exact h
theorem zero_ints (w : World) : (zeroValue 27).run Try.prog w = .ok (.slice none 0 0) w := by kernel_rfl
theorem size_int (w : World) : (sizeOf 3).run Try.prog w = .ok 1 w := by kernel_rfl
theorem take_flatten_succ (eqs : List (List Int)) (k : Nat) (h : k < eqs.length) : (eqs.take (k + 1)).flatten.length = (eqs.take k).flatten.length + (gl eqs k).length := by
  rw [List.take_succ_eq_append_getElem h, List.flatten_append, List.length_append, gl_eq eqs k h]
  simp
theorem flatten_take_le (eqs : List (List Int)) (k : Nat) : (eqs.take k).flatten.length ≤ eqs.flatten.length := by
  have h : eqs.flatten.length = (eqs.take k).flatten.length + (eqs.drop k).flatten.length := by
    rw [← List.length_append, ← List.flatten_append, List.take_append_drop]
  omega
set_option maxHeartbeats 1600000 in
set_option maxRecDepth 20000 in
theorem reach_calls (all : Int) (eqs : List (List Int)) (A : Option Addr) (c : Nat) (w : World) (h : RowsAt w A eqs) (hB : eqs.flatten.length ≤ 1000000) (hr : ∀ of ∈ eqs, of.length ≤ 1000000) (hn1 : eqs.length ≤ 1000000) (hall : all ≤ 9223372036854775807) :
    Calls Try.prog 31 #[.int .i64 all, .slice A eqs.length c] w fun e w' => ∃ v, e = .returned v ∧ OwnInts w' w.heap.size .i64 3 v (reachN all eqs) ∧ Keeps NoB w w' := by
  have hl := h.1
  have HC := hid h
  obtain ⟨n, hn⟩ : ∃ n, eqs.length = n := ⟨_, rfl⟩
  rw [hn] at hl hn1 ⊢
  have hnn := hid hn
  clear hn
  have HR := hid (fun k (hk : k < eqs.length) => hr (gl eqs k) (gl_mem hk))
  have hmm := @run_makeMap Try.prog
  obtain ⟨i1, hi', hz0', hz1', hz2'⟩ := info_parts info_int3
  have hub := Try.underlying27
  go_enter Try.func31, Try.ntmps31
  go_wp2_with (at_make; go_must (refine wpList_make_full _ rfl _ _ _ rfl w.heap.size 3 i1 (.int .i64 0) 1 hub hi' hz0' hz1' .i64 .i64 _ _ n rfl rfl rfl rfl (by rw [hz2']; omega) (by unfold maxLen; omega) (Nat.le_refl _) ?_); intro w1 hown1 hgr1; have HL1 := hid (OwnInts.ofMake hown1); have HK1 := hid ((Keeps.refl NoB w).grown hgr1 (fun i e => by cases e)); clear hown1 hgr1)
  have hlw : ∀ g, (Value.slice (some ⟨w.heap.size, 0, none⟩) n n).ownBlock = some g → g < w1.heap.size := fun g hg => (HL1.out.base_le g hg).2
  have hw1 := HK1.out.size
  go_loopw [7, 31] (fun v7 v31 wr => ∃ (k n1 : Nat) (todo left : List Int), k ≤ n ∧ v31 = .int .i64 (k : Int) ∧ Hid (St w wr (Value.slice (some ⟨w.heap.size, 0, none⟩) n n) left w1.heap.size n1 (fun x => (posN all eqs k x).map Int.ofNat) v7 todo) ∧ Hid (Begun all eqs k todo left) ∧ Hid (SetAt wr (w1.heap.size + 1) 0 []) ∧ Hid (n1 ≤ (eqs.take k).flatten.length)) (fun _ v31 _ => n - (intOf v31).toNat)
  case atStart =>
    have hst : St w (w1.alloc (.map #[] 0)) (Value.slice (some ⟨w.heap.size, 0, none⟩) n n) (List.replicate n 0) w1.heap.size 0 (fun x => (posN all eqs 0 x).map Int.ofNat) (.slice none 0 0) [] :=
      ⟨HL1.out.alloc _, hlw, OwnInts.nil _ _ _ _, GroupsAt.made w1, World.Shuns_made w1 _, hw1, by simp, HK1.out.alloc _⟩
    exact ⟨0, 0, [], List.replicate n 0, Nat.zero_le _, rfl, hid (hst.kept ((Keeps.refl NoB _).alloc _)), hid (by rw [← hnn.out]; exact Begun.none all eqs), hid (by have := World.ownsMap_made (H := Unit) (w1.alloc (Obj.map #[] 0)) Try.prog 3 unitElem; rw [World.size_alloc] at this; exact this), hid (Nat.zero_le _)⟩
  case round =>
    obtain ⟨k, n1, todo, left, hk, rfl, HST, HBE, HSE, HN1⟩ := hrel
    by_cases hlt : k < n
    · obtain ⟨b, off, rfl, hc⟩ := HC.out.2 (by rw [hnn.out]; omega)
      obtain ⟨u, cu, A1, c1, rfl, _, _, hat⟩ := hc k (by rw [hnn.out]; exact hlt)
      have HAT0 := hid hat
      have HAT := hid (HAT0.out.kept HST.out.keeps)
      have cu := HST.out.keeps.cell cu (fun h => h)
      have hrl := HR.out k (by rw [hnn.out]; exact hlt)
      have p0 : (0 : Int) ≤ (k : Int) := by omega
      have p1 : (k : Int) < (n : Int) := by omega
      clear hc hat
      obtain ⟨of, hof⟩ : ∃ of, gl eqs k = of := ⟨_, rfl⟩
      rw [hof] at cu HAT HAT0 hrl
      have HOF := hid hof
      clear hof
      go_wp2_with fail
      refine (cfits_calls all of A1 c1 wr HAT.out).mono ?_
      rintro e w2 ⟨rfl, rfl⟩
      cases hf : fitsN all of with
      | false =>
        have HST2 := hid (show St w w2 (Value.slice (some ⟨w.heap.size, 0, none⟩) n n) left w1.heap.size n1 (fun x => (posN all eqs (k + 1) x).map Int.ofNat) u7 todo by
          have e : (fun x => (posN all eqs (k + 1) x).map Int.ofNat) = (fun x => (posN all eqs k x).map Int.ofNat) := by
            funext x
            rw [posN_succ, HOF.out, if_neg (by rw [hf]; simp), List.append_nil]
          rw [e]; exact HST.out)
        have HBE2 := hid (HBE.out.skip (by rw [HOF.out]; exact hf))
        clear hf
        go_wp2_with fail
        go_roundw
        case rel => exact ⟨k + 1, n1, todo, left, by omega, by go_num, HST2, HBE2, HSE, hid (Nat.le_trans HN1.out (by rw [take_flatten_succ eqs k (by rw [hnn.out]; exact hlt)]; omega))⟩
        case measure => simp [intOf]; omega
      | true =>
        have HF := hid hf
        clear hf
        have hll := HBE.out.llen
        rw [hnn.out] at hll
        have hcell := HST.out.left.cell (j := k) (by rw [hll]; exact hlt)
        have hfree := HST.out.left.free k
        have HSS := hid (show ∀ z, St w (w2.setCell ⟨w.heap.size, k, none⟩ (.int .i64 z)) (Value.slice (some ⟨w.heap.size, 0, none⟩) n n) (left.set k z) w1.heap.size n1 (fun x => (posN all eqs k x).map Int.ofNat) u7 todo from fun z => HST.out.left_set (by
          have h := Keeps.one w2 w.heap.size k (.int .i64 z)
          exact ⟨h.os, h.tape, h.output, h.size, fun i hi hne => h.block i hi (fun e => hne (by rw [e]; rfl))⟩) (HST.out.left.set (by rw [hll]; exact hlt) z))
        have HSE2 := hid (show ∀ z : Int, SetAt (w2.setCell ⟨w.heap.size, k, none⟩ (.int .i64 z)) (w1.heap.size + 1) 0 [] from fun z => HSE.out.keeps (Keeps.one w2 w.heap.size k (.int .i64 z)) (by omega))
        go_wp2_with fail
        generalize hwz : w2.setCell ⟨w.heap.size, k, none⟩ (.int .i64 (of.length : Int)) = wz at *
        have HSS := hid (show St w wz _ _ _ _ _ _ _ by rw [← hwz]; exact HSS.out _)
        have HSE2 := hid (show SetAt wz (w1.heap.size + 1) 0 [] by rw [← hwz]; exact HSE2.out _)
        clear hwz hcell hfree
        obtain ⟨m, hm⟩ : ∃ m, of.length = m := ⟨_, rfl⟩
        rw [hm] at HSS hrl ⊢
        have hmm2 := hid hm
        clear hm
        go_loopw [47] (fun v47 wr => ∃ (j n2 : Nat), j ≤ m ∧ v47 = .int .i64 (j : Int) ∧ Hid (St w wr (Value.slice (some ⟨w.heap.size, 0, none⟩) n n) (left.set k m) w1.heap.size n2 (fun x => (posN all eqs k x ++ if x ∈ of.take j then [k] else []).map Int.ofNat) u7 todo) ∧ Hid (SetAt wr (w1.heap.size + 1) 0 []) ∧ Hid (n2 = n1 + j)) (fun v47 _ => m - (intOf v47).toNat)
        case atStart => exact ⟨0, n1, Nat.zero_le _, rfl, hid (by simpa using HSS.out), HSE2, hid rfl⟩
        case round =>
          obtain ⟨j, n2, hj, rfl, HS, HSEr, HN2⟩ := hrel
          by_cases hjm : j < m
          · obtain ⟨b2, o2, rfl, hc2⟩ := HAT0.out.get (by rw [hmm2.out]; omega)
            have c2 := HS.out.keeps.cell (hc2 j (by rw [hmm2.out]; exact hjm)) (fun h => h)
            have q0 : (0 : Int) ≤ (j : Int) := by omega
            have q1 : (j : Int) < (m : Int) := by omega
            have hx0 := hid (fitsN_in HF.out (gi of j) (by rw [gi_eq of j (by rw [hmm2.out]; exact hjm)]; exact List.getElem_mem _))
            have hxw := hid (show (Lit.int .i64 (gi of j)).wf = true from WalkArith.wf_i64 ⟨by have := hx0.out.1; omega, by have := hx0.out.2; omega⟩)
            have hkw := hid (show (Lit.int .i64 (k : Int)).wf = true from WalkArith.wf_i64 ⟨by omega, by omega⟩)
            have hn2 : n2 ≤ 2000000 := by have h1 := HN1.out; have h2 := HN2.out; have h3 : (eqs.take k).flatten.length ≤ 1000000 := Nat.le_trans (flatten_take_le eqs k) hB; omega
            have HTK := hid (take_gi2 of j (by rw [hmm2.out]; exact hjm))
            have HNX := hid (show gi of j ∉ of.take j from fun hm => by
              have hnd := (nodup_of_rising (fitsN_rising HF.out)).sublist (List.take_sublist (j + 1) of)
              rw [HTK.out, List.nodup_append] at hnd
              exact hnd.2.2 _ hm _ (List.mem_singleton.2 rfl) rfl)
            clear hc2
            obtain ⟨D, hD, hf⟩ := HS.out.has
            have HD := hid hD
            have HDF := hid hf
            have hsh := HS.out.shuns
            have htop := HS.out.top
            have htd := HS.out.todo
            have HTB := hid (fun g hg => (htd.base_le g hg).2)
            clear hD hf htd
            generalize gi of j = x at *
            go_wp2_with (first
              | (at_lookup; go_must (refine wpList_lookup_groups_shuns _ rfl _ _ 80 rfl 3 27 3 .i64 key_law Try.underlying80 (zero_ints _) (w1.heap.size + 1) w1.heap.size n2 D rfl HD.out (by unfold maxLen; omega) _ _ rfl (Maps.keyOf_int_mk Try.underlying3 hxw.out) ?_); intro v zs hat hoi hzl hback hsu)
              | (at_builtin; go_must (refine wpList_append_own_at _ rfl _ _ 27 rfl (w1.heap.size + 1) 3 i1 (.int .i64 0) 1 8 hub hi' hz0' hz1' hz2' rfl (by decide) _ _ _ rfl (hoi.1.alloc _) ⟨wr.heap.size, 0, none⟩ 1 1 [.int .i64 (k : Int)] rfl rfl (cell_one_new _ _ _) (ints_oneCell .i64 [(k : Int)]) (by unfold maxLen; omega) (by omega) (by simp; omega) ?_); intro v' w3 hown' hgrow hnil hloc)
              | (at_mapUpdate; go_must (refine wpList_mapUpdate_back_shuns _ rfl _ _ _ 80 rfl key_law Try.underlying80 (Maps.keyOf_int_mk Try.underlying3 hxw.out) HD.out (by unfold maxLen; omega) hoi hsh (fun g hg hN => (hloc.elim (fun e => hsu _ hsh g (e.symm.trans hg) hN) (fun e => by have h1 := hg.symm.trans e; injection h1 with h1; have h2 := HTB.out g hN; simp at h1; omega))) hback rfl rfl rfl ((World.grownBy_alloc _ _ _).trans hgrow) (hoi.appended hown' hkw.out) (by simp; omega) (hloc.imp id (fun h => ⟨_, h, by simp⟩)) ?_); intro w6 hown6 hgrow6 hsh6))
            have hall2 := (World.grownBy_alloc wr _ _).trans hgrow
            have HS6 := hid (HS.out.has_grown HDF.out hoi hat (fun g hv => hsu _ hsh g hv) hall2 (hoi.appended hown' hkw.out) hown6 hgrow6 hsh6)
            have HSE6 := hid ((HSEr.out.keeps (Keeps.ofGrown hall2) (fun e => ne_own HSEr.out hoi.1 e)).keeps (Keeps.ofGrown hgrow6) (fun e => by injection e with e; omega))
            have hfe : (fun y => if y = x then (posN all eqs k x ++ if x ∈ of.take j then [k] else []).map Int.ofNat ++ [(k : Int)] else (posN all eqs k y ++ if y ∈ of.take j then [k] else []).map Int.ofNat) = (fun y => (posN all eqs k y ++ if y ∈ of.take (j + 1) then [k] else []).map Int.ofNat) := by
              funext y
              rw [HTK.out]
              by_cases e : y = x
              · subst e
                rw [if_pos rfl, if_neg HNX.out, if_pos (by simp), List.append_nil, List.map_append]; rfl
              · rw [if_neg e]; simp [e]
            rw [hfe] at HS6
            clear hfe hown6 hgrow6 hsh6 hgrow hown' hback hoi hat hsu hall2
            go_roundw
            case rel => exact ⟨j + 1, n2 + 1, by omega, by go_num, HS6, HSE6, hid (by have := HN2.out; omega)⟩
            case measure => simp [intOf]; omega
          · obtain rfl : j = m := by omega
            have hfe : (fun x => (posN all eqs k x ++ if x ∈ of.take j then [k] else []).map Int.ofNat) = (fun x => (posN all eqs (k + 1) x).map Int.ofNat) := by
              funext x
              rw [posN_succ, HOF.out, HF.out, ← hmm2.out, List.take_length]
              simp
            rw [hfe] at HS
            clear hfe
            have HB1 := hid (HBE.out.step (by rw [hnn.out]; exact hlt) (by rw [HOF.out]; exact HF.out))
            have HN := hid (show n2 ≤ (eqs.take (k + 1)).flatten.length by
              rw [take_flatten_succ eqs k (by rw [hnn.out]; exact hlt), HOF.out, hmm2.out]
              have h1 := HN1.out; have h2 := HN2.out; omega)
            rw [HOF.out, hmm2.out] at HB1
            by_cases h1 : j = 1
            · rw [if_pos h1] at HB1
              subst h1
              obtain ⟨b2, o2, rfl, hc2⟩ := HAT0.out.get (by rw [hmm2.out]; omega)
              have c2 : wr.cell? ⟨b2, o2, none⟩ = some (.int .i64 (gi of 0)) := HS.out.keeps.cell (hc2 0 (by rw [hmm2.out]; omega)) (fun h => h)
              have hsm := HBE.out.small
              have htop := HS.out.top
              have HS1 := hid (HS.out.kept ((Keeps.refl NoB wr).alloc (.cells #[.int .i64 (gi of 0)] 3)))
              clear hc2
              generalize gi of 0 = y at *
              go_wp2_with (at_builtin; go_must (refine wpList_append_own_at _ rfl _ _ 27 rfl (w1.heap.size + 1) 3 i1 (.int .i64 0) 1 8 hub hi' hz0' hz1' hz2' rfl (by decide) _ _ _ rfl HS1.out.todo ⟨wr.heap.size, 0, none⟩ 1 1 [.int .i64 y] rfl rfl (cell_one_new _ _ _) (ints_oneCell .i64 [y]) (by unfold maxLen; omega) (by omega) (by simp; omega) ?_); intro v' w3 hown' hgrow hnil hloc)
              have HS3 := hid (HS1.out.todo_grown hgrow (show OwnInts w3 (w1.heap.size + 1) .i64 3 v' (todo ++ [y]) by unfold OwnInts; rw [List.length_append, List.map_append]; exact hown') hloc)
              have HSE3 := hid ((HSEr.out.keeps ((Keeps.refl NoB wr).alloc (.cells #[.int .i64 y] 3)) (fun h => h)).keeps (Keeps.ofGrown hgrow) (fun e => ne_own (HSEr.out.keeps ((Keeps.refl NoB wr).alloc (.cells #[.int .i64 y] 3)) (fun h => h)) HS1.out.todo e))
              clear hown' hgrow hnil hloc
              go_roundw
              case rel => exact ⟨k + 1, n2, todo ++ [y], left.set k (1 : Nat), by omega, by go_num, HS3, HB1, HSE3, HN⟩
              case measure => simp [intOf]; omega
            · rw [if_neg h1] at HB1
              have h1i : (j : Int) ≠ 1 := by omega
              have d1 : decide ((j : Int) = 1) = false := decide_eq_false h1i
              go_wp2_with fail
              go_roundw
              case rel => exact ⟨k + 1, n2, todo, left.set k j, by omega, by go_num, HS, HB1, HSEr, HN⟩
              case measure => simp [intOf]; omega
    · obtain rfl : k = n := by omega
      have HWK := hid (show Work all eqs [] todo left from Begun.work (by have := HBE.out; rw [← hnn.out] at this; exact this))
      have HWN := hid (show workN todo left ≤ 2000000 by have := HBE.out.workN_le; have h2 := hnn.out; omega)
      have HS0 := hid (St2.of HST.out HSE.out)
      have hn1b : n1 ≤ 1000000 := Nat.le_trans HN1.out (Nat.le_trans (flatten_take_le eqs k) hB)
      clear HST HBE HSE HN1
      go_wp2_with fail
      go_loopg [7] (2000000) (fun gn v7 wr => ∃ (todo left known : List Int), Hid (St2 w wr (Value.slice (some ⟨w.heap.size, 0, none⟩) k k) left w1.heap.size n1 (fun x => (posN all eqs k x).map Int.ofNat) v7 todo known.length known) ∧ Hid (Work all eqs known todo left) ∧ Hid (known.Nodup) ∧ workN todo left ≤ gn ∧ gn ≤ 2000000)
      case atStart => exact ⟨todo, left, [], HS0, HWK, hid List.nodup_nil, HWN.out, Nat.le_refl _⟩
      case round =>
        clear HS0 HWK HWN
        obtain ⟨todo, left, known, HS, HW, HND, hgn, hgn2⟩ := hrel
        obtain ⟨A7, c7, hv7, hc7, hat7⟩ := HS.out.todo.reads
        cases todo with
        | nil =>
          subst hv7
          have hkl : known.length ≤ 1000000 := Nat.le_trans (HW.out.known_le HND.out) hB
          have hsz := HS.out.keeps.size
          obtain ⟨m, hm⟩ : ∃ m, known.length = m := ⟨_, rfl⟩
          rw [hm] at HS hkl
          have HM := hid hm
          clear hm
          go_wp2_with (first
            | (at_len; refine wpList_len_own _ rfl _ 71 rfl 3 73 Try.underlying71 unitElem (w1.heap.size + 1) m (setD known) rfl HS.out.known ?_; rw [setD_size known HND.out, HM.out])
            | (at_make; go_must (refine wpList_make_own _ rfl _ _ _ rfl w.heap.size 3 i1 (.int .i64 0) 1 hub hi' hz0' hz1' .i64 .i64 _ m rfl rfl rfl (by rw [hz2']; omega) (by unfold maxLen; omega) hsz ?_); intro w3 hown3 hgr3; have HS3 := hid (HS.out.kept ((Keeps.refl NoB wr).grown hgr3 (fun i e => by cases e))); have HO3 := hid (show OwnInts w3 w.heap.size .i64 3 (.slice (some ⟨wr.heap.size, 0, none⟩) 0 m) [] from hown3); have HL3 := hid hgr3; clear hown3 hgr3)
            | (at_range; go_must (refine wpList_range_set _ rfl _ 71 rfl Try.underlying71 (w1.heap.size + 1) m known rfl HS3.out.known ?_); intro w4 cnt4 hrg4 hcn4 hgr4 hs4))
          go_frame
          have HRG := hid hrg4
          have HK4 := hid (HS3.out.keeps.grown hgr4 (fun i e => by cases e))
          have HO4 := hid (HO3.out.kept ((Keeps.refl NoB w3).grown hgr4 (fun i e => by cases e)))
          have hw34 := hid (HO3.out.base_le wr.heap.size rfl).2
          have hM4 := HS3.out.top
          clear hrg4 hgr4 hs4
          go_loopw [22, 23] (fun v22 _ wr => ∃ (ss : List Int) (lf : Lit → Bool) (cnt : Nat), Hid (SetRange wr (w1.heap.size + 1) w3.heap.size m known lf cnt) ∧ Hid (Coll known lf ss) ∧ Hid (OwnInts wr w.heap.size .i64 3 v22 ss) ∧ Hid (Keeps NoB w wr) ∧ ss.length + cnt ≤ m) (fun _ _ wr => wr.rangeLeft (w1.heap.size + 1) w3.heap.size)
          case atStart => exact ⟨[], _, cnt4, HRG, hid (Coll.start known), HO4, HK4, by simpa using hcn4⟩
          case round =>
            clear HRG HO4 HK4
            obtain ⟨ss, lf, cnt, HR5, HCo, HO5, HK5, hcnt⟩ := hrel
            go_wp2_with (first
              | (at_next; go_must (refine wpList_next_set _ rfl _ rfl (w1.heap.size + 1) w3.heap.size m known lf cnt rfl HR5.out ?_ ?_)))
            · intro hc0 hl0
              have hend := hid (HCo.out.end_ hl0)
              have hsl : ss.length ≤ 1073741824 := by omega
              clear hl0
              go_wp2_with fail
              refine (sort_calls _ ss w.heap.size _ HO5.out hsl).mono ?_
              rintro e w7 ⟨rfl, hown7, hgr7⟩
              have HO7 := hid hown7
              have HG7 := hid hgr7
              clear hown7 hgr7
              go_wp2_with fail
              go_ret
              refine ⟨_, rfl, ?_, ?_⟩
              · rw [← HW.out.reached (srtM_perm ss) (srtM_sorted ss) hend.out.1 hend.out.2]; exact HO7.out
              · exact HK5.out.own HO5.out HG7.out (Nat.le_refl _)
            · intro x w6 cnt6 hwx hlx hxk hrg6 hlt6 hgr6 hs6 hen6
              have HR6 := hid hrg6
              have HC6 := hid (HCo.out.step hlx hxk)
              have HO6 := hid (show OwnInts w6 w.heap.size .i64 3 u22 ss from HO5.out.keeps (Keeps.ofGrown hgr6) (fun b hb e => HR5.out.ne_iter HO5.out (by rw [← e, hb])))
              have HK6 := hid (HK5.out.grown hgr6 (fun i e hi => by injection e with e; have := hsz; omega))
              have HLT := hid hlt6
              have hb6 := HK6.out.size
              clear hrg6 hgr6 hs6 hwx hlx hxk hlt6
              go_wp2_with (at_builtin; go_must (refine wpList_app1 _ rfl _ _ 27 rfl w.heap.size 3 .i64 8 hub info_int3 _ _ rfl (OwnInts.alloc HO6.out _) _ _ _ rfl (cell_one _ _ _) (by omega) (by omega) (by simp; omega) ?_); intro v8 w8 hown8 hgr8 _)
              have hne := HR6.out.ne_iter HO6.out
              have hneb := ne_own HR6.out.set HO6.out
              have HR8 := hid ((HR6.out.alloc (.cells #[.int .i64 x] 3)).keeps hgr8 hneb hne)
              have HK8 := hid ((HK6.out.alloc (.cells #[.int .i64 x] 3)).own (OwnInts.alloc HO6.out _) hgr8 (Nat.le_refl _))
              have HO8 := hid hown8
              clear hgr8 hown8 hne hneb
              go_roundw
              case rel => exact ⟨ss ++ [x], _, cnt6, HR8, HC6, HO8, HK8, by have := HLT.out; simp; omega⟩
              case measure => rw [HR8.out.left_eq, HR5.out.left_eq]; exact HLT.out
        | cons n todo =>
          obtain ⟨g7, p7, rfl, hce7⟩ := hat7.get (by simp)
          have cq := hce7 0 (by simp)
          rw [Nat.add_zero, show gi (n :: todo) 0 = n from rfl] at cq
          subst hv7
          clear hat7 hce7 hc7
          rw [List.length_cons] at HS ⊢
          obtain ⟨m, hm⟩ : ∃ m, todo.length = m := ⟨_, rfl⟩
          rw [hm] at HS ⊢
          have HM := hid hm
          clear hm
          have hkl : known.length ≤ 1000000 := Nat.le_trans (HW.out.known_le HND.out) hB
          have hfl := HW.out.todos n (by simp)
          have hnw := hid (show (Lit.int .i64 n).wf = true by
            obtain ⟨of, hof, hfit, hmem⟩ := hfl.mem
            have := fitsN_in hfit n hmem
            exact WalkArith.wf_i64 ⟨by omega, by omega⟩)
          clear hfl
          have HGN := hid (show workN todo left + 1 ≤ gk by have := hgn; unfold workN at this ⊢; simp at this; omega)
          clear hgn
          by_cases hin : n ∈ known
          · have hd : decide (n ∈ known) = true := decide_eq_true hin
            have HWS := hid (HW.out.skip hin)
            go_wp2_with (first
              | (refine wpList_tail _ rfl _ 27 rfl Try.underlying27 size_int (w1.heap.size + 1) g7 p7 (m + 1) c7 n todo rfl HS.out.todo ?_; intro v9 ht9 hb9; have HS1 := hid (HS.out.todo_cut ht9 hb9); clear ht9 hb9)
              | (at_lookup; refine wpList_lookup_own_unit _ rfl _ _ 71 rfl 3 73 key_law Try.underlying71 (zero_unit _) (w1.heap.size + 1) _ _ rfl HS1.out.known _ _ rfl (Maps.keyOf_int_mk Try.underlying3 hnw.out) ?_; rw [set_has]))
            have HS2 := hid (HS1.out.kept ((Keeps.refl NoB wr).alloc (.cells #[] 73)))
            go_roundg (gk - 1)
            case measure => have := HGN.out; omega
            case rel => exact ⟨todo, left, known, HS2, HWS, HND, by have := HGN.out; omega, by omega⟩
          · have hd : decide (n ∈ known) = false := decide_eq_false hin
            have HIN := hid hin
            have HWS := hid (HW.out.start hin)
            clear hin
            go_wp2_with (first
              | (refine wpList_tail _ rfl _ 27 rfl Try.underlying27 size_int (w1.heap.size + 1) g7 p7 (m + 1) c7 n todo rfl HS.out.todo ?_; intro v9 ht9 hb9; have HS1 := hid (HS.out.todo_cut ht9 hb9); have HS2 := hid (HS1.out.kept ((Keeps.refl NoB wr).alloc (.cells #[] 73))); clear ht9 hb9)
              | (at_lookup; refine wpList_lookup_own_unit _ rfl _ _ 71 rfl 3 73 key_law Try.underlying71 (zero_unit _) (w1.heap.size + 1) _ _ rfl HS1.out.known _ _ rfl (Maps.keyOf_int_mk Try.underlying3 hnw.out) ?_; rw [set_has])
              | (at_mapUpdate; go_must (refine wpList_mapUpdate_own _ rfl _ _ _ 71 rfl 3 73 key_law Try.underlying71 unitElem (w1.heap.size + 1) known.length _ rfl HS2.out.known (by unfold maxLen; omega) _ _ _ rfl rfl (Maps.keyOf_int_mk Try.underlying3 hnw.out) _ [] unitElem_mk ?_); intro w3 hown3 hgr3; have hs3 := (show SetAt w3 (w1.heap.size + 1) (known.length + 1) (known ++ [n]) by unfold SetAt; rw [List.map_append, List.map_cons, List.map_nil, Maps.setOf_snoc]; exact hown3); have HS3 := hid (HS2.out.known_put hgr3 hs3); clear hown3 hgr3 hs3; obtain ⟨D, hD, hf⟩ := HS3.out.has; have HD := hid hD; have HDF := hid hf; clear hD hf)
              | (at_lookup; go_must (refine wpList_lookup_groups_shuns _ rfl _ _ 80 rfl 3 27 3 .i64 key_law Try.underlying80 (zero_ints _) (w1.heap.size + 1) w1.heap.size n1 D rfl HD.out (by unfold maxLen; omega) _ _ rfl (Maps.keyOf_int_mk Try.underlying3 hnw.out) ?_); intro v zs hat hoi hzl hback hsu; have hz := HDF.out.zs hoi hat; have HO3 := hid (show OwnInts w3 (w1.heap.size + 1) .i64 3 v zs from hoi.1); have HNE := hid (fun g hv => hsu _ HS3.out.shuns g hv); have HZ := hid hz; clear hat hoi hzl hback hsu hz; obtain ⟨A9, c9, rfl, hc9, _⟩ := OwnInts.reads HO3.out))
            have HKN := hid HS3.out.keeps
            obtain ⟨q, hq⟩ : ∃ q, zs.length = q := ⟨_, rfl⟩
            have HQ := hid (show (posN all eqs eqs.length n).length = q by rw [← hq, hnn.out, HZ.out, List.length_map])
            have hql : q ≤ 1000000 := by have := posN_length all eqs eqs.length n; have h2 := HQ.out; have h3 := hnn.out; omega
            rw [hq] at HO3 hc9 HNE ⊢
            have HQ2 := hid hq
            clear hq
            go_loopw [7, 92] (fun v7 v92 wr => ∃ (i : Nat) (todo left : List Int), i ≤ q ∧ v92 = .int .i64 (i : Int) ∧ Hid (St2 w wr (Value.slice (some ⟨w.heap.size, 0, none⟩) k k) left w1.heap.size n1 (fun x => (posN all eqs k x).map Int.ofNat) v7 todo (known.length + 1) (known ++ [n])) ∧ Hid (WorkIn all eqs known n i todo left) ∧ Hid (OwnInts wr (w1.heap.size + 1) .i64 3 (.slice A9 q c9) zs) ∧ Hid (∀ g, (Value.slice A9 q c9).ownBlock = some g → ¬ v7.ownBlock = some g) ∧ Hid (workN todo left ≤ gk - 1)) (fun _ v92 _ => q - (intOf v92).toNat)
            case atStart => exact ⟨0, todo, left, Nat.zero_le _, rfl, HS3, HWS, HO3, HNE, hid (by have := HGN.out; omega)⟩
            case round =>
              clear HS3 HS2 HS1 HS HWS HW HO3 HNE HD HDF HM HKN
              obtain ⟨i, todo, left, hiq, rfl, HS, HW, HO, HNE, HWN⟩ := hrel
              by_cases hlt4 : i < q
              · obtain ⟨b9, o9, rfl, hc9'⟩ := HO.out.ints.1.get (by rw [HQ2.out]; omega)
                have hiq' : i < (posN all eqs eqs.length n).length := by rw [HQ.out]; exact hlt4
                have hnow := HW.out.now HIN.out hiq'
                have HWT := hid (fun (kk : Nat) (hk : (posN all eqs eqs.length n)[i] = kk) => HW.out.step HIN.out hiq' hk)
                have HWT2 := hid (fun (kk : Nat) (hk : (posN all eqs eqs.length n)[i] = kk) => workN_step HW.out HIN.out hiq' hk)
                obtain ⟨kk, hkk⟩ : ∃ kk, (posN all eqs eqs.length n)[i] = kk := ⟨_, rfl⟩
                rw [hkk] at hnow
                have HKK := hid hkk
                have ck := hc9' i (by rw [HQ2.out]; exact hlt4)
                have hgi : gi zs i = (kk : Int) := by
                  have e := hnn.out
                  rw [HZ.out]
                  subst e
                  rw [gi_eq _ _ (by rw [List.length_map]; exact hiq'), List.getElem_map, hkk]; rfl
                rw [hgi] at ck
                clear hgi hkk hc9'
                have HNOW := hid hnow
                have hkn : kk < k := by have h1 := hnow.1; have h2 := hnn.out; omega
                have hlo : 0 ≤ gi left kk - 1 := by have := hnow.2.2; omega
                have hhi : gi left kk - 1 ≤ 1000000 := by
                  have h1 := hnow.2.2
                  have h2 := unkN_le (known ++ [n]) (gl eqs kk)
                  have h3 := HR.out kk hnow.1
                  omega
                clear hnow
                have hll := HW.out.llen
                rw [hnn.out] at hll
                have hcell := HS.out.left.cell (j := kk) (by rw [hll]; exact hkn)
                have hfree := HS.out.left.free kk
                have HSS := hid (show ∀ z, St2 w (wr.setCell ⟨w.heap.size, kk, none⟩ (.int .i64 z)) (Value.slice (some ⟨w.heap.size, 0, none⟩) k k) (left.set kk z) w1.heap.size n1 (fun x => (posN all eqs k x).map Int.ofNat) u7 todo (known.length + 1) (known ++ [n]) from fun z => HS.out.left_set (by
                  have h := Keeps.one wr w.heap.size kk (.int .i64 z)
                  exact ⟨h.os, h.tape, h.output, h.size, fun i hi hne => h.block i hi (fun e => hne (by rw [e]; rfl))⟩) (HS.out.left.set (by rw [hll]; exact hkn) z))
                have HOS := hid (show ∀ z, OwnInts (wr.setCell ⟨w.heap.size, kk, none⟩ (.int .i64 z)) (w1.heap.size + 1) .i64 3 (.slice (some ⟨b9, o9, none⟩) q c9) zs from fun z => HO.out.keeps (Keeps.one wr w.heap.size kk (.int .i64 z)) (fun b hb e => by have := (HO.out.base_le b hb).1; omega))
                clear hll
                generalize hy : gi left kk = y at *
                have HY := hid hy
                clear hy
                have p0 : (0 : Int) ≤ (i : Int) := by omega
                have p1 : (i : Int) < (q : Int) := by omega
                have p2 : (0 : Int) ≤ (kk : Int) := by omega
                have p3 : (kk : Int) < (k : Int) := by omega
                by_cases hy1 : y - 1 = 1
                · obtain rfl : y = 2 := by omega
                  obtain ⟨b, off, rfl, hc⟩ := HC.out.2 (by rw [hnn.out]; omega)
                  obtain ⟨u, cu, A1, c1, rfl, _, _, hat⟩ := hc kk (by rw [hnn.out]; exact hkn)
                  have HAT0 := hid hat
                  have cu2 := (HSS.out 1).keeps.cell cu (fun h => h)
                  have hrl := HR.out kk (by rw [hnn.out]; exact hkn)
                  clear hc hat cu
                  obtain ⟨of, hof⟩ : ∃ of, gl eqs kk = of := ⟨_, rfl⟩
                  rw [hof] at cu2 HAT0 hrl
                  have HOF := hid hof
                  have HF := hid (show fitsN all of = true by rw [← hof]; exact HNOW.out.2.1)
                  clear hof
                  obtain ⟨m5, hm5⟩ : ∃ m5, of.length = m5 := ⟨_, rfl⟩
                  rw [hm5] at cu2 hrl
                  have HM5 := hid hm5
                  clear hm5
                  go_wp2_with fail
                  generalize hwz : wr.setCell ⟨w.heap.size, kk, none⟩ (.int .i64 1) = wz at *
                  have HS5 := hid (show St2 w wz _ _ _ _ _ _ _ _ _ by rw [← hwz]; exact HSS.out 1)
                  have HO5 := hid (show OwnInts wz _ _ _ _ _ by rw [← hwz]; exact HOS.out 1)
                  clear hwz hcell hfree cu2
                  have htl : todo.length ≤ 2000000 := by have := HWN.out; unfold workN at this; omega
                  go_loopw [7, 112] (fun v7 v112 wr => ∃ (j : Nat), j ≤ m5 ∧ v112 = .int .i64 (j : Int) ∧ Hid (St2 w wr (Value.slice (some ⟨w.heap.size, 0, none⟩) k k) (left.set kk 1) w1.heap.size n1 (fun x => (posN all eqs k x).map Int.ofNat) v7 (todo ++ unkN (known ++ [n]) (of.take j)) (known.length + 1) (known ++ [n])) ∧ Hid (OwnInts wr (w1.heap.size + 1) .i64 3 (.slice (some ⟨b9, o9, none⟩) q c9) zs) ∧ Hid (∀ g, (Value.slice (some ⟨b9, o9, none⟩) q c9).ownBlock = some g → ¬ v7.ownBlock = some g)) (fun _ v112 _ => m5 - (intOf v112).toNat)
                  case atStart => exact ⟨0, Nat.zero_le _, rfl, hid (by have := HS5.out; simpa [unkN] using this), HO5, HNE⟩
                  case round =>
                    clear HS5 HO5 HNE
                    obtain ⟨j, hj5, rfl, HS, HO, HNE⟩ := hrel
                    by_cases hjm : j < m5
                    · obtain ⟨b2, o2, rfl, hc2⟩ := HAT0.out.get (by rw [HM5.out]; omega)
                      have c2 := HS.out.keeps.cell (hc2 j (by rw [HM5.out]; exact hjm)) (fun h => h)
                      have q0 : (0 : Int) ≤ (j : Int) := by omega
                      have q1 : (j : Int) < (m5 : Int) := by omega
                      have hx0 := hid (fitsN_in HF.out (gi of j) (by rw [gi_eq of j (by rw [HM5.out]; exact hjm)]; exact List.getElem_mem _))
                      have hxw := hid (show (Lit.int .i64 (gi of j)).wf = true from WalkArith.wf_i64 ⟨by have := hx0.out.1; omega, by have := hx0.out.2; omega⟩)
                      have HTK := hid (unkN_take (known ++ [n]) of j (by rw [HM5.out]; exact hjm))
                      have hul : (unkN (known ++ [n]) (of.take j)).length ≤ 1000000 := Nat.le_trans (unkN_le _ _) (by rw [List.length_take]; omega)
                      have HSA := hid (HS.out.kept ((Keeps.refl NoB wr).alloc (.cells #[] 73)))
                      have HOA := hid (HO.out.alloc (.cells #[] 73))
                      clear hc2
                      generalize gi of j = x at *
                      by_cases hxk : x ∈ known ++ [n]
                      · have hd5 : decide (x ∈ known ++ [n]) = true := decide_eq_true hxk
                        go_wp2_with (at_lookup; refine wpList_lookup_own_unit _ rfl _ _ 71 rfl 3 73 key_law Try.underlying71 (zero_unit _) (w1.heap.size + 1) _ _ rfl HS.out.known _ _ rfl (Maps.keyOf_int_mk Try.underlying3 hxw.out) ?_; rw [set_has])
                        go_roundw
                        case rel => exact ⟨j + 1, by omega, by go_num, hid (by rw [HTK.out, if_pos hxk, List.append_nil]; exact HSA.out), HOA, HNE⟩
                        case measure => simp [intOf]; omega
                      · have hd5 : decide (x ∈ known ++ [n]) = false := decide_eq_false hxk
                        go_wp2_with (first
                          | (at_lookup; refine wpList_lookup_own_unit _ rfl _ _ 71 rfl 3 73 key_law Try.underlying71 (zero_unit _) (w1.heap.size + 1) _ _ rfl HS.out.known _ _ rfl (Maps.keyOf_int_mk Try.underlying3 hxw.out) ?_; rw [set_has])
                          | (at_builtin; go_must (refine wpList_tail_app _ rfl _ _ 27 rfl (w1.heap.size + 1) hub info_int3 _ _ rfl (HSA.out.kept ((Keeps.refl NoB _).alloc (.cells #[.int .i64 x] 3))).todo _ _ x rfl (by have h := cell_one (wr.alloc (.cells #[] 73)) (.int .i64 x) 3; rw [World.size_alloc] at h; exact h) (by rw [List.length_append]; omega) (by have := HS.out.top; simp; omega) ?_); intro v6 w6 hown6 hgr6 hat6))
                        have HSB := hid (HSA.out.kept ((Keeps.refl NoB _).alloc (.cells #[.int .i64 x] 3)))
                        have HS6 := hid (HSB.out.todo_grown hgr6 hown6 hat6)
                        have HO6 := hid (show OwnInts w6 (w1.heap.size + 1) .i64 3 (.slice (some ⟨b9, o9, none⟩) q c9) zs from ((HOA.out.alloc (.cells #[.int .i64 x] 3)).keeps (Keeps.ofGrown hgr6) (fun b hb e => HNE.out b hb e.symm)))
                        have HN6 := hid (show ∀ g, (Value.slice (some ⟨b9, o9, none⟩) q c9).ownBlock = some g → ¬ v6.ownBlock = some g from fun g hg e => by
                          rcases hat6 with h6 | ⟨g', h6, h7⟩
                          · exact HNE.out g hg (h6.symm.trans e)
                          · have h8 := (HOA.out.base_le g hg).2
                            rw [h6] at e
                            injection e with e
                            simp at h7 h8
                            omega)
                        clear hgr6 hown6 hat6
                        go_roundw
                        case rel => exact ⟨j + 1, by omega, by go_num, hid (by rw [HTK.out, if_neg hxk, ← List.append_assoc]; exact HS6.out), HO6, HN6⟩
                        case measure => simp [intOf]; omega
                    · obtain rfl : j = m5 := by omega
                      have hta : of.take j = of := by rw [← HM5.out]; exact List.take_length
                      have HS7 := hid (show St2 w wr _ _ _ _ _ _ (todo ++ unkN (known ++ [n]) of) _ _ by rw [← hta]; exact HS.out)
                      clear hta
                      go_wp2_with fail
                      go_roundw
                      case rel => exact ⟨i + 1, todo ++ unkN (known ++ [n]) of, left.set kk 1, by omega, by go_num, HS7, hid (by have := HWT.out kk HKK.out; rw [HY.out, if_pos (by omega), HOF.out] at this; exact this), HO, HNE, hid (by have := HWT2.out kk HKK.out; rw [HY.out, if_pos (by omega), HOF.out] at this; have h2 := HWN.out; exact Nat.le_trans this h2)⟩
                      case measure => simp [intOf]; omega
                · go_wp2_with fail
                  go_roundw
                  case rel => exact ⟨i + 1, todo, left.set kk (y - 1), by omega, by go_num, hid (HSS.out _), hid (by have := HWT.out kk HKK.out; rw [HY.out, if_neg hy1] at this; exact this), hid (HOS.out _), HNE, hid (by have := HWT2.out kk HKK.out; rw [HY.out, if_neg hy1] at this; have h2 := HWN.out; omega)⟩
                  case measure => simp [intOf]; omega
              · obtain rfl : i = q := by omega
                go_wp2_with fail
                go_roundg (gk - 1)
                case measure => have := HGN.out; omega
                case rel =>
                  refine ⟨todo, left, known ++ [n], hid (by rw [List.length_append]; exact HS.out), hid (WorkIn.done (by rw [HQ.out]; exact HW.out)), hid (List.nodup_append.2 ⟨HND.out, by simp, fun a ha b hb => by rw [List.mem_singleton.1 hb]; exact fun e => HIN.out (e ▸ ha)⟩), HWN.out, by omega⟩
end Go.Proofs.Ytkjaacpcnjakcaa
/- Are all blocks of an equation among those that are known: the walk of closure.Closed. Conditions: the known rise; lengths are small. -/
set_option linter.unusedVariables false
namespace Go.Proofs.Ytkjaacpcnjakcaa
open Go.RowKit

def inAllN (known of : List Int) : Bool := of.all fun i => decide (i ∈ known)
theorem inAllN_no {known of : List Int} {k : Nat} (hk : k < of.length) (h : gi of k ∉ known) : inAllN known of = false := by
  have hm : gi of k ∈ of := by
    have : gi of k = of[k] := by simp [gi, hk]
    rw [this]; exact List.getElem_mem _
  cases hx : inAllN known of with
  | false => rfl
  | true => exact absurd (of_decide_eq_true (List.all_eq_true.1 hx _ hm)) h
theorem inAllN_yes {known of : List Int} (h : ∀ k, k < of.length → gi of k ∈ known) : inAllN known of = true :=
  List.all_eq_true.2 fun x hx => by
    obtain ⟨k, hk, rfl⟩ := List.getElem_of_mem hx
    have := h k hk
    exact decide_eq_true (by simpa [gi, hk] using this)

set_option maxHeartbeats 1600000 in
set_option maxRecDepth 20000 in
theorem closed_calls (known of : List Int) (K A : Option Addr) (ck c : Nat) (w : World) (hk : IntsAt w .i64 K known) (hs : known.Pairwise (· ≤ ·)) (hkl : known.length ≤ 1073741824) (h : IntsAt w .i64 A of) :
    Calls Try.prog 34 #[.slice K known.length ck, .slice A of.length c] w fun e w' => e = .returned (.bool (inAllN known of)) ∧ ∃ q, w' = w.drewN q := by
  have hl := h.len
  have HC := hid h
  have HK := hid hk
  have HS := hid hs
  have HNO := hid (fun k (hk : k < of.length) (h : gi of k ∉ known) => inAllN_no hk h)
  have HYES := hid (inAllN_yes (known := known) (of := of))
  clear h hk hs
  obtain ⟨n, hn⟩ : ∃ n, of.length = n := ⟨_, rfl⟩
  rw [hn] at hl ⊢
  have hnn := hid hn
  clear hn
  go_enter Try.func34, Try.ntmps34
  go_wp2_with fail
  go_loopw [11] (fun v11 wr => ∃ k : Nat, k ≤ n ∧ v11 = .int .i64 (k : Int) ∧ Hid (∀ j, j < k → gi of j ∈ known) ∧ Hid (∃ q, wr = w.drewN q)) (fun v11 _ => n - (intOf v11).toNat)
  case atStart => exact ⟨0, Nat.zero_le _, rfl, fun j hj => absurd hj (Nat.not_lt_zero _), 0, rfl⟩
  case round =>
    obtain ⟨k, hk, rfl, HJ, HW⟩ := hrel
    by_cases hlt : k < n
    · obtain ⟨b, off, rfl, hc⟩ := HC.out.get (by rw [hnn.out]; omega)
      have c1 : wr.cell? ⟨b, off + k, none⟩ = some (.int .i64 (gi of k)) := by
        obtain ⟨q, rfl⟩ := HW.out
        exact hc k (by rw [hnn.out]; exact hlt)
      have p0 : (0 : Int) ≤ (k : Int) := by omega
      have p1 : (k : Int) < (n : Int) := by omega
      have hno := hid (HNO.out k (by rw [hnn.out]; exact hlt))
      have HKW := hid (show IntsAt wr .i64 K known by obtain ⟨q, rfl⟩ := HW.out; exact HK.out)
      have HJ2 := hid (show gi of k ∈ known → ∀ j, j < k + 1 → gi of j ∈ known from fun hx j hj => by
        by_cases e : j = k
        · rw [e]; exact hx
        · exact HJ.out j (by omega))
      clear hc
      generalize gi of k = x at *
      go_wp2_with fail
      refine (search_calls known x K ck wr HKW.out HS.out (by omega)).mono ?_
      rintro e w2 ⟨rfl, hw2'⟩
      obtain ⟨q2, hw2⟩ := hw2'
      have HW2 := hid (show ∃ q, w2 = w.drewN q from by obtain ⟨q, rfl⟩ := HW.out; exact ⟨q + q2, by rw [hw2, World.drewN_drewN]⟩)
      clear hw2
      by_cases hx : x ∈ known
      · rw [decide_eq_true hx]
        have HJ3 := hid (HJ2.out hx)
        clear hx HJ2
        go_wp2_with fail
        go_roundw
        case rel => exact ⟨k + 1, by omega, by go_num, HJ3, HW2⟩
        case measure => simp [intOf]; omega
      · rw [decide_eq_false hx]
        have hr := hid (hno.out hx)
        clear hx HJ2
        go_wp2_with fail
        go_ret
        rw [hr.out]; exact ⟨rfl, HW2.out⟩
    · obtain rfl : k = n := by omega
      have hr := hid (HYES.out (fun j hj => HJ.out j (by rw [← hnn.out]; exact hj)))
      go_wp2_with fail
      go_ret
      rw [hr.out]; exact ⟨rfl, HW.out⟩
end Go.Proofs.Ytkjaacpcnjakcaa
/- Whether equations agree: closure.Agrees' walk. Conditions: lengths are small. -/
set_option linter.unusedVariables false
namespace Go.Proofs.Ytkjaacpcnjakcaa
open Go.RowKit

theorem zero_eqn (w : World) : (zeroValue 69).run Try.prog w = .ok (.agg #[.slice none 0 0, .slice none 0 0]) w := by kernel_rfl
theorem flat_ofs (es : List EqV) : (es.map EqV.of).flatten = ofsE es := by simp [ofsE, List.flatMap]
set_option maxHeartbeats 1600000 in
set_option maxRecDepth 20000 in
theorem agrees_calls (all : Int) (n : Nat) (es : List EqV) (A : Option Addr) (c : Nat) (R : Nat → Prop) (w : World) (h : EqsIn R w A es) (hn : n ≤ 1000000) (hlen : es.length ≤ 1000000) (hofs : (ofsE es).length ≤ 1000000) (hall : all ≤ 9223372036854775807) (hof : ∀ e ∈ es, e.of.length ≤ 1000000) :
    Calls Try.prog 38 #[.int .i64 all, .int .i64 (n : Int), .slice A es.length c] w fun e w' => e = .returned (.bool (agreesN all n es)) ∧ Keeps NoB w w' := by
  have HE := hid h.lt
  have HOF := hid hofs
  have HO1 := hid (fun k (hk : k < es.length) => hof (ge es k) (ge_mem es k hk))
  have HT := hid (take_ge es)
  have hu := Try.underlying22
  clear h hofs hof
  obtain ⟨m, hm⟩ : ∃ m, es.length = m := ⟨_, rfl⟩
  rw [hm] at hlen ⊢
  have HM := hid hm
  clear hm
  go_enter Try.func38, Try.ntmps38
  go_wp2_with fail
  go_loopw [7, 18] (fun v7 v18 wr => ∃ k : Nat, k ≤ m ∧ v18 = .int .i64 (k : Int) ∧ Hid (OwnNRows (fun b => R b ∧ b < w.heap.size) wr w.heap.size v7 ((es.take k).map EqV.of)) ∧ Hid (Keeps NoB w wr)) (fun _ v18 _ => m - (intOf v18).toNat)
  case atStart => exact ⟨0, Nat.zero_le _, rfl, hid (OwnNRows.nil _ _ _), hid (Keeps.refl NoB w)⟩
  case round =>
    obtain ⟨k, hk, rfl, HO, HK⟩ := hrel
    by_cases hlt : k < m
    · obtain ⟨b, off, rfl, hbR, hc⟩ := HE.out.2 (by rw [HM.out]; omega)
      obtain ⟨u1, u2, h1, h2, h3, h4⟩ := hc k (by rw [HM.out]; exact hlt)
      have e1 := HK.out.cell h1 (fun h => h)
      have e2 := HK.out.cell h2 (fun h => h)
      have H3 := hid (h3.keeps HK.out (fun _ _ h => h))
      have p0 : (0 : Int) ≤ (k : Int) := by omega
      have p1 : (k : Int) < (m : Int) := by omega
      have hsz := HK.out.size
      have ht := hid (HT.out k (by rw [HM.out]; exact hlt))
      have hvl := hid (show ((es.take k).map EqV.of).length = k by rw [List.length_map, List.length_take, HM.out]; omega)
      obtain ⟨A2, c2, e2', _⟩ := h4
      obtain ⟨A1, c1, e1', _⟩ := h3
      subst e1' e2'
      clear hc h1 h2 hbR
      have HKA := hid (((Keeps.refl NoB wr).alloc (.cells #[.slice A1 (ge es k).of.length c1, .slice A2 (ge es k).val.length c2] 69)).alloc (.cells #[.slice A1 (ge es k).of.length c1] 27))
      have HROW := hid ((H3.out.keeps HKA.out (fun _ _ h => h)).mono (R' := fun b => (R b ∧ b < w.heap.size) ∧ u7.ownBlock ≠ some b) (fun b _ hb => ⟨hb, fun e => by have := (HO.out.base_le b e).1; omega⟩))
      have HCELL := hid (show ((wr.alloc (.cells #[.slice A1 (ge es k).of.length c1, .slice A2 (ge es k).val.length c2] 69)).alloc (.cells #[.slice A1 (ge es k).of.length c1] 27)).cell? ⟨wr.heap.size + 1, 0, none⟩ = some (.slice A1 (ge es k).of.length c1) by
        have h := cell_one (wr.alloc (.cells #[.slice A1 (ge es k).of.length c1, .slice A2 (ge es k).val.length c2] 69)) (.slice A1 (ge es k).of.length c1) 27
        rw [World.size_alloc] at h; exact h)
      generalize ge es k = ek at *
      go_wp2_with (at_builtin; go_must (refine wpList_app1Row rfl _ _ 22 (fun b => R b ∧ b < w.heap.size) rfl w.heap.size hu _ ((es.take k).map EqV.of) rfl (HO.out.kept HKA.out) (wr.heap.size + 1) _ (.slice A1 ek.of.length c1) ek.of rfl HCELL.out HROW.out (by rw [hvl.out]; omega) (by simp; omega) ?_); intro v3 w3 hown3 hgr3 hat3)
      have HO3 := hid (show OwnNRows (fun b => R b ∧ b < w.heap.size) w3 w.heap.size v3 ((es.take (k + 1)).map EqV.of) by rw [ht.out, List.map_append]; exact hown3)
      have HK3 := hid ((HK.out.fresh HKA.out).grown hgr3 (fun i e hi => by have := (HO.out.base_le i e.symm).1; omega))
      clear hown3 hgr3 hat3
      go_roundw
      case rel => exact ⟨k + 1, by omega, by go_num, HO3, HK3⟩
      case measure => simp [intOf]; omega
    · obtain rfl : k = m := by omega
      have hall' : es.take k = es := by rw [← HM.out, List.take_length]
      rw [hall'] at HO
      clear hall'
      obtain ⟨Ar, cr, hvr, _, _, hrows⟩ := HO.out.reads
      have hml : (es.map EqV.of).length = k := by rw [List.length_map, HM.out]
      have HR2 := hid (reach_calls all (es.map EqV.of) Ar cr wr hrows (by rw [flat_ofs]; exact HOF.out) (fun of hof => by
        obtain ⟨e, he, rfl⟩ := List.mem_map.1 hof
        obtain ⟨j, hj, rfl⟩ := List.getElem_of_mem he
        rw [← ge_eq es j hj]
        exact HO1.out j hj) (by rw [hml]; exact hlen) hall)
      rw [hml] at HR2 hvr
      subst hvr
      clear hrows hml
      go_wp2_with fail
      refine HR2.out.mono ?_
      rintro e w4 ⟨vk, rfl, hok, hkk⟩
      have HKW := hid (HK.out.fresh hkk)
      have hsz := hid (HK.out.size)
      have HKN := hid hok
      obtain ⟨Ak, ck, hvk, _, hki⟩ := hok.reads
      have HKI := hid hki
      have HKR := hid (reachN_rising all (es.map EqV.of))
      have HKL := hid (show (reachN all (es.map EqV.of)).length ≤ 1000000 by
        have h1 := reachN_length all (es.map EqV.of)
        rw [flat_ofs] at h1
        exact Nat.le_trans h1 HOF.out)
      have HKF := hid (show ∀ x ∈ reachN all (es.map EqV.of), 0 ≤ x ∧ x < all from fun x hx => by
        obtain ⟨of, _, hf, hm⟩ := ((mem_reachN _ _ x).1 hx).mem
        exact fitsN_in hf x hm)
      have hmm := @run_makeMap Try.prog
      clear hok hkk hki HR2 HO
      subst hvk
      obtain ⟨known, hkn⟩ : ∃ known, reachN all (es.map EqV.of) = known := ⟨_, rfl⟩
      rw [hkn] at HKN HKI HKR HKL HKF ⊢
      have HKD := hid hkn
      clear hkn
      obtain ⟨kl, hkl⟩ : ∃ kl, known.length = kl := ⟨_, rfl⟩
      rw [hkl] at HKL HKN ⊢
      have HL := hid hkl
      clear hkl
      have hmm := @run_makeMap Try.prog
      go_wp2_with fail
      go_loopw [34] (fun v34 wr => ∃ (q nm : Nat) (tab : List EqV), q ≤ k ∧ v34 = .int .i64 (q : Int) ∧ nm ≤ q ∧ Hid (TabAt wr w4.heap.size nm tab) ∧ Hid (Elim all n known (es.take q) tab) ∧ Hid (∀ t ∈ tab, ∀ y ∈ t.of, y ∈ known) ∧ Hid (Keeps NoB w4 wr)) (fun v34 _ => k - (intOf v34).toNat)
      case atStart => exact ⟨0, 0, [], Nat.zero_le _, rfl, Nat.le_refl _, hid (TabAt.made w4), hid (Elim.none all n known), hid (by simp), hid ((Keeps.refl NoB w4).alloc _)⟩
      case round =>
        obtain ⟨q, nm, tab, hq, rfl, hnm, HTAB, HEL, HTK, HK⟩ := hrel
        by_cases hlt : q < k
        · obtain ⟨b, off, rfl, hbR, hc⟩ := HE.out.2 (by rw [HM.out]; omega)
          obtain ⟨u1, u2, h1, h2, h3, h4⟩ := hc q (by rw [HM.out]; exact hlt)
          have HKE := hid (HKW.out.fresh HK.out)
          have e1 := HKE.out.cell h1 (fun h => h)
          have e2 := HKE.out.cell h2 (fun h => h)
          have HP := hid (PairIn.any (R := fun b => R b ∧ b < w.heap.size) ⟨h3.keeps HKE.out (fun _ _ h => h), h4.keeps HKE.out (fun _ _ h => h)⟩)
          have p0 : (0 : Int) ≤ (q : Int) := by omega
          have p1 : (q : Int) < (k : Int) := by omega
          have hsz4 := HK.out.size
          have ht := hid (HT.out q (by rw [HM.out]; exact hlt))
          clear hc h1 h2 h3 h4 hbR
          obtain ⟨e0, he0⟩ : ∃ e0, ge es q = e0 := ⟨_, rfl⟩
          rw [he0] at HP ht
          have HE0 := hid he0
          clear he0
          obtain ⟨A1, c1, A2, c2, rfl, rfl, hi1, hb2, hA2⟩ := HP.out.form
          have HI1 := hid hi1
          have HB2 := hid hb2
          have hof1 := HO1.out q (by rw [HM.out]; exact hlt)
          have hvn := hb2.len
          rw [HE0.out] at hof1
          clear hi1 hb2
          have HKB := hid ((Keeps.refl NoB wr).alloc (.cells #[.slice A1 e0.of.length c1, .slice A2 e0.val.length c2] 69))
          have HI1 := hid (HI1.out.kept HKB.out)
          have HF := hid (cfits_calls all e0.of A1 c1 _ HI1.out)
          have HKI2 := hid (HKI.out.kept (HK.out.fresh HKB.out))
          cases hf : fitsN all e0.of with
          | false =>
            rw [hf] at HF
            have HC := hid (show closedE all n known e0 = false by unfold closedE; rw [hf]; rfl)
            clear hf
            go_wp2_with fail
            refine HF.out.mono ?_
            rintro e w5 ⟨rfl, rfl⟩
            go_wp2_with fail
            go_roundw
            case rel => exact ⟨q + 1, nm, tab, by omega, by go_num, by omega, hid (HTAB.out.kept HKB.out), hid (by rw [ht.out]; exact HEL.out.skip HC.out), HTK, hid (HK.out.fresh HKB.out)⟩
            case measure => simp [intOf]; omega
          | true =>
            rw [hf] at HF
            have HF1 := hid hf
            clear hf
            by_cases hv : e0.val.length = n
            · have HV := hid hv
              have d1 : (e0.val.length : Int) = (n : Int) := by omega
              clear hv
              have HCL := hid (fun qd => closed_calls known e0.of Ak A1 ck c1 ((wr.alloc (.cells #[.slice A1 e0.of.length c1, .slice A2 e0.val.length c2] 69)).drewN qd) HKI2.out (HKR.out.imp (fun h => by omega)) (by rw [HL.out]; have := HKL.out; omega) HI1.out)
              rw [HL.out] at HCL
              cases hcl : inAllN known e0.of with
              | false =>
                have HC := hid (show closedE all n known e0 = false by unfold closedE; rw [show (e0.of.all fun i => decide (i ∈ known)) = false from hcl]; simp)
                rw [hcl] at HCL
                clear hcl
                go_wp2_with fail
                refine HF.out.mono ?_
                rintro e w5 ⟨rfl, rfl⟩
                go_wp2_with fail
                refine (HCL.out 0).mono ?_
                rintro e w5 ⟨rfl, q5, rfl⟩
                clear d1
                go_wp2_with fail
                go_roundw
                case rel => exact ⟨q + 1, nm, tab, by omega, by go_num, by omega, hid (HTAB.out.kept (HKB.out.drewN q5)), hid (by rw [ht.out]; exact HEL.out.skip HC.out), HTK, hid ((HK.out.fresh HKB.out).drewN q5)⟩
                case measure => simp [intOf]; omega
              | true =>
                have HC := hid (show closedE all n known e0 = true by unfold closedE; rw [HF1.out, show (e0.of.all fun i => decide (i ∈ known)) = true from hcl, decide_eq_true HV.out]; rfl)
                have HIN := hid (show ∀ y ∈ e0.of, y ∈ known from fun y hy => by simpa using List.all_eq_true.1 hcl y hy)
                rw [hcl] at HCL
                clear hcl
                go_wp2_with fail
                refine HF.out.mono ?_
                rintro e w5 ⟨rfl, rfl⟩
                go_wp2_with fail
                refine (HCL.out 0).mono ?_
                rintro e w5 ⟨rfl, q5, rfl⟩
                clear d1
                go_wp2_with fail
                have HBX := hid (show ((wr.alloc (.cells #[.slice A1 e0.of.length c1, .slice A2 e0.val.length c2] 69)).drewN q5).heap[wr.heap.size]? = some (.cells #[.slice A1 e0.of.length c1, .slice A2 e0.val.length c2] 69 (0, 0)) from heap_alloc_new wr _)
                have HPX := hid (show PairIn Any ((wr.alloc (.cells #[.slice A1 e0.of.length c1, .slice A2 e0.val.length c2] 69)).drewN q5) (.slice A1 e0.of.length c1) (.slice A2 e0.val.length c2) e0 from HP.out.kept (HKB.out.drewN q5))
                have HTX := hid (HTAB.out.kept (HKB.out.drewN q5))
                have HKX := hid ((Keeps.refl NoB wr).fresh (HKB.out.drewN q5))
                have hk4 : q + 1 ≤ 1000001 := by omega
                obtain ⟨wo, rfl⟩ : ∃ wo : World, wo = wr := ⟨_, rfl⟩
                go_loopg [14] (stepsLeft all e0) (fun gn _ wr => ∃ (e : EqV) (v1 v2 : Value), Hid (wr.heap[wo.heap.size]? = some (.cells #[v1, v2] 69 (0, 0))) ∧ Hid (PairIn Any wr v1 v2 e) ∧ Hid (Under n tab e0 e) ∧ Hid (TabAt wr w4.heap.size nm tab) ∧ Hid (∀ y ∈ e.of, y ∈ known) ∧ Hid (Keeps NoB wo wr) ∧ Hid (stepsLeft all e ≤ gn))
                case atStart => exact ⟨e0, _, _, HBX, HPX, hid (Under.start HC.out), HTX, HIN, HKX, hid (Nat.le_refl _)⟩
                case round =>
                  clear HBX HPX HTX HKX
                  obtain ⟨e, v1, v2, HBX, HPX, HU, HTX, HIE, HKX, HST⟩ := hrel
                  obtain ⟨B1, d1, B2, d2, rfl, rfl, hi1, hb2, hB2⟩ := HPX.out.form
                  have HI := hid hi1
                  have HB := hid hb2
                  have hc0 := (cells2 HBX.out).1
                  have hc1 := (cells2 HBX.out).2
                  have hwl := lt_of_heap HBX.out
                  clear hi1 hb2
                  obtain ⟨eo, ev⟩ := e
                  dsimp only at *
                  cases eo with
                  | nil =>
                    have HZ := hid (zero_calls ev B2 d2 _ wr HB.out)
                    cases hz : zeroB ev with
                    | true =>
                      rw [hz] at HZ
                      have HZT := hid hz
                      clear hz
                      go_wp2_with fail
                      refine HZ.out.mono ?_
                      rintro e w6 ⟨rfl, rfl⟩
                      go_wp2_with fail
                      go_roundw
                      case rel => exact ⟨q + 1, nm, tab, by omega, by go_num, by omega, HTX, hid (by rw [ht.out]; exact HU.out.zero HEL.out rfl HZT.out), HTK, hid (HK.out.fresh HKX.out)⟩
                      case measure => simp [intOf]; omega
                    | false =>
                      rw [hz] at HZ
                      have HZT := hid hz
                      clear hz
                      go_wp2_with fail
                      refine HZ.out.mono ?_
                      rintro e w6 ⟨rfl, rfl⟩
                      go_wp2_with fail
                      go_ret
                      have hno : ¬ Agree all n es := not_agree (tab := tab) (es := es.take q) (e0 := e0) (e := ⟨[], ev⟩) (by rw [HKD.out]; exact HEL.out) HU.out (by rw [HKD.out]; exact HC.out) rfl HZT.out (fun y hy => List.mem_of_mem_take hy) (by rw [← HE0.out]; exact ge_mem es q (by rw [HM.out]; exact hlt))
                      rw [agreesN_no hno]
                      exact ⟨rfl, HKW.out.fresh (HK.out.fresh HKX.out)⟩
                  | cons x a =>
                    have hxk := HIE.out x (List.mem_cons_self ..)
                    have hxr := HKF.out x hxk
                    have hwf := hid (show (Lit.int .i64 x).wf = true from WalkArith.wf_i64 ⟨by omega, by omega⟩)
                    clear hxk hxr
                    obtain ⟨b9, o9, rfl, hc9⟩ := HI.out.get (by simp)
                    have hcx := hc9 0 (by simp)
                    rw [Nat.add_zero, gi_head] at hcx
                    clear hc9
                    obtain ⟨g, hmap, hdom, hrng⟩ := HTX.out
                    have HMAP := hid hmap
                    have HDOM := hid hdom
                    have HRNG := hid hrng
                    clear hmap hdom hrng
                    have hal : 0 < (x :: a).length := by simp
                    obtain ⟨la, hla⟩ : ∃ la, (x :: a).length = la := ⟨_, rfl⟩
                    rw [hla] at hal HBX HPX hc0
                    have HLA := hid hla
                    clear hla
                    by_cases hx : ∃ t ∈ tab, gi t.of 0 = x
                    · obtain ⟨t, htt, hgt⟩ := hx
                      obtain ⟨t1, t2, hg12, ht12⟩ := HRNG.out t htt
                      rw [hgt] at hg12
                      have hyes := hid (show (g x).isSome = true by rw [hg12]; rfl)
                      have HP2 := hid ht12
                      obtain ⟨T1, f1, T2, f2, rfl, rfl, _, _, _⟩ := ht12.form
                      have hgn := hid (show (g x).getD (.agg #[.slice none 0 0, .slice none 0 0]) = .agg #[.slice T1 t.of.length f1, .slice T2 t.val.length f2] by rw [hg12]; rfl)
                      have htr := HEL.out.steps.rise t htt
                      have HTT := hid htt
                      have HGT := hid hgt
                      have htl := hid (HEL.out.steps.len t htt)
                      have hb9 := World.block_lt_of_cell? wr _ hcx
                      dsimp only at hb9
                      have HKA := hid ((Keeps.refl NoB wr).alloc (.cells #[.slice T1 t.of.length f1, .slice T2 t.val.length f2] 69))
                      have HKB2 := hid (HKA.out.alloc (.cells #[.slice (some ⟨b9, o9, none⟩) la d1, .slice B2 ev.length d2, .slice T1 t.of.length f1, .slice T2 t.val.length f2] 69))
                      have HADD := hid (eadd_yes n [⟨x :: a, ev⟩, t] (some ⟨wr.heap.size + 1, 0, none⟩) 2 Any ((wr.alloc (.cells #[.slice T1 t.of.length f1, .slice T2 t.val.length f2] 69)).alloc (.cells #[.slice (some ⟨b9, o9, none⟩) la d1, .slice B2 ev.length d2, .slice T1 t.of.length f1, .slice T2 t.val.length f2] 69)) (by omega)
                        (by have h := eqs_pair (T := 69) (HPX.out.kept HKA.out) (HP2.out.kept HKA.out); rw [World.size_alloc] at h; exact h) (by simp) (by
                          have h1 := nodup_le (nodup_of_rising HU.out.rise) HIE.out
                          have h2 := nodup_le (nodup_of_rising htr) (HTK.out t htt)
                          have h3 := HKL.out
                          have h4 := HL.out
                          simp only [ofsE, List.flatMap_cons, List.flatMap_nil, List.append_nil, List.length_append]
                          dsimp only at h1
                          omega) (by
                          have h1 := HU.out.len
                          have h2 := htl.out
                          dsimp only at h1
                          simp [fitB, valsE, h1, h2]))
                      clear hg12 ht12 htr htt hgt
                      go_wp2_with (at_lookup; go_must (refine wpList_look_ok_at _ rfl _ _ _ rfl 69 Try.underlying87 _ (zero_eqn _) w4.heap.size nm g rfl HMAP.out x rfl hwf.out _ hgn.out _ hyes.out ?_))
                      refine HADD.out.mono ?_
                      rintro e w8 ⟨r1, r2, rfl, hr1, hr2, hk8⟩
                      have HO1 := hid hr1
                      have HO2 := hid hr2
                      have HK8 := hid (HKB2.out.fresh hk8)
                      have HBX8 := hid (HK8.out.heap HBX.out (fun h => h))
                      obtain ⟨C1, g1, rfl, _, _⟩ := OwnInts.reads HO1.out
                      obtain ⟨C2, g2, rfl, _, _⟩ := OwnB.reads HO2.out
                      have c80 := (cells2 HBX8.out).1
                      have c81 := (cells2 HBX8.out).2
                      have f80 := free2 HBX8.out 0
                      have f81 := free2 HBX8.out 1
                      clear hr1 hr2 hk8
                      have HPN := hid (PairIn.setBox (PairIn.any (e := addE n ⟨x :: a, ev⟩ t) ⟨OwnInts.nums HO1.out |>.mono (R' := Any) (fun _ _ _ => trivial), OwnB.row HO2.out |>.mono (R' := Any) (fun _ _ _ => trivial)⟩) HBX8.out (.slice C1 (oddN (ofsE [⟨x :: a, ev⟩, t])).length g1) (.slice C2 (sumB n (valsE [⟨x :: a, ev⟩, t])).length g2))
                      have HBN := hid (put_two HBX8.out (.slice C1 (oddN (ofsE [⟨x :: a, ev⟩, t])).length g1) (.slice C2 (sumB n (valsE [⟨x :: a, ev⟩, t])).length g2))
                      have HTN := hid ((HTX.out.kept HK8.out).setBox HBX8.out (.slice C1 (oddN (ofsE [⟨x :: a, ev⟩, t])).length g1) (.slice C2 (sumB n (valsE [⟨x :: a, ev⟩, t])).length g2))
                      have HKN8 := hid (((HKX.out.fresh HK8.out).setCell (p := ⟨wo.heap.size, 0, none⟩) (fun h => absurd h (Nat.lt_irrefl _)) (.slice C1 (oddN (ofsE [⟨x :: a, ev⟩, t])).length g1)).setCell (p := ⟨wo.heap.size, 1, none⟩) (fun h => absurd h (Nat.lt_irrefl _)) (.slice C2 (sumB n (valsE [⟨x :: a, ev⟩, t])).length g2))
                      have HUN := hid (HU.out.step HEL.out.steps HTT.out)
                      have HIN2 := hid (show ∀ y ∈ (addE n ⟨x :: a, ev⟩ t).of, y ∈ known from fun y hy => by
                        rw [addE_of] at hy
                        rcases List.mem_append.1 (oddN_sub hy) with h | h
                        · exact HIE.out y h
                        · exact HTK.out t HTT.out y h)
                      have HSN := hid (stepsLeft_add (all := all) (n := n) HU.out.rise (HEL.out.steps.rise t HTT.out) (by simp) (HEL.out.steps.some t HTT.out) HGT.out (fun y hy => (HKF.out y (HIE.out y hy)).2) (fun y hy => (HKF.out y (HTK.out t HTT.out y hy)).2))
                      go_wp2_with fail
                      go_roundg (stepsLeft all (addE n ⟨x :: a, ev⟩ t))
                      case measure => have h1 := HSN.out; have h2 := HST.out; omega
                      case rel => exact ⟨addE n ⟨x :: a, ev⟩ t, _, _, HBN, HPN, HUN, HTN, HIN2, HKN8, hid (Nat.le_refl _)⟩
                    · have hno := hid (show (g x).isSome = false by
                        cases hg : (g x).isSome with
                        | false => rfl
                        | true => exact absurd ((HDOM.out x).1 hg) hx)
                      have hgn := hid (show (g x).getD (.agg #[.slice none 0 0, .slice none 0 0]) = .agg #[.slice none 0 0, .slice none 0 0] by
                        have h := hno.out
                        cases hg : g x with
                        | none => rfl
                        | some u => rw [hg] at h; cases h)
                      have HNX := hid hx
                      clear hx
                      go_wp2_with (at_lookup; go_must (refine wpList_look_ok_at _ rfl _ _ _ rfl 69 Try.underlying87 _ (zero_eqn _) w4.heap.size nm g rfl HMAP.out x rfl hwf.out _ hgn.out _ hno.out ?_))
                      have hb9 := World.block_lt_of_cell? wr _ hcx
                      dsimp only at hb9
                      have HKA := hid ((Keeps.refl NoB wr).alloc (.cells #[.slice none 0 0, .slice none 0 0] 69))
                      have HMA := hid (HMAP.out.keeps HKA.out (fun h => h))
                      have hnm2 : nm < maxLen := by unfold maxLen; omega
                      obtain ⟨w7, hrun7, hm7, hg7, hs7⟩ := MapAt.store (w := (wr.alloc (.cells #[.slice none 0 0, .slice none 0 0] 69)).drew) (t := 87) (e := 69) (by exact HMA.out) Try.underlying87 hnm2 hwf.out (.agg #[.slice (some ⟨b9, o9, none⟩) la d1, .slice B2 ev.length d2])
                      have HM7 := hid hm7
                      have HG7 := hid hg7
                      clear hm7 hg7 hs7
                      have hne13 := HMAP.out.ne_cells HBX.out
                      have HBX7 := hid ((Keeps.ofGrown HG7.out).heap (HKA.out.drew.heap HBX.out (fun h => h)) (fun e => by injection e with e; exact hne13 e))
                      have hc7 := (cells2 HBX7.out).1
                      have hc71 := (cells2 HBX7.out).2
                      have HT7 := hid (TabAt.put (tab := tab) (e := ⟨x :: a, ev⟩) (HMAP.out.keeps HKA.out.drew (fun h => h)) HDOM.out (fun t ht => by
                        obtain ⟨t1, t2, h5, h6⟩ := HRNG.out t ht
                        exact ⟨t1, t2, h5, h6.kept HKA.out.drew⟩) (HPX.out.kept HKA.out.drew) (fun t ht e => HNX.out ⟨t, ht, e⟩) HM7.out HG7.out)
                      have HK7 := hid (((HK.out.fresh HKX.out).fresh HKA.out.drew).grown HG7.out (fun i e hi => by injection e with e; omega))
                      clear hne13
                      go_region
                      go_wp2_with fail
                      go_roundw
                      case rel => exact ⟨q + 1, nm + 1, tab ++ [⟨x :: a, ev⟩], by omega, by go_num, by omega, HT7, hid (by rw [ht.out]; exact HU.out.store HEL.out HC.out (by simp) (fun t ht e => HNX.out ⟨t, ht, e⟩)), hid (fun t ht y hy => by
                        rcases List.mem_append.1 ht with ht | ht
                        · exact HTK.out t ht y hy
                        · rw [List.mem_singleton.1 ht] at hy; exact HIE.out y hy), HK7⟩
                      case measure => simp [intOf]; omega
            · have HC := hid (show closedE all n known e0 = false by unfold closedE; rw [decide_eq_false hv]; simp)
              have d1 : ¬ ((e0.val.length : Int) = (n : Int)) := by omega
              clear hv
              go_wp2_with fail
              refine HF.out.mono ?_
              rintro e w5 ⟨rfl, rfl⟩
              go_wp2_with fail
              go_roundw
              case rel => exact ⟨q + 1, nm, tab, by omega, by go_num, by omega, hid (HTAB.out.kept HKB.out), hid (by rw [ht.out]; exact HEL.out.skip HC.out), HTK, hid (HK.out.fresh HKB.out)⟩
              case measure => simp [intOf]; omega
        · obtain rfl : q = k := by omega
          go_wp2_with fail
          go_ret
          have hel : Elim all n known es tab := by
            have := HEL.out
            rwa [show es.take q = es by rw [← HM.out, List.take_length]] at this
          rw [← HKD.out] at hel
          rw [agreesN_yes hel.agree]
          exact ⟨rfl, HKW.out.fresh HK.out⟩
end Go.Proofs.Ytkjaacpcnjakcaa
/- An equation more, behind a guard. No condition. -/
set_option linter.unusedVariables false
namespace Go.Proofs.Ytkjaacpcnjakcaa
open Go.RowKit

/-- The same, the operation behind a guard. -/
theorem wpList_app1EqG {w : World} {ops : Array Oper} {rest : List Oper} {o : Oper} {a : Act} {Q : Exit → Act → World → Prop} (hgd : Region.wanted o (yielded ops a.tmps) = true) (s x : Operand) (t : TypeId)
    (ho : o.op = .call { callee := .builtin .append, args := #[s, x], argTypes := #[t, t] }) (base : Nat) (ht : Try.prog.underlying t = some (.slice 69)) (v : Value) (es : List EqV) (hs : a.eval s = v) (hown : OwnEqs (fun _ => True) w base v es) (bx c : Nat) (u1 u2 : Value) (e : EqV)
    (hx : a.eval x = .slice (some ⟨bx, 0, none⟩) 1 c) (hc1 : w.cell? ⟨bx, 0, none⟩ = some u1) (hc2 : w.cell? ⟨bx, 1, none⟩ = some u2) (hp : PairIn (fun b => v.ownBlock ≠ some b) w u1 u2 e) (n : Nat) (hn : es.length = n) (hb : n + 1 ≤ 1073741824) (hbase : base ≤ w.heap.size)
    (h : ∀ A' c' w', OwnEqs (fun _ => True) w' base (.slice A' (n + 1) c') (es ++ [e]) → w.grownBy w' v.ownBlock → (∀ i, some i = v.ownBlock → base ≤ i) → wpList Try.prog ops Q rest (a.put o.dst (.slice A' (n + 1) c')) w') : wpList Try.prog ops Q (o :: rest) a w := by
  subst hn
  obtain ⟨i, i1, i2, i3, i4⟩ := info_parts info_eqn
  have hlo : ∀ i, some i = v.ownBlock → base ≤ i := fun i e => (hown.base_le i e.symm).1
  obtain ⟨us, hus, hpp⟩ := hown
  have hones := hp.ones
  refine wpList_step fun K hK => ?_
  rw [if_pos hgd]
  refine wp_append_at s x t ho base 69 i _ 2 48 ht i1 i2 i3 i4 rfl (by decide) v es.length us hs hus ⟨bx, 0, none⟩ 1 c [u1, u2] hx rfl (fun j u hj => ?_) (fun u hu => ?_) (by unfold maxLen; omega) (by omega) hbase ?_
  · match j, hj with
    | 0, hj => simp at hj; subst hj; exact hc1
    | 1, hj => simp at hj; subst hj; exact hc2
  · rcases List.mem_cons.1 hu with e1 | hu
    · rw [e1]; exact hones.1
    · rw [List.mem_singleton.1 hu]; exact hones.2
  · intro v' w' h1 h2 hat
    obtain ⟨A', c', e', _⟩ : ∃ A' c', v' = .slice A' (es.length + 1) c' ∧ True := by
      rcases h1.2 with ⟨rfl, h0⟩ | ⟨g, cap, cur, rfl, _⟩
      · omega
      · exact ⟨_, cap, rfl, trivial⟩
    subst e'
    refine hK _ _ (h A' c' w' ⟨us ++ [u1, u2], by rw [List.length_append]; exact h1, ?_⟩ h2 hlo)
    have key : ∀ (vs : List Value) (fs : List EqV), PairsIn (fun b => v.ownBlock ≠ some b) w vs fs → PairsIn (fun b => True ∧ (Value.slice A' (es.length + 1) c').ownBlock ≠ some b) w' vs fs := fun vs fs hv => by
      have h5 : PairsIn (fun b => v.ownBlock ≠ some b ∧ b < w.heap.size) w vs fs := hv.mono (fun b h1 h2 => ⟨h2, h1⟩)
      refine (h5.keeps (Keeps.ofGrown h2) (fun b hb e => hb.1 e.symm)).mono (fun b _ hb => ⟨trivial, fun e => ?_⟩)
      rcases hat with h6 | h6
      · exact hb.1 (by rw [← h6]; exact e)
      · have e7 := e.symm.trans h6
        injection e7 with e7
        have := hb.2
        omega
    exact (key us es (hpp.mono (fun b _ hb => hb.2))).append (key [u1, u2] [e] (PairsIn.one hp))
end Go.Proofs.Ytkjaacpcnjakcaa
/- The first words of the laws of closure: the walk of almonrylaw16.speaks. No condition. -/
set_option linter.unusedVariables false
namespace Go.Proofs.Ytkjaacpcnjakcaa
open Go.RowKit

theorem rows3 (w : World) (b b0 b1 b2 : Nat) (l0 l1 l2 : List Int) (T : TypeId) (h : w.heap[b]? = some (.cells #[.slice (some ⟨b0, 0, none⟩) l0.length l0.length, .slice (some ⟨b1, 0, none⟩) l1.length l1.length, .slice (some ⟨b2, 0, none⟩) l2.length l2.length] T (0, 0)))
    (h0 : IntsAt w .i64 (some ⟨b0, 0, none⟩) l0) (h1 : IntsAt w .i64 (some ⟨b1, 0, none⟩) l1) (h2 : IntsAt w .i64 (some ⟨b2, 0, none⟩) l2) : RowsAt w (some ⟨b, 0, none⟩) [l0, l1, l2] := by
  refine ⟨by simp, fun _ => ⟨b, 0, rfl, fun j hj => ?_⟩⟩
  match j, hj with
  | 0, _ => exact ⟨.slice (some ⟨b0, 0, none⟩) l0.length l0.length, by simp [World.cell?, h], ⟨_, _, rfl, Nat.le_refl _, (fun e => by cases e), h0⟩⟩
  | 1, _ => exact ⟨.slice (some ⟨b1, 0, none⟩) l1.length l1.length, by simp [World.cell?, h], ⟨_, _, rfl, Nat.le_refl _, (fun e => by cases e), h1⟩⟩
  | 2, _ => exact ⟨.slice (some ⟨b2, 0, none⟩) l2.length l2.length, by simp [World.cell?, h], ⟨_, _, rfl, Nat.le_refl _, (fun e => by cases e), h2⟩⟩
theorem own_three {w : World} {b b0 b1 b2 b3 b4 b5 : Nat} {x y z : EqV} (h : w.heap[b]? = some (.cells #[.slice (some ⟨b0, 0, none⟩) x.of.length x.of.length, .slice (some ⟨b1, 0, none⟩) x.val.length x.val.length, .slice (some ⟨b2, 0, none⟩) y.of.length y.of.length, .slice (some ⟨b3, 0, none⟩) y.val.length y.val.length, .slice (some ⟨b4, 0, none⟩) z.of.length z.of.length, .slice (some ⟨b5, 0, none⟩) z.val.length z.val.length] 69 (0, 0)))
    (h0 : IntsIn (fun k => k ≠ b) w (some ⟨b0, 0, none⟩) x.of) (h1 : BytesIn (fun k => k ≠ b) w (some ⟨b1, 0, none⟩) x.val) (h2 : IntsIn (fun k => k ≠ b) w (some ⟨b2, 0, none⟩) y.of) (h3 : BytesIn (fun k => k ≠ b) w (some ⟨b3, 0, none⟩) y.val) (h4 : IntsIn (fun k => k ≠ b) w (some ⟨b4, 0, none⟩) z.of) (h5 : BytesIn (fun k => k ≠ b) w (some ⟨b5, 0, none⟩) z.val) (base : Nat) (hb : base ≤ b) :
    OwnEqs (fun _ => True) w base (.slice (some ⟨b, 0, none⟩) 3 3) [x, y, z] := by
  refine ⟨_, ⟨rfl, .inr ⟨b, 3, _, rfl, hb, h, Nat.le_refl _, by unfold maxLen; omega, rfl, rfl⟩⟩, rfl, fun j hj => ?_⟩
  have key : ∀ k, k ≠ b → (True ∧ (Value.slice (some ⟨b, 0, none⟩) 3 3).ownBlock ≠ some k) := fun k hk => ⟨trivial, fun e => hk (by simpa [Value.ownBlock] using e.symm)⟩
  have kn : ∀ {A : Option Addr} {l : List Int}, IntsIn (fun k => k ≠ b) w A l → NumsIn (fun k => True ∧ (Value.slice (some ⟨b, 0, none⟩) 3 3).ownBlock ≠ some k) w (.slice A l.length l.length) l ∨ A = none := fun {A l} hx => by
    cases A with
    | none => exact .inr rfl
    | some a => exact .inl ⟨_, _, rfl, Nat.le_refl _, (fun e => by cases e), hx.mono (fun k _ hk => key k hk)⟩
  have kb : ∀ {A : Option Addr} {l : List UInt8}, BytesIn (fun k => k ≠ b) w A l → RowIn (fun k => True ∧ (Value.slice (some ⟨b, 0, none⟩) 3 3).ownBlock ≠ some k) w (.slice A l.length l.length) l ∨ A = none := fun {A l} hx => by
    cases A with
    | none => exact .inr rfl
    | some a => exact .inl ⟨_, _, rfl, Nat.le_refl _, (fun e => by cases e), hx.mono (fun k _ hk => key k hk)⟩
  match j, hj with
  | 0, _ => exact ⟨_, _, rfl, rfl, (kn h0).resolve_right (by simp), (kb h1).resolve_right (by simp)⟩
  | 1, _ => exact ⟨_, _, rfl, rfl, (kn h2).resolve_right (by simp), (kb h3).resolve_right (by simp)⟩
  | 2, _ => exact ⟨_, _, rfl, rfl, (kn h4).resolve_right (by simp), (kb h5).resolve_right (by simp)⟩
set_option maxHeartbeats 3200000 in
set_option maxRecDepth 20000 in
theorem speaks16_calls (w : World) : Calls Try.prog 28 #[] w fun e w' => e = .returned (.bool true) ∧ Keeps NoB w w' := by
  go_enter Try.func28, Try.ntmps28
  go_wp2_with fail
  obtain ⟨os, hos⟩ : ∃ os : List Obj, os = [.cells #[.int .i64 0] 3, .cells #[.int .u8 1] 5, .cells #[.int .i64 0, .int .i64 1] 3, .cells #[.int .u8 3] 5, .cells #[.int .i64 1] 3, .cells #[.int .u8 2] 5, .cells #[.slice (some ⟨w.heap.size, 0, none⟩) 1 1, .slice (some ⟨w.heap.size + 1, 0, none⟩) 1 1, .slice (some ⟨w.heap.size + 1 + 1, 0, none⟩) 2 2, .slice (some ⟨w.heap.size + 1 + 1 + 1, 0, none⟩) 1 1, .slice (some ⟨w.heap.size + 1 + 1 + 1 + 1, 0, none⟩) 1 1, .slice (some ⟨w.heap.size + 1 + 1 + 1 + 1 + 1, 0, none⟩) 1 1] 69, .cells #[.int .i64 0] 3, .cells #[.int .i64 0, .int .i64 1] 3, .cells #[.int .i64 1, .int .i64 2, .int .i64 3] 3, .cells #[.slice (some ⟨w.heap.size + 1 + 1 + 1 + 1 + 1 + 1 + 1, 0, none⟩) 1 1, .slice (some ⟨w.heap.size + 1 + 1 + 1 + 1 + 1 + 1 + 1 + 1, 0, none⟩) 2 2, .slice (some ⟨w.heap.size + 1 + 1 + 1 + 1 + 1 + 1 + 1 + 1 + 1, 0, none⟩) 3 3] 27] := ⟨_, rfl⟩
  have hk := keeps_allocs os w
  have hh := heap_allocs os w
  have g0 := hh 0 (by rw [hos]; simp)
  have g1 := hh 1 (by rw [hos]; simp)
  have g2 := hh 2 (by rw [hos]; simp)
  have g3 := hh 3 (by rw [hos]; simp)
  have g4 := hh 4 (by rw [hos]; simp)
  have g5 := hh 5 (by rw [hos]; simp)
  have g6 := hh 6 (by rw [hos]; simp)
  have g7 := hh 7 (by rw [hos]; simp)
  have g8 := hh 8 (by rw [hos]; simp)
  have g9 := hh 9 (by rw [hos]; simp)
  have g10 := hh 10 (by rw [hos]; simp)
  clear hh
  subst hos
  simp only [List.foldl_cons, List.foldl_nil, List.getElem?_cons_zero, List.getElem?_cons_succ, Nat.add_zero] at g0 g1 g2 g3 g4 g5 g6 g7 g8 g9 g10 hk
  generalize (World.alloc _ _ : World) = w1 at *
  have HK1 := hid hk
  have HR := hid (rows3 w1 (w.heap.size + 10) (w.heap.size + 7) (w.heap.size + 8) (w.heap.size + 9) [0] [0, 1] [1, 2, 3] 27 g10 (IntsAt.ofBlock [0] g7 (by simp)) (IntsAt.ofBlock [0, 1] g8 (by simp)) (IntsAt.ofBlock [1, 2, 3] g9 (by simp)))
  have HOE := hid (own_three (x := ⟨[0], [1]⟩) (y := ⟨[0, 1], [3]⟩) (z := ⟨[1], [2]⟩) g6 (IntsIn.ofCells [0] g0 (by simp) (by omega)) (BytesIn.ofCells [1] g1 (by simp) (by omega)) (IntsIn.ofCells [0, 1] g2 (by simp) (by omega)) (BytesIn.ofCells [3] g3 (by simp) (by omega)) (IntsIn.ofCells [1] g4 (by simp) (by omega)) (BytesIn.ofCells [2] g5 (by simp) (by omega)) w.heap.size (by omega))
  clear hk g0 g1 g2 g3 g4 g5 g6 g7 g8 g9 g10
  refine (reach_calls 4 [[0], [0, 1], [1, 2, 3]] _ 3 w1 HR.out (by decide) (by decide) (by decide) (by decide)).mono ?_
  rintro e w2 ⟨v2, rfl, ho2, hk2⟩
  rw [reach_16] at ho2
  obtain ⟨A2, c2, rfl, _, hat2⟩ := ho2.reads
  have HA2 := hid hat2
  have HK2 := hid (HK1.out.fresh hk2)
  have HOE := hid (HOE.out.kept hk2)
  clear ho2 hat2 hk2
  have HS := hid (same_calls [0, 1] [0, 1] A2 (some ⟨w2.heap.size, 0, none⟩) c2 2 (w2.alloc (.cells #[.int .i64 0, .int .i64 1] 3)) (HA2.out.kept ((Keeps.refl NoB w2).alloc _)) (IntsAt.ofBlock [0, 1] (heap_alloc_new w2 _) (by simp)))
  rw [show sameN [0, 1] [0, 1] = 1 by decide] at HS
  go_wp2_with fail
  refine HS.out.mono ?_
  rintro e w3 ⟨rfl, hk3⟩
  have HK23 := hid (((Keeps.refl NoB w2).alloc (.cells #[.int .i64 0, .int .i64 1] 3)).fresh hk3)
  have HOE := hid (HOE.out.kept HK23.out)
  have HK3 := hid (HK2.out.fresh HK23.out)
  have HAG := hid (agrees_calls 4 1 eqs16 _ 3 _ w3 (HOE.out.eqs (by simp)) (by omega) (by decide) (by decide) (by omega) (by decide))
  rw [agree_16] at HAG
  clear hk3
  go_wp2_with fail
  refine HAG.out.mono ?_
  rintro e w4 ⟨rfl, hk4⟩
  have HOE := hid (HOE.out.kept hk4)
  have HK4 := hid (HK3.out.fresh hk4)
  have HKA := hid ((((Keeps.refl NoB w4).alloc (.cells #[.int .i64 1] 3)).alloc (.cells #[.int .u8 3] 5)).alloc (.cells #[.slice (some ⟨w4.heap.size, 0, none⟩) 1 1, .slice (some ⟨w4.heap.size + 1, 0, none⟩) 1 1] 69))
  obtain ⟨os, hos⟩ : ∃ os : List Obj, os = [.cells #[.int .i64 1] 3, .cells #[.int .u8 3] 5, .cells #[.slice (some ⟨w4.heap.size, 0, none⟩) 1 1, .slice (some ⟨w4.heap.size + 1, 0, none⟩) 1 1] 69] := ⟨_, rfl⟩
  have hh := heap_allocs os w4
  have g0 := hh 0 (by rw [hos]; simp)
  have g1 := hh 1 (by rw [hos]; simp)
  have g2 := hh 2 (by rw [hos]; simp)
  clear hh
  subst hos
  simp only [List.foldl_cons, List.foldl_nil, List.getElem?_cons_zero, List.getElem?_cons_succ, Nat.add_zero] at g0 g1 g2
  obtain ⟨w5, hw5⟩ : ∃ w5, ((w4.alloc (.cells #[.int .i64 1] 3)).alloc (.cells #[.int .u8 3] 5)).alloc (.cells #[.slice (some ⟨w4.heap.size, 0, none⟩) 1 1, .slice (some ⟨w4.heap.size + 1, 0, none⟩) 1 1] 69) = w5 := ⟨_, rfl⟩
  rw [hw5] at g0 g1 g2
  have hlt := HOE.out.base_le _ rfl
  have HP := hid (show PairIn (fun b => (Value.slice (some ⟨w.heap.size + 6, 0, none⟩) 3 3).ownBlock ≠ some b) w5 (.slice (some ⟨w4.heap.size, 0, none⟩) 1 1) (.slice (some ⟨w4.heap.size + 1, 0, none⟩) 1 1) ⟨[1], [3]⟩ from
    ⟨⟨_, _, rfl, Nat.le_refl _, (fun e => by cases e), IntsIn.ofCells [1] g0 (by simp) (by intro e; injection e with e; omega)⟩, ⟨_, _, rfl, Nat.le_refl _, (fun e => by cases e), BytesIn.ofCells [3] g1 (by simp) (by intro e; injection e with e; omega)⟩⟩)
  have hcc := cells2 g2
  have HC1 := hid hcc.1
  have HC2 := hid hcc.2
  have hsz5 := HK4.out.size
  clear hcc g0 g1 g2 hlt
  subst hw5
  have huq := Try.underlying60
  go_wp2_with (at_builtin; go_must (refine wpList_app1EqG (by simp [Region.wanted, yielded]) _ _ 60 rfl w.heap.size huq _ eqs16 rfl (HOE.out.kept HKA.out) _ _ _ _ ⟨[1], [3]⟩ rfl HC1.out HC2.out HP.out 3 rfl (by omega) (by simp; omega) ?_); intro A6 c6 w6 hown6 hgr6 hb6)
  have HO6 := hid hown6
  have HK6 := hid ((HK4.out.fresh HKA.out).grown hgr6 (fun i e hi => by have := hb6 i e; omega))
  have HAG2 := hid (agrees_calls 4 1 (eqs16 ++ [⟨[1], [3]⟩]) A6 c6 _ w6 (HO6.out.eqs (by simp [eqs16])) (by omega) (by decide) (by decide) (by omega) (by decide))
  rw [agree_16no] at HAG2
  clear hown6 hgr6 hb6
  refine HAG2.out.mono ?_
  rintro e w7 ⟨rfl, hk7⟩
  have HK7 := hid (HK6.out.fresh hk7)
  clear hk7
  go_wp2_with fail
  go_ret
  exact ⟨rfl, HK7.out⟩
end Go.Proofs.Ytkjaacpcnjakcaa
/- Are there more equations, or greater ones, than are looked at: the walk of almonrylaw16.big. Condition: lengths that memory bears. -/
set_option linter.unusedVariables false
namespace Go.Proofs.Ytkjaacpcnjakcaa
open Go.RowKit

theorem flat_take (eqs : List (List Int)) (k : Nat) (h : k < eqs.length) : (eqs.take (k + 1)).flatten.length = (eqs.take k).flatten.length + (gl eqs k).length := by
  rw [List.take_succ_eq_append_getElem h, List.flatten_append, List.length_append, gl_eq eqs k h]
  simp
/-- No more than are looked at. -/
structure Small16 (eqs : List (List Int)) : Prop where
  len : eqs.length ≤ 400
  flat : eqs.flatten.length ≤ 400
  each : ∀ of ∈ eqs, of.length ≤ 400
theorem len_flat {eqs : List (List Int)} {of : List Int} (h : of ∈ eqs) : of.length ≤ eqs.flatten.length := by
  obtain ⟨a, b, rfl⟩ := List.append_of_mem h
  simp [List.flatten_append]; omega
def BigPost (P : Prop) (w : World) (e : Ending) (w' : World) : Prop := ∃ b, e = .returned (.bool b) ∧ (b = false → P) ∧ w' = w
set_option maxHeartbeats 800000 in
set_option maxRecDepth 20000 in
theorem big16_calls (eqs : List (List Int)) (A : Option Addr) (c : Nat) (w : World) (h : RowsAt w A eqs) (hmx : ∀ of ∈ eqs, of.length ≤ 140737488355328) :
    Calls Try.prog 29 #[.slice A eqs.length c] w (BigPost (Small16 eqs) w) := by
  have hl := h.1
  have HE := hid h
  have HT := hid (flat_take eqs)
  have HMX := hid (fun k (hk : k < eqs.length) => hmx (gl eqs k) (gl_mem hk))
  clear h hmx
  obtain ⟨m, hm⟩ : ∃ m, eqs.length = m := ⟨_, rfl⟩
  rw [hm] at hl ⊢
  have hmm := hid hm
  clear hm
  go_enter Try.func29, Try.ntmps29
  go_wp2_with fail
  go_loop [3, 8] (fun v3 v8 => ∃ k q : Nat, k ≤ m ∧ v8 = .int .i64 (k : Int) ∧ v3 = .int .i64 (q : Int) ∧ q ≤ 400 ∧ Hid (q = (eqs.take k).flatten.length + k)) (fun _ v8 => m - (intOf v8).toNat)
  case atStart => exact ⟨0, 0, Nat.zero_le _, rfl, rfl, Nat.zero_le _, hid rfl⟩
  case round =>
    obtain ⟨k, q, hk, rfl, rfl, hq, HQ⟩ := hrel
    by_cases hlt : k < m
    · obtain ⟨b, off, rfl, hc⟩ := HE.out.2 (by rw [hmm.out]; omega)
      obtain ⟨u, cu, A1, c1, rfl, _, _, hat⟩ := hc k (by rw [hmm.out]; exact hlt)
      have p0 : (0 : Int) ≤ (k : Int) := by omega
      have p1 : (k : Int) < (m : Int) := by omega
      have hx1 := HMX.out k (by rw [hmm.out]; exact hlt)
      have ht := hid (HT.out k (by rw [hmm.out]; exact hlt))
      clear hc hat
      generalize hge : gl eqs k = of at *
      clear hge
      by_cases h1 : 400 < q + (of.length + 1)
      · have d1 : decide ((400 : Int) < (q : Int) + ((of.length : Int) + 1)) = true := decide_eq_true (by omega)
        go_wp2_with fail
        go_ret
        exact ⟨true, rfl, (fun h => absurd h (by simp)), rfl⟩
      · have d1 : decide ((400 : Int) < (q : Int) + ((of.length : Int) + 1)) = false := decide_eq_false (by omega)
        have HQ2 := hid (show q + (of.length + 1) = (eqs.take (k + 1)).flatten.length + (k + 1) by
          rw [ht.out]
          have := HQ.out
          omega)
        go_wp2_with fail
        go_round
        case rel => exact ⟨k + 1, q + (of.length + 1), by omega, by go_num, by go_num, by omega, HQ2⟩
        case measure => simp [intOf]; omega
    · obtain rfl : k = m := by omega
      have hall : eqs.take k = eqs := by rw [← hmm.out, List.take_length]
      rw [hall] at HQ
      go_wp2_with fail
      go_ret
      have h1 := HQ.out
      have h2 := hmm.out
      refine ⟨false, rfl, fun _ => ⟨by omega, by omega, fun of hof => Nat.le_trans (len_flat hof) (by omega)⟩, rfl⟩
end Go.Proofs.Ytkjaacpcnjakcaa
/- Are numbers of blocks such as there are; which aren't known; which follow: the reference's walks. Conditions: numbers are of their kinds; lengths are small. -/
set_option linter.unusedVariables false
namespace Go.Proofs.Ytkjaacpcnjakcaa
open Go.RowKit

set_option maxHeartbeats 1600000 in
set_option maxRecDepth 20000 in
theorem rfits16_calls (all : Int) (of : List Int) (A : Option Addr) (c : Nat) (w : World) (h : IntsAt w .i64 A of) :
    Calls Try.prog 33 #[.int .i64 all, .slice A of.length c] w fun e w' => e = .returned (.bool (fitsN all of)) ∧ Keeps NoB w w' := by
  have hl := h.len
  have HC := hid h
  have HNO := hid (fun k (hk : k < of.length) (h : fitAt all of k = false) => fitsN_no hk h)
  have HYES := hid (fun h => fitsN_yes (all := all) (of := of) h)
  clear h
  obtain ⟨n, hn⟩ : ∃ n, of.length = n := ⟨_, rfl⟩
  rw [hn] at hl ⊢
  have hnn := hid hn
  clear hn
  go_enter Try.func33, Try.ntmps33
  go_wp2_with fail
  go_loopw [5] (fun v5 wr => ∃ k : Nat, k ≤ n ∧ v5 = .int .i64 (k : Int) ∧ Hid (∀ j, j < k → fitAt all of j = true) ∧ Hid (Keeps NoB w wr)) (fun v5 _ => n - (intOf v5).toNat)
  case atStart => exact ⟨0, Nat.zero_le _, rfl, fun j hj => absurd hj (Nat.not_lt_zero _), Keeps.refl _ _⟩
  case round =>
    obtain ⟨k, hk, rfl, HJ, HK⟩ := hrel
    by_cases hlt : k < n
    · obtain ⟨b, off, rfl, hc⟩ := (HC.out.kept HK.out).get (by rw [hnn.out]; omega)
      have c1 := hc k (by rw [hnn.out]; exact hlt)
      have p0 : (0 : Int) ≤ (k : Int) := by omega
      have p1 : (k : Int) < (n : Int) := by omega
      have hno := hid (HNO.out k (by rw [hnn.out]; exact hlt))
      have hfa := hid (show fitAt all of k = (decide (0 ≤ gi of k) && decide (gi of k < all) && (decide (k = 0) || decide (gi of (k - 1) < gi of k))) from rfl)
      by_cases h0 : gi of k < 0
      · have d0 : decide (gi of k < 0) = true := decide_eq_true h0
        have hr := hid (hno.out (by rw [hfa.out, decide_eq_false (show ¬ (0 : Int) ≤ gi of k by omega)]; rfl))
        clear hc h0
        generalize gi of k = x at *
        go_wp2_with fail
        go_quiet (fail)
        go_wp2_with fail
        go_ret
        rw [hr.out]; exact ⟨rfl, HK.out.drewN _⟩
      · have d0 : decide (gi of k < 0) = false := decide_eq_false h0
        by_cases h1 : gi of k < all
        · have d1 : decide (all ≤ gi of k) = false := decide_eq_false (by omega)
          cases k with
          | zero =>
            have hok := hid (show fitAt all of 0 = true by rw [hfa.out, decide_eq_true (show (0 : Int) ≤ gi of 0 by omega), decide_eq_true h1]; rfl)
            have c1' : wr.cell? ⟨b, off, none⟩ = some (.int .i64 (gi of 0)) := c1
            have HJ2 := hid (show ∀ j, j < 0 + 1 → fitAt all of j = true from fun j hj => by obtain rfl : j = 0 := by omega
                                                                                             exact hok.out)
            clear hc h0 h1 c1
            generalize gi of 0 = x at *
            go_wp2_with fail
            go_quiet (fail)
            go_wp2_with fail
            go_roundw
            case rel => exact ⟨1, by omega, by go_num, HJ2, hid (HK.out.drewN _)⟩
            case measure => simp [intOf]; omega
          | succ k =>
            have c2 := hc k (by rw [hnn.out]; omega)
            have hsub : IntKind.i64.wrap ((k : Nat) : Int) = (k : Int) := IntWalk.i64_in _ (by omega)
            have p5 : (0 : Int) ≤ (k : Int) := by omega
            have p6 : (k : Int) < (n : Int) := by omega
            have hgt : decide ((0 : Int) < (k : Int) + 1) = true := decide_eq_true (by omega)
            rw [show k + 1 - 1 = k from rfl] at hfa
            by_cases h2 : gi of k < gi of (k + 1)
            · have d2 : decide (gi of (k + 1) ≤ gi of k) = false := decide_eq_false (by omega)
              have hok := hid (show fitAt all of (k + 1) = true by rw [hfa.out, decide_eq_true (show (0 : Int) ≤ gi of (k + 1) by omega), decide_eq_true h1, decide_eq_true h2]; simp)
              have HJ2 := hid (show ∀ j, j < k + 1 + 1 → fitAt all of j = true from fun j hj => by
                by_cases e : j = k + 1
                · rw [e]; exact hok.out
                · exact HJ.out j (by omega))
              clear hc h0 h1 h2
              generalize gi of (k + 1) = x at *
              generalize gi of k = y at *
              go_wp2_with fail
              go_quiet (fail)
              go_wp2_with fail
              go_roundw
              case rel => exact ⟨k + 1 + 1, by omega, by go_num, HJ2, hid (HK.out.drewN _)⟩
              case measure => simp [intOf]; omega
            · have d2 : decide (gi of (k + 1) ≤ gi of k) = true := decide_eq_true (by omega)
              have hr := hid (hno.out (by rw [hfa.out, decide_eq_false h2, decide_eq_false (show ¬ k + 1 = 0 by omega)]; simp))
              clear hc h0 h1 h2
              generalize gi of (k + 1) = x at *
              generalize gi of k = y at *
              go_wp2_with fail
              go_quiet (fail)
              go_wp2_with fail
              go_ret
              rw [hr.out]; exact ⟨rfl, HK.out.drewN _⟩
        · have d1 : decide (all ≤ gi of k) = true := decide_eq_true (by omega)
          have hr := hid (hno.out (by rw [hfa.out, decide_eq_false h1]; simp))
          clear hc h0 h1
          generalize gi of k = x at *
          go_wp2_with fail
          go_quiet (fail)
          go_wp2_with fail
          go_ret
          rw [hr.out]; exact ⟨rfl, HK.out.drewN _⟩
    · obtain rfl : n = k := by omega
      have hr := hid (HYES.out (by rw [hnn.out]; exact HJ.out))
      go_wp2_with fail
      go_ret
      rw [hr.out]; exact ⟨rfl, HK.out⟩
set_option maxHeartbeats 800000 in
set_option maxRecDepth 20000 in
theorem rleft_calls (ks of : List Int) (K A : Option Addr) (ck c : Nat) (w : World) (hk : IntsAt w .i64 K ks) (h : IntsAt w .i64 A of) (hl : of.length ≤ 1073741824) :
    Calls Try.prog 35 #[.slice K ks.length ck, .slice A of.length c] w fun e w' => ∃ v, e = .returned v ∧ OwnInts w' w.heap.size .i64 3 v (unkN ks of) ∧ Keeps NoB w w' := by
  have HC := hid h
  have HKN := hid (fun (w' : World) (hh : Keeps NoB w w') (i : Int) => has_calls ks i K ck w' (hk.kept hh))
  have HT := hid (unkN_take ks of)
  have HLE := hid (show ∀ k, (unkN ks (of.take k)).length ≤ of.length from fun k => Nat.le_trans (unkN_le _ _) (by rw [List.length_take]; omega))
  have hu := Try.underlying27
  clear h hk
  obtain ⟨n, hn⟩ : ∃ n, of.length = n := ⟨_, rfl⟩
  rw [hn] at hl HLE ⊢
  have hnn := hid hn
  clear hn
  go_enter Try.func35, Try.ntmps35
  go_wp2_with fail
  go_loopw [5, 6] (fun v5 v6 wr => ∃ k : Nat, k ≤ n ∧ v6 = .int .i64 (k : Int) ∧ Hid (OwnInts wr w.heap.size .i64 3 v5 (unkN ks (of.take k))) ∧ Hid (Keeps NoB w wr)) (fun _ v6 _ => n - (intOf v6).toNat)
  case atStart => exact ⟨0, Nat.zero_le _, rfl, OwnInts.empty _ _ _ _ (Nat.le_refl _), (Keeps.refl NoB w).alloc _⟩
  case round =>
    obtain ⟨k, hk, rfl, HO, HK⟩ := hrel
    by_cases hlt : k < n
    · obtain ⟨b1, o1, rfl, hc1⟩ := HC.out.get (by rw [hnn.out]; omega)
      have c1 := HK.out.cell (hc1 k (by rw [hnn.out]; exact hlt)) (fun h => h)
      have p0 : (0 : Int) ≤ (k : Int) := by omega
      have p1 : (k : Int) < (n : Int) := by omega
      have ht := hid (HT.out k (by rw [hnn.out]; exact hlt))
      have hle := HLE.out k
      have hcg := hid (hc1 k (by rw [hnn.out]; exact hlt))
      clear hc1
      generalize gi of k = i at *
      go_wp2_with fail
      refine (HKN.out wr HK.out i).mono ?_
      rintro e w2 ⟨rfl, HK2⟩
      have HO2 := hid (HO.out.kept HK2)
      have HK2 := hid (HK.out.fresh HK2)
      have c1 := HK2.out.cell hcg.out (fun h => h)
      by_cases hx : i ∈ ks
      · rw [decide_eq_true hx]
        have ht2 := hid (show unkN ks (of.take (k + 1)) = unkN ks (of.take k) by rw [ht.out, if_pos hx, List.append_nil])
        clear hx
        go_wp2_with fail
        go_roundw
        case rel => exact ⟨k + 1, by omega, by go_num, by rw [ht2.out]; exact HO2, HK2⟩
        case measure => simp [intOf]; omega
      · rw [decide_eq_false hx]
        have ht2 := hid (show unkN ks (of.take (k + 1)) = unkN ks (of.take k) ++ [i] by rw [ht.out, if_neg hx])
        clear hx
        go_wp2_with (at_builtin; go_must (refine wpList_app1 _ rfl _ _ 27 rfl w.heap.size 3 .i64 8 hu info_int _ _ rfl (OwnInts.alloc HO2.out _) _ _ _ rfl (cell_one _ _ _) (by omega) (by omega) (by have := HK2.out.size; simp at this ⊢; omega) ?_); intro v4 w4 hown4 hgr4 _)
        go_roundw
        case rel => exact ⟨k + 1, by omega, by go_num, by rw [ht2.out]; exact hid hown4, hid ((HK2.out.alloc _).own (OwnInts.alloc HO2.out _) hgr4 (Nat.le_refl _))⟩
        case measure => simp [intOf]; omega
    · obtain rfl : n = k := by omega
      have hall : of.take n = of := by rw [← hnn.out, List.take_length]
      rw [hall] at HO
      clear hall
      go_wp2_with fail
      go_ret
      exact ⟨_, rfl, HO.out, HK.out⟩
end Go.Proofs.Ytkjaacpcnjakcaa
/- The blocks that follow, pass by pass: the reference's walk. Condition: lengths are small. -/
set_option linter.unusedVariables false
namespace Go.Proofs.Ytkjaacpcnjakcaa
open Go.RowKit

theorem ins_rising {l : List Int} (h : l.Pairwise (· < ·)) {x : Int} (hx : x ∉ l) : (ins x l).Pairwise (· < ·) :=
  rising_of (ins_sorted x l (h.imp (fun h => by omega))) ((ins_perm x l).nodup_iff.2 (List.nodup_cons.2 ⟨hx, nodup_of_rising h⟩))
theorem known_le {all : Int} {eqs : List (List Int)} {r : List Int} (hr : r.Pairwise (· < ·)) (h : ∀ x ∈ r, Follows all eqs x) : r.length ≤ eqs.flatten.length := by
  have e : r = (reachN all eqs).filter (fun x => decide (x ∈ r)) := rise_ext hr ((reachN_rising all eqs).filter _) (fun x => by
    rw [List.mem_filter, mem_reachN]
    exact ⟨fun hx => ⟨h x hx, by simpa using hx⟩, fun hx => by simpa using hx.2⟩)
  rw [e]
  exact Nat.le_trans (List.length_filter_le _ _) (reachN_length all eqs)
/-- Where a pass stands. -/
def Pass (all : Int) (eqs : List (List Int)) (L0 k : Nat) (known : List Int) (more : Bool) : Prop :=
  (more = true ∧ L0 < known.length) ∨ (more = false ∧ known.length = L0 ∧ ∀ j, j < k → fitsN all (gl eqs j) = true → (unkN known (gl eqs j)).length ≠ 1)
def lenV : Value → Nat
  | .slice _ n _ => n
  | _ => 0
def moreV : Value → Nat
  | .bool true => 1
  | _ => 0
structure KnownAt (all : Int) (eqs : List (List Int)) (w : World) (A : Option Addr) (known : List Int) : Prop where
  at_ : IntsAt w .i64 A known
  rising : known.Pairwise (· < ·)
  follow : ∀ y ∈ known, Follows all eqs y
set_option maxHeartbeats 1600000 in
set_option maxRecDepth 20000 in
theorem rreach_calls (all : Int) (eqs : List (List Int)) (A : Option Addr) (c : Nat) (w : World) (h : RowsAt w A eqs) (hB : eqs.flatten.length ≤ 1000000) (hr : ∀ of ∈ eqs, of.length ≤ 1000000) :
    Calls Try.prog 30 #[.int .i64 all, .slice A eqs.length c] w fun e w' => ∃ A' c', e = .returned (.slice A' (reachN all eqs).length c') ∧ (reachN all eqs).length ≤ c' ∧ IntsAt w' .i64 A' (reachN all eqs) ∧ Keeps NoB w w' := by
  have hl := h.1
  have HC := hid h
  have HB := hid hB
  have HR := hid (fun k (hk : k < eqs.length) => hr (gl eqs k) (by rw [gl_eq eqs k hk]; exact List.getElem_mem hk))
  have HMEM := hid (fun k (hk : k < eqs.length) => (show gl eqs k ∈ eqs by rw [gl_eq eqs k hk]; exact List.getElem_mem hk))
  have HALL := hid (show (∀ j, j < eqs.length → ∀ P : List Int → Prop, P (gl eqs j) → P (gl eqs j)) from fun _ _ _ h => h)
  obtain ⟨B, hBB⟩ : ∃ B, eqs.flatten.length = B := ⟨_, rfl⟩
  have HKL := hid (fun (r : List Int) (h1 : r.Pairwise (· < ·)) (h2 : ∀ x ∈ r, Follows all eqs x) => (show r.length ≤ B by rw [← hBB]; exact known_le h1 h2))
  rw [hBB] at hB
  have hBB := hid hBB
  clear h hr HALL
  obtain ⟨n, hn⟩ : ∃ n, eqs.length = n := ⟨_, rfl⟩
  rw [hn] at hl ⊢
  have hnn := hid hn
  clear hn
  go_enter Try.func30, Try.ntmps30
  go_wp2_with fail
  go_loopw [5, 6] (fun v5 v6 wr => ∃ (known : List Int) (more : Bool) (K : Option Addr) (ck : Nat), v5 = .slice K known.length ck ∧ known.length ≤ ck ∧ v6 = .bool more ∧ Hid (KnownAt all eqs wr K known) ∧ Hid (more = false → ∀ j, j < n → fitsN all (gl eqs j) = true → (unkN known (gl eqs j)).length ≠ 1) ∧ Hid (Keeps NoB w wr)) (fun v5 v6 _ => 2 * (B - lenV v5) + moreV v6)
  case atStart => exact ⟨[], true, _, _, rfl, Nat.le_refl _, rfl, ⟨⟨by simp, fun h => by simp at h⟩, List.Pairwise.nil, fun y hy => by simp at hy⟩, hid (fun h => by cases h), (Keeps.refl NoB w).alloc _⟩
  case round =>
    obtain ⟨known0, more0, K0, ck0, rfl, hck0, rfl, HK0, HD, HKP⟩ := hrel
    cases more0 with
    | false =>
      have hend := hid (reach_done HK0.out.rising HK0.out.follow (fun of hof hfit => by
        obtain ⟨j, hj, e⟩ := List.getElem_of_mem hof
        have := HD.out rfl j (by rw [← hnn.out]; exact hj)
        rw [gl_eq eqs j hj, e] at this
        exact this hfit))
      go_wp2_with fail
      go_ret
      rw [← hend.out]
      exact ⟨K0, ck0, rfl, hck0, HK0.out.at_, HKP.out⟩
    | true =>
      obtain ⟨L0, hL0⟩ : ∃ L, known0.length = L := ⟨_, rfl⟩
      rw [hL0] at hck0 ⊢
      have hL0 := hid hL0
      generalize hw0 : wr = wp at *
      clear hw0
      go_wp2_with fail
      go_loopw [5, 6, 7] (fun v5 v6 v7 wr => ∃ (k : Nat) (known : List Int) (more : Bool) (K : Option Addr) (ck : Nat), k ≤ n ∧ v7 = .int .i64 (k : Int) ∧ v5 = .slice K known.length ck ∧ known.length ≤ ck ∧ v6 = .bool more ∧ Hid (KnownAt all eqs wr K known) ∧ Hid (Pass all eqs L0 k known more) ∧ Hid (Keeps NoB w wr)) (fun _ _ v7 _ => n - (intOf v7).toNat)
      case atStart => exact ⟨0, known0, false, K0, ck0, Nat.zero_le _, rfl, by rw [hL0.out], by rw [hL0.out]; exact hck0, rfl, HK0, hid (.inr ⟨rfl, hL0.out, fun j hj => absurd hj (Nat.not_lt_zero _)⟩), HKP⟩
      case round =>
        obtain ⟨k, known, more, K, ck, hk, rfl, rfl, hck, rfl, HK, HPA, HKP⟩ := hrel
        by_cases hlt : k < n
        · obtain ⟨b, off, rfl, hc⟩ := (HC.out.kept HKP.out).2 (by rw [hnn.out]; omega)
          obtain ⟨u, cu, A1, c1, rfl, _, _, hat⟩ := hc k (by rw [hnn.out]; exact hlt)
          have HAT := hid hat
          have hrl := HR.out k (by rw [hnn.out]; exact hlt)
          have hmem := hid (HMEM.out k (by rw [hnn.out]; exact hlt))
          have p0 : (0 : Int) ≤ (k : Int) := by omega
          have p1 : (k : Int) < (n : Int) := by omega
          have hkl := HKL.out known HK.out.rising HK.out.follow
          clear hc hat
          obtain ⟨of, hof⟩ : ∃ of, gl eqs k = of := ⟨_, rfl⟩
          rw [hof] at cu HAT hrl hmem
          have HOF := hid hof
          clear hof
          go_wp2_with fail
          refine (rfits16_calls all of A1 c1 wr HAT.out).mono ?_
          rintro e w2 ⟨rfl, hk2⟩
          have HK2 := hid (HKP.out.fresh hk2)
          have cu := hk2.cell cu (fun h => h)
          have HAT := hid (HAT.out.kept hk2)
          have HKN := hid (show KnownAt all eqs w2 K known from ⟨HK.out.at_.kept hk2, HK.out.rising, HK.out.follow⟩)
          clear hk2
          by_cases hf : fitsN all of = true
          · rw [hf]
            have HF := hid hf
            clear hf
            go_wp2_with fail
            refine (rleft_calls known of K A1 ck c1 w2 HKN.out.at_ HAT.out (by omega)).mono ?_
            rintro e w3 ⟨v3, rfl, ho3, hk3⟩
            obtain ⟨A3, c3, rfl, _, hat3⟩ := ho3.reads
            have HAT3 := hid hat3
            have HK3 := hid (HK2.out.fresh hk3)
            have HKN3 := hid (show KnownAt all eqs w3 K known from ⟨HKN.out.at_.kept hk3, HKN.out.rising, HKN.out.follow⟩)
            clear ho3 hat3 hk3
            by_cases h1 : (unkN known of).length = 1
            · obtain ⟨x, hx⟩ : ∃ x, unkN known of = [x] := by
                match hu : unkN known of with
                | [] => rw [hu] at h1; simp at h1
                | [x] => exact ⟨x, rfl⟩
                | a :: b :: r => rw [hu] at h1; simp at h1
              have hfo := hid (follows_one HKN.out.follow hmem.out HF.out hx)
              have hxn := hid ((mem_unkN known of x).1 (by rw [hx]; exact List.mem_singleton.2 rfl)).2
              rw [hx] at HAT3 ⊢
              obtain ⟨b3, o3, rfl, hc3⟩ := HAT3.out.get (by simp)
              have cx : w3.cell? ⟨b3, o3, none⟩ = some (.int .i64 x) := hc3 0 (by simp)
              have d1 : (((([x] : List Int).length : Nat) : Int) == 1) = true := by simp
              clear hx h1 hc3
              go_wp2_with fail
              refine (insert_calls known x K ck w3 HKN3.out.at_ (by omega)).mono ?_
              rintro e w4 ⟨v4, rfl, ho4, hk4⟩
              obtain ⟨A4, c4, rfl, hc4, hat4⟩ := ho4.reads
              have HKN4 := hid (show KnownAt all eqs w4 A4 (ins x known) from ⟨hat4, ins_rising HKN3.out.rising hxn.out, fun y hy => by
                rcases (mem_ins x y known).1 hy with e | h
                · rw [e]; exact hfo.out
                · exact HKN3.out.follow y h⟩)
              have HK4 := hid (HK3.out.fresh hk4)
              have HP4 := hid (show Pass all eqs L0 (k + 1) (ins x known) true from .inl ⟨rfl, by
                rw [ins_length]
                rcases HPA.out with ⟨_, h⟩ | ⟨_, h, _⟩ <;> omega⟩)
              clear ho4 hat4 hk4
              go_wp2_with fail
              go_roundw
              case rel => exact ⟨k + 1, ins x known, true, A4, c4, by omega, by go_num, rfl, hc4, rfl, HKN4, HP4, HK4⟩
              case measure => simp [intOf]; omega
            · have d1 : ((((unkN known of).length : Nat) : Int) == 1) = false := by simp; omega
              have HP4 := hid (show Pass all eqs L0 (k + 1) known more from by
                rcases HPA.out with h | ⟨h2, h3, h4⟩
                · exact .inl h
                · refine .inr ⟨h2, h3, fun j hj hfj => ?_⟩
                  by_cases e : j = k
                  · rw [e, HOF.out]; exact h1
                  · exact h4 j (by omega) hfj)
              clear h1
              go_wp2_with fail
              go_roundw
              case rel => exact ⟨k + 1, known, more, K, ck, by omega, by go_num, rfl, hck, rfl, HKN3, HP4, HK3⟩
              case measure => simp [intOf]; omega
          · have hf : fitsN all of = false := by simpa using hf
            have HP4 := hid (show Pass all eqs L0 (k + 1) known more from by
              rcases HPA.out with h | ⟨h2, h3, h4⟩
              · exact .inl h
              · refine .inr ⟨h2, h3, fun j hj hfj => ?_⟩
                by_cases e : j = k
                · rw [e, HOF.out, hf] at hfj; cases hfj
                · exact h4 j (by omega) hfj)
            rw [hf]
            clear hf
            go_wp2_with fail
            go_roundw
            case rel => exact ⟨k + 1, known, more, K, ck, by omega, by go_num, rfl, hck, rfl, HKN, HP4, HK2⟩
            case measure => simp [intOf]; omega
        · obtain rfl : n = k := by omega
          have hkl := HKL.out known HK.out.rising HK.out.follow
          have hkl0 := HKL.out known0 HK0.out.rising HK0.out.follow
          have hpa := HPA.out
          go_wp2_with fail
          go_roundw
          case rel => exact ⟨known, more, K, ck, rfl, hck, rfl, HK, hid (fun hm => by
            rcases hpa with ⟨h, _⟩ | ⟨_, _, h⟩
            · rw [hm] at h; cases h
            · exact h), HKP⟩
          case measure =>
            rcases hpa with ⟨rfl, h⟩ | ⟨rfl, h, _⟩
            · simp [lenV, moreV]; omega
            · simp [lenV, moreV]; omega
end Go.Proofs.Ytkjaacpcnjakcaa
/- The law ClosureReaches: its walk. Conditions: lengths that memory bears. -/
set_option linter.unusedVariables false
namespace Go.Proofs.Ytkjaacpcnjakcaa
open Go.RowKit

theorem same_self (l : List Int) : sameN l l = 1 := by unfold sameN; rw [if_pos rfl]
theorem unk_inAll (known of : List Int) : decide (((unkN known of).length : Int) = 0) = inAllN known of := by
  rw [Bool.eq_iff_iff, decide_eq_true_eq]
  unfold inAllN unkN
  rw [List.all_eq_true]
  constructor
  · intro h x hx
    have h0 : (of.filter fun i => !decide (i ∈ known)) = [] := List.length_eq_zero_iff.1 (by omega)
    have := List.filter_eq_nil_iff.1 h0 x hx
    simpa using this
  · intro h
    have h0 : (of.filter fun i => !decide (i ∈ known)) = [] := List.filter_eq_nil_iff.2 (fun x hx => by simpa using h x hx)
    rw [h0]; rfl
set_option maxHeartbeats 1600000 in
set_option maxRecDepth 20000 in
theorem closureReaches_calls (all : Int) (eqs : List (List Int)) (A : Option Addr) (c : Nat) (w : World) (h : RowsAt w A eqs) (hmx : ∀ of ∈ eqs, of.length ≤ 140737488355328) (ha0 : -9223372036854775808 ≤ all) (ha1 : all ≤ 9223372036854775807) :
    Calls Try.prog 6 #[.int .i64 all, .slice A eqs.length c] w fun e w' => e = .returned (.bool true) ∧ Keeps NoB w w' := by
  have hl := h.1
  have HE := hid h
  have HMX := hid hmx
  clear h hmx
  obtain ⟨m, hm⟩ : ∃ m, eqs.length = m := ⟨_, rfl⟩
  have HBG := hid (fun (w0 : World) (h0 : RowsAt w0 A eqs) => big16_calls eqs A c w0 h0 HMX.out)
  have HR1 := hid (fun (w0 : World) (h0 : RowsAt w0 A eqs) (hB : eqs.flatten.length ≤ 1000000) (hr : ∀ of ∈ eqs, of.length ≤ 1000000) => rreach_calls all eqs A c w0 h0 hB hr)
  have HR2 := hid (fun (w0 : World) (h0 : RowsAt w0 A eqs) (hB : eqs.flatten.length ≤ 1000000) (hr : ∀ of ∈ eqs, of.length ≤ 1000000) (hn : eqs.length ≤ 1000000) => reach_calls all eqs A c w0 h0 hB hr hn ha1)
  rw [hm] at hl HBG HR1 HR2 ⊢
  have HM := hid hm
  clear hm
  go_enter Try.func6, Try.ntmps6
  go_wp2_with fail
  refine (speaks16_calls w).mono ?_
  rintro e w1 ⟨rfl, hk1⟩
  have HK1 := hid hk1
  have HE1 := hid (HE.out.kept hk1)
  clear hk1
  go_wp2_with fail
  refine (HBG.out w1 HE1.out).mono ?_
  rintro e w2 ⟨b, rfl, hb, rfl⟩
  cases b with
  | true =>
    go_wp2_with fail
    go_ret
    exact ⟨rfl, HK1.out⟩
  | false =>
    have hs := hb rfl
    have HS1 := hid hs.flat
    have HS2 := hid hs.each
    have HS3 := hid hs.len
    clear hb hs
    by_cases hbig : 1073741824 < all
    · go_wp2_with fail
      go_ret
      exact ⟨rfl, HK1.out⟩
    · go_wp2_with fail
      refine (HR1.out w2 HE1.out (by have := HS1.out; omega) (fun of hof => by have := HS2.out of hof; omega)).mono ?_
      rintro e w3 ⟨Ak, ck, rfl, hck, hat, hk3⟩
      have HK3 := hid (HK1.out.fresh hk3)
      have HE3 := hid (HE1.out.kept hk3)
      have HA3 := hid hat
      clear hat hk3
      go_wp2_with fail
      refine (HR2.out w3 HE3.out (by have := HS1.out; omega) (fun of hof => by have := HS2.out of hof; omega) (by have := HS3.out; have := HM.out; omega)).mono ?_
      rintro e w4 ⟨v4, rfl, ho4, hk4⟩
      have HKR := hid (reachN_rising all eqs)
      have HKL := hid (show (reachN all eqs).length ≤ 400 from Nat.le_trans (reachN_length all eqs) HS1.out)
      obtain ⟨kn, hkn⟩ : ∃ kn, reachN all eqs = kn := ⟨_, rfl⟩
      rw [hkn] at ho4 HA3 hck HKR HKL ⊢
      clear hkn
      obtain ⟨A4, c4, rfl, _, hat4⟩ := ho4.reads
      have HA4 := hid hat4
      have HK4 := hid (HK3.out.fresh hk4)
      have HE4 := hid (HE3.out.kept hk4)
      have HA34 := hid (HA3.out.kept hk4)
      clear ho4 hat4 hk4
      have HSM := hid (same_calls kn kn A4 Ak c4 ck w4 HA4.out HA34.out)
      rw [same_self] at HSM
      go_wp2_with fail
      refine HSM.out.mono ?_
      rintro e w5 ⟨rfl, hk5⟩
      have HK5 := hid (HK4.out.fresh hk5)
      have HE5 := hid (HE4.out.kept hk5)
      have HA5 := hid (HA34.out.kept hk5)
      clear hk5
      go_wp2_with fail
      go_loopw [27] (fun v27 wr => ∃ k : Nat, k ≤ m ∧ v27 = .int .i64 (k : Int) ∧ Hid (Keeps NoB w5 wr)) (fun v27 _ => m - (intOf v27).toNat)
      case atStart => exact ⟨0, Nat.zero_le _, rfl, hid (Keeps.refl _ _)⟩
      case round =>
        obtain ⟨k, hk, rfl, HK⟩ := hrel
        by_cases hlt : k < m
        · obtain ⟨b, off, rfl, hc⟩ := (HE5.out.kept HK.out).2 (by rw [HM.out]; omega)
          obtain ⟨u, cu, A1, c1, rfl, _, _, hat⟩ := hc k (by rw [HM.out]; exact hlt)
          have HAT := hid hat
          have HAK := hid (HA5.out.kept HK.out)
          have p0 : (0 : Int) ≤ (k : Int) := by omega
          have p1 : (k : Int) < (m : Int) := by omega
          have hrl := HS2.out (gl eqs k) (gl_mem (by rw [HM.out]; exact hlt))
          clear hc hat
          generalize hof : gl eqs k = of at *
          clear hof
          go_wp2_with fail
          refine (cfits_calls all of A1 c1 wr HAT.out).mono ?_
          rintro e w6 ⟨rfl, rfl⟩
          go_wp2_with fail
          refine (rfits16_calls all of A1 c1 _ HAT.out).mono ?_
          rintro e w7 ⟨rfl, hk7⟩
          have HK7 := hid (HK.out.fresh hk7)
          have HAT7 := hid (HAT.out.kept hk7)
          have HAK7 := hid (HAK.out.kept hk7)
          clear hk7
          have hlk := HKL.out
          go_wp2_with fail
          refine (closed_calls kn of Ak A1 ck c1 w7 HAK7.out (HKR.out.imp (fun h => by omega)) (by omega) HAT7.out).mono ?_
          rintro e w8 ⟨rfl, q8, rfl⟩
          have hui := unk_inAll kn of
          have hule := unkN_le kn of
          obtain ⟨bi, hbi⟩ : ∃ bi, inAllN kn of = bi := ⟨_, rfl⟩
          rw [hbi] at hui ⊢
          clear hbi
          have HLF := hid (rleft_calls kn of Ak A1 ck c1 (w7.drewN q8) (HAK7.out.kept ((Keeps.refl NoB w7).drewN q8)) (HAT7.out.kept ((Keeps.refl NoB w7).drewN q8)) (by omega))
          obtain ⟨uk, huk⟩ : ∃ uk, unkN kn of = uk := ⟨_, rfl⟩
          rw [huk] at hui hule HLF
          clear huk
          have HUI := hid hui
          clear hui
          go_wp2_with fail
          refine HLF.out.mono ?_
          rintro e w9 ⟨v9, rfl, ho9, hk9⟩
          obtain ⟨A9, c9, rfl, _, _⟩ := ho9.reads
          have HK9 := hid ((HK7.out.drewN q8).fresh hk9)
          clear ho9 hk9
          have hui := HUI.out
          cases bi with
          | true =>
            have h0 : uk.length = 0 := by have := of_decide_eq_true hui; omega
            clear hui
            obtain rfl : uk = [] := List.length_eq_zero_iff.1 h0
            clear h0
            go_wp2_with fail
            go_roundw
            case rel => exact ⟨k + 1, by omega, by go_num, HK9⟩
            case measure => simp [intOf]; omega
          | false =>
            have h0 : ¬ ((uk.length : Int) = 0) := of_decide_eq_false hui
            have d0 : ((uk.length : Int) == 0) = false := by simpa using h0
            clear hui
            go_wp2_with fail
            go_roundw
            case rel => exact ⟨k + 1, by omega, by go_num, HK9⟩
            case measure => simp [intOf]; omega
        · obtain rfl : k = m := by omega
          go_wp2_with fail
          go_ret
          exact ⟨rfl, HK5.out.fresh HK.out⟩
end Go.Proofs.Ytkjaacpcnjakcaa
/- An argument that is a slice of bytes. Conditions: the row's. -/
set_option linter.unusedVariables false
namespace Go.Proofs.Ytkjaacpcnjakcaa
open Go.RowKit

theorem bytes_of_ints : ∀ xs : List Int, (∀ n ∈ xs, (Lit.int .u8 n).wf = true) → ∃ l : List UInt8, xs = enc8 l
  | [], _ => ⟨[], rfl⟩
  | n :: r, h => by
    obtain ⟨l, hl⟩ := bytes_of_ints r (fun m hm => h m (List.mem_cons_of_mem _ hm))
    have hn := Go.bounds_u8 (h n (List.mem_cons_self ..))
    refine ⟨UInt8.ofNat n.toNat :: l, ?_⟩
    rw [hl]
    simp only [enc8, List.map_cons, List.cons.injEq, and_true]
    have : (UInt8.ofNat n.toNat).toNat = n.toNat := by
      rw [UInt8.toNat_ofNat', Nat.mod_eq_of_lt (by omega)]
    omega
theorem BytesIn.ofInts {w : World} {a : Option Addr} {xs : List Int} (h : IntsAt w .u8 a xs) (hw : ∀ n ∈ xs, (Lit.int .u8 n).wf = true) : ∃ l : List UInt8, xs.length = l.length ∧ BytesIn (fun _ => True) w a l := by
  obtain ⟨l, rfl⟩ := bytes_of_ints xs hw
  exact ⟨l, enc8_length l, h, fun _ _ _ _ => trivial⟩
end Go.Proofs.Ytkjaacpcnjakcaa
/- An argument that is a slice of slices of bytes. Conditions: the row's. -/
set_option linter.unusedVariables false
namespace Go.Proofs.Ytkjaacpcnjakcaa
open Go.ChangeShapes Go.WideShapes Go.ChangeAt Go.RowKit Go.Deep

theorem add_none {a : Addr} {i : Nat} (h : a.spot = none) : a.add i = ⟨a.block, a.off + i, none⟩ := by
  obtain ⟨b, o, s⟩ := a
  simp only at h
  subst h
  unfold Addr.add
  split
  · rename_i e; subst e; rfl
  · rfl
/-- A row whose cells are told: its bytes. -/
theorem row_bytes {w : World} {A : Option Addr} {l c : Nat} {Z : List Int} (hl : l ≤ c) (hm : c ≤ maxLen) (hz : Z.length = c) (hw : ∀ n ∈ Z, (Lit.int .u8 n).wf = true) (hA : A = none → c = 0) (hc : ∀ a', A = some a' → ∀ j, j < c → w.cell? (a'.add j) = some (.int .u8 (Z.getD j 0))) :
    ∃ b : List UInt8, l = b.length ∧ BytesIn (fun _ => True) w A b := by
  cases A with
  | none =>
    have h0 := hA rfl
    obtain rfl : l = 0 := by omega
    exact ⟨[], rfl, BytesIn.nil _ _⟩
  | some a =>
    obtain ⟨xs, h1, h2, h3, h4⟩ := IsRow.ints (k := .u8) (w := w) (a := some a) (len := l) (cap := c) (zs := Z) (.inr ⟨a, rfl, hl, hm, hz, fun i hi => hc a rfl i (by omega), hw⟩)
    obtain ⟨b, hb, hbi⟩ := BytesIn.ofInts h3 h4
    exact ⟨b, by omega, hbi⟩
set_option maxRecDepth 100000 in
theorem open_rows {H : Type} {enc : TypeId × Value → H} {W : World} {r : Reach} {b0 base : Nat} {held : Bool} {v : Value} {d : DataW H} {p : List MemPlace}
    (hv : Value.okWide Try.prog W r b0 57 v) (h : DataW.Trod enc Try.prog W base (fun _ => true) held 57 v d p) : ∃ ls A c, v = .slice A (List.length ls) c ∧ ls.length ≤ c ∧ (A = none → c = 0) ∧ RowsIn (fun _ => True) W A ls := by
  obtain ⟨a, len, cap, rfl⟩ := okWide_slice Try.underlying57 hv
  obtain ⟨fuel, hf⟩ := h
  rcases open_int_rows Try.underlying57 Try.underlying67 Try.underlying5 (by kernel_rfl) (by kernel_rfl) hf with ⟨hcs, _⟩ | ⟨x, l, c, AA, L, C, Z, hcs, _, hl, hm, _, hr⟩
  · simp [Value.cells] at hcs
    obtain ⟨rfl, rfl, rfl⟩ := hcs
    exact ⟨[], none, 0, rfl, Nat.le_refl _, fun _ => rfl, RowsIn.nil _ _ _⟩
  · simp [Value.cells] at hcs
    obtain ⟨rfl, rfl, rfl⟩ := hcs
    have each : ∀ j, ∃ b : List UInt8, j < cap → L j = b.length ∧ BytesIn (fun _ => True) W (AA j) b := by
      intro j
      by_cases hj : j < cap
      · obtain ⟨_, h1, h2, h3, h4, h5, h6⟩ := hr j hj
        obtain ⟨b, hb⟩ := row_bytes (w := W) h1 h2 h3 h4 h5 (fun a' e => (h6 a' e).2)
        exact ⟨b, fun _ => hb⟩
      · exact ⟨[], fun h => absurd h hj⟩
    have f := fun j => Classical.choose_spec (each j)
    generalize hF : (fun j => Classical.choose (each j)) = F at f
    have hF' : ∀ j, Classical.choose (each j) = F j := fun j => by rw [← hF]
    refine ⟨(List.range len).map F, some x, cap, by simp, by simpa using hl, (fun e => by cases e), (by simp; unfold maxLen at hm; omega), fun h0 => ?_⟩
    simp only [List.length_map, List.length_range] at h0
    obtain ⟨xb, xo, xs⟩ := x
    have hs : xs = none := by
      have := (hr 0 (by omega)).1
      simpa [Addr.add] using World.cell?_spot this
    subst hs
    refine ⟨xb, xo, rfl, trivial, fun j hj => ?_⟩
    simp only [List.length_map, List.length_range] at hj
    obtain ⟨h0', h1, h2, h3, h4, h5, h6⟩ := hr j (by omega)
    have hfj := f j (by omega)
    rw [hF'] at hfj
    refine ⟨_, by rw [show (⟨xb, xo + j, none⟩ : Addr) = (⟨xb, xo, none⟩ : Addr).add j from (add_none (a := ⟨xb, xo, none⟩) (i := j) rfl).symm]; exact h0', AA j, C j, ?_, ?_, h5, ?_⟩
    · have : gr ((List.range len).map F) j = F j := by simp [gr, hj]
      rw [this, ← hfj.1]
    · have : gr ((List.range len).map F) j = F j := by simp [gr, hj]
      rw [this, ← hfj.1]; exact h1
    · have : gr ((List.range len).map F) j = F j := by simp [gr, hj]
      rw [this]; exact hfj.2
end Go.Proofs.Ytkjaacpcnjakcaa
/- Arguments that are equations. Conditions: the row's. -/
set_option linter.unusedVariables false
namespace Go.Proofs.Ytkjaacpcnjakcaa
open Go.ChangeShapes Go.WideShapes Go.ChangeAt Go.RowKit

def Weighs {H : Type} (t : TypeId) (d : DataW H) : Prop := ∀ n ∈ d.weights Try.prog t, n ≤ reachBytes
theorem weighs_slice {H : Type} {t e : TypeId} {elems spare : List (DataW H)} (hu : Try.prog.underlying t = some (.slice e)) (h : Weighs t (.slice elems spare)) : (elems.length + spare.length) * Try.prog.bytesOf e ≤ reachBytes :=
  h _ (by simp [DataW.weights, hu])
theorem weightsAll_mem {H : Type} {P : Program} {e : TypeId} : ∀ {l : List (DataW H)} {d : DataW H}, d ∈ l → ∀ n ∈ d.weights P e, n ∈ DataW.weightsAll P e l
  | d' :: r, d, hd, n, hn => by
    simp only [DataW.weightsAll, List.mem_append]
    rcases List.mem_cons.1 hd with rfl | h
    · exact Or.inl hn
    · exact Or.inr (weightsAll_mem h n hn)
theorem weighs_elem {H : Type} {t e : TypeId} {elems spare : List (DataW H)} {d : DataW H} (hu : Try.prog.underlying t = some (.slice e)) (h : Weighs t (.slice elems spare)) (hd : d ∈ elems) : Weighs e d := fun n hn =>
  h _ (by simp only [DataW.weights, hu, List.mem_cons, List.mem_append]; exact Or.inr (Or.inl (weightsAll_mem hd n hn)))
theorem weighs_part {H : Type} {t e : TypeId} {fs : Array Field} {parts : List (DataW H)} {d : DataW H} {i : Nat} (hu : Try.prog.underlying t = some (.struct fs)) (h : Weighs t (.agg parts)) (hf : (fs.toList.map (·.type))[i]? = some e) (hd : parts[i]? = some d) : Weighs e d := fun n hn =>
  h _ (by simp only [DataW.weights, hu]; exact DataW.weights_mem_each hf hd n hn)
theorem cell_nums {H : Type} {enc : TypeId × Value → H} {W : World} {base : Nat} {sp : Nat → Bool} {held : Bool} {n : Nat} {v : Value} {y : DataW H × List MemPlace}
    (hsp : ∀ b, sp b = true) (h : DataW.trod enc Try.prog W base sp held n 27 [v] = some y) (hw : Weighs 27 y.1) : ∃ (l : List Int) (a : Option Addr) (cap : Nat), v = .slice a l.length cap ∧ l.length ≤ cap ∧ (a = none → cap = 0) ∧ IntsAt W .i64 a l ∧ (∀ n ∈ l, (Lit.int .i64 n).wf = true) ∧ l.length ≤ 17592186044416 := by
  rcases open_ints Try.underlying27 Try.underlying3 (by kernel_rfl) h with ⟨hcs, _⟩ | ⟨x, l, c, zs, hcs, _, hl, hm, hz, hx, hcell, hwz⟩
  · have : v = .slice none 0 0 := by simpa using hcs
    subst this
    exact ⟨[], none, 0, rfl, Nat.le_refl _, fun _ => rfl, ⟨by simp, fun h => by simp at h⟩, fun n hn => by simp at hn, by simp⟩
  · have : v = .slice (some x) l c := by simpa using hcs
    subst this
    rw [hsp, if_pos rfl] at hz
    rw [hx] at hw
    have hwt := weighs_slice Try.underlying27 hw
    rw [show Try.prog.bytesOf 3 = 8 by kernel_rfl] at hwt
    simp only [lits, List.length_map, List.length_take, List.length_drop] at hwt
    obtain ⟨xs, rfl, h1, h2, h3⟩ := IsRow.ints (k := .i64) (w := W) (a := some x) (len := l) (cap := c) (zs := zs) (.inr ⟨x, rfl, hl, hm, hz, hcell, hwz⟩)
    refine ⟨xs, some x, c, rfl, h1, (fun e => by cases e), h2, h3, ?_⟩
    have : reachBytes = 140737488351232 := rfl
    omega
theorem cell_bytesW {H : Type} {enc : TypeId × Value → H} {W : World} {base : Nat} {sp : Nat → Bool} {held : Bool} {n : Nat} {v : Value} {y : DataW H × List MemPlace}
    (hsp : ∀ b, sp b = true) (h : DataW.trod enc Try.prog W base sp held n 67 [v] = some y) (hw : Weighs 67 y.1) : ∃ (l : List UInt8) (a : Option Addr) (cap : Nat), v = .slice a l.length cap ∧ l.length ≤ cap ∧ (a = none → cap = 0) ∧ BytesIn (fun _ => True) W a l ∧ l.length ≤ 140737488351232 := by
  rcases open_ints Try.underlying67 Try.underlying5 (by kernel_rfl) h with ⟨hcs, _⟩ | ⟨x, l, c, zs, hcs, _, hl, hm, hz, hx, hcell, hwz⟩
  · have : v = .slice none 0 0 := by simpa using hcs
    subst this
    exact ⟨[], none, 0, rfl, Nat.le_refl _, fun _ => rfl, BytesIn.nil _ _, by simp⟩
  · have : v = .slice (some x) l c := by simpa using hcs
    subst this
    rw [hsp, if_pos rfl] at hz
    rw [hx] at hw
    have hwt := weighs_slice Try.underlying67 hw
    rw [show Try.prog.bytesOf 5 = 1 by kernel_rfl] at hwt
    simp only [lits, List.length_map, List.length_take, List.length_drop] at hwt
    obtain ⟨xs, rfl, h1, h2, h3⟩ := IsRow.ints (k := .u8) (w := W) (a := some x) (len := l) (cap := c) (zs := zs) (.inr ⟨x, rfl, hl, hm, hz, hcell, hwz⟩)
    obtain ⟨b, hb, hbi⟩ := BytesIn.ofInts h2 h3
    refine ⟨b, some x, c, by rw [hb], by omega, (fun e => by cases e), hbi, ?_⟩
    have : reachBytes = 140737488351232 := rfl
    omega
/-- An equation's two cells, as they are told. -/
def EqCells (W : World) (v1 v2 : Value) (e : EqV) : Prop :=
  (∃ a cap, v1 = .slice a e.of.length cap ∧ e.of.length ≤ cap ∧ (a = none → cap = 0) ∧ IntsAt W .i64 a e.of) ∧ (∀ n ∈ e.of, (Lit.int .i64 n).wf = true) ∧ e.of.length ≤ 17592186044416 ∧
  (∃ a cap, v2 = .slice a e.val.length cap ∧ e.val.length ≤ cap ∧ (a = none → cap = 0) ∧ BytesIn (fun _ => True) W a e.val) ∧ e.val.length ≤ 140737488351232
set_option maxRecDepth 100000 in
theorem cells_eq {H : Type} {enc : TypeId × Value → H} {W : World} {base : Nat} {sp : Nat → Bool} {held : Bool} {fuel : Nat} {l : List Value} {y : DataW H × List MemPlace}
    (hsp : ∀ b, sp b = true) (h : DataW.trod enc Try.prog W base sp held fuel 69 l = some y) (hw : Weighs 69 y.1) : ∃ v1 v2 e, l = [v1, v2] ∧ EqCells W v1 v2 e := by
  have hC : Try.prog.cellsOf 69 = 2 := by kernel_rfl
  have hI : Try.prog.cellsOf 27 = 1 := by kernel_rfl
  have hS : Try.prog.cellsOf 67 = 1 := by kernel_rfl
  obtain ⟨ys, n, _, hy, hcl, hyl, hi⟩ := DataW.trod_struct Try.underlying69 h
  rw [hC] at hcl
  have hyl2 : ys.length = 2 := hyl
  match l, hcl with
  | [v1, v2], _ =>
    have g := fun (i : Nat) (h : i < 2) => List.getElem?_eq_getElem (l := ys) (show i < ys.length by omega)
    have f0 := (hi 0 _ rfl).trans (g 0 (by omega))
    have f1 := (hi 1 _ rfl).trans (g 1 (by omega))
    have f0' : DataW.trod enc Try.prog W base sp held n 27 [v1] = some ys[0] := f0
    have f1' : DataW.trod enc Try.prog W base sp held n 67 [v2] = some ys[1] := f1
    rw [hy] at hw
    obtain ⟨of, a1, c1, e1, p1, q1, r1, s1, t1⟩ := cell_nums hsp f0' (weighs_part (i := 0) Try.underlying69 hw rfl (by rw [List.getElem?_map, g 0 (by omega)]; rfl))
    obtain ⟨vl, a2, c2, e2, p2, q2, r2, t2⟩ := cell_bytesW hsp f1' (weighs_part (i := 1) Try.underlying69 hw rfl (by rw [List.getElem?_map, g 1 (by omega)]; rfl))
    exact ⟨v1, v2, ⟨of, vl⟩, rfl, ⟨a1, c1, e1, p1, q1, r1⟩, s1, t1, ⟨a2, c2, e2, p2, q2, r2⟩, t2⟩
set_option maxRecDepth 100000 in
theorem open_eq {H : Type} {enc : TypeId × Value → H} {W : World} {r : Reach} {b0 base : Nat} {sp : Nat → Bool} {held : Bool} {v : Value} {d : DataW H} {p : List MemPlace}
    (hv : Value.okWide Try.prog W r b0 69 v) (hsp : ∀ b, sp b = true) (h : DataW.Trod enc Try.prog W base sp held 69 v d p) (hw : Weighs 69 d) :
    ∃ (of : List Int) (A1 : Option Addr) (c1 : Nat) (vl : List UInt8) (A2 : Option Addr) (c2 : Nat), v = .agg #[.slice A1 (List.length of) c1, .slice A2 (List.length vl) c2] ∧ (of.length ≤ c1 ∧ (A1 = none → c1 = 0) ∧ IntsAt W .i64 A1 of) ∧ (∀ n ∈ of, (Lit.int .i64 n).wf = true) ∧ of.length ≤ 17592186044416 ∧
      (vl.length ≤ c2 ∧ (A2 = none → c2 = 0) ∧ BytesIn (fun _ => True) W A2 vl) ∧ vl.length ≤ 140737488351232 := by
  obtain ⟨cs, rfl, hsz⟩ := okWide_struct Try.underlying69 hv
  obtain ⟨fuel, hf⟩ := h
  simp only [Value.cells] at hf
  obtain ⟨v1, v2, e, hl, ⟨a1, c1, e1, p1⟩, w1, t1, ⟨a2, c2, e2, p2⟩, t2⟩ := cells_eq hsp hf hw
  obtain ⟨l⟩ := cs
  simp only [] at hl
  subst hl e1 e2
  exact ⟨e.of, a1, c1, e.val, a2, c2, rfl, p1, w1, t1, p2, t2⟩
set_option maxRecDepth 100000 in
theorem open_eqs {H : Type} {enc : TypeId × Value → H} {W : World} {r : Reach} {b0 base : Nat} {held : Bool} {v : Value} {d : DataW H} {p : List MemPlace}
    (hv : Value.okWide Try.prog W r b0 60 v) (h : DataW.Trod enc Try.prog W base (fun _ => true) held 60 v d p) (hw : Weighs 60 d) :
    ∃ es A c, v = .slice A (List.length es) c ∧ es.length ≤ c ∧ (A = none → c = 0) ∧ EqsIn (fun _ => True) W A es ∧ (∀ e ∈ es, e.of.length ≤ 17592186044416 ∧ e.val.length ≤ 140737488351232) ∧ (∀ e ∈ es, ∀ n ∈ e.of, (Lit.int .i64 n).wf = true) := by
  obtain ⟨a, len, cap, rfl⟩ := okWide_slice Try.underlying60 hv
  have hC : Try.prog.cellsOf 69 = 2 := by kernel_rfl
  obtain ⟨fuel, hf⟩ := h
  rcases DataW.trod_slice Try.underlying60 hf with ⟨hcs, _⟩ | ⟨x, l, c, elems, rest, n, _, hcs, hx, hb, hl, hm, hlen, hel, hsp, _⟩
  · simp [Value.cells] at hcs
    obtain ⟨rfl, rfl, rfl⟩ := hcs
    exact ⟨[], none, 0, rfl, Nat.le_refl _, fun _ => rfl, ⟨by simp, fun h => by simp at h⟩, fun e he => by simp at he, fun e he => by simp at he⟩
  · simp [Value.cells] at hcs
    obtain ⟨rfl, rfl, rfl⟩ := hcs
    have hd : d = .slice (elems.map (·.1)) (rest.map (·.1)) := by injection hx
    rw [hd] at hw
    have hwt := weighs_slice Try.underlying60 hw
    rw [show Try.prog.bytesOf 69 = 48 by kernel_rfl] at hwt
    simp only [List.length_map, hlen] at hwt
    rw [hC] at hel
    have each : ∀ j, ∃ e : EqV, j < len → ∃ v1 v2, W.cell? (x.add (j * 2)) = some v1 ∧ W.cell? ((x.add (j * 2)).add 1) = some v2 ∧ EqCells W v1 v2 e := by
      intro j
      by_cases hj : j < len
      · have h1 := hel j hj
        rw [List.getElem?_eq_getElem (by omega), Option.bind_eq_some_iff] at h1
        obtain ⟨cs, hc1, hc2⟩ := h1
        obtain ⟨v1, v2, e, rfl, he⟩ := cells_eq (fun _ => rfl) hc2 (weighs_elem Try.underlying60 hw (List.mem_map.2 ⟨_, List.getElem_mem (by omega), rfl⟩))
        obtain ⟨_, _, hc3⟩ := World.cells?_some hc1
        have h0 := hc3 0 (by omega)
        have h1 := hc3 1 (by omega)
        refine ⟨e, fun _ => ⟨v1, v2, ?_, h1, he⟩⟩
        have : (x.add (j * 2)).add 0 = x.add (j * 2) := rfl
        rw [← this]; exact h0
      · exact ⟨⟨[], []⟩, fun h => absurd h hj⟩
    have f := fun j => Classical.choose_spec (each j)
    generalize hF : (fun j => Classical.choose (each j)) = F at f
    have hF' : ∀ j, Classical.choose (each j) = F j := fun j => by rw [← hF]
    have hge : ∀ j, j < len → ge ((List.range len).map F) j = F j := fun j hj => by simp [ge, hj]
    have hreach : reachBytes = 140737488351232 := rfl
    refine ⟨(List.range len).map F, some x, cap, by simp, by simpa using hl, (fun e => by cases e), ⟨by simp; omega, fun h0 => ?_⟩, fun e he => ?_, fun e he => ?_⟩
    · simp only [List.length_map, List.length_range] at h0
      obtain ⟨xb, xo, xs⟩ := x
      have hs : xs = none := by
        obtain ⟨v1, v2, h1, _⟩ := f 0 h0
        simpa [Addr.add] using World.cell?_spot h1
      subst hs
      refine ⟨xb, xo, rfl, trivial, fun j hj => ?_⟩
      simp only [List.length_map, List.length_range] at hj
      obtain ⟨v1, v2, h1, h2, ⟨a1, c1, e1, p1, q1, r1⟩, _, _, ⟨a2, c2, e2, p2, q2, r2⟩, _⟩ := f j hj
      rw [hF'] at e1 e2 p1 p2 r1 r2
      refine ⟨v1, v2, ?_, ?_, ⟨a1, c1, ?_, ?_, q1, ?_⟩, ⟨a2, c2, ?_, ?_, q2, ?_⟩⟩
      · rw [← h1, add_none rfl]
      · rw [← h2, add_none (by rw [add_none rfl]), add_none rfl]
      · rw [hge j hj]; exact e1
      · rw [hge j hj]; exact p1
      · rw [hge j hj]; exact ⟨r1, fun _ _ _ _ => trivial⟩
      · rw [hge j hj]; exact e2
      · rw [hge j hj]; exact p2
      · rw [hge j hj]; exact r2
    · obtain ⟨j, hj, rfl⟩ := List.mem_map.1 he
      obtain ⟨v1, v2, _, _, _, _, h1, _, h2⟩ := f j (List.mem_range.1 hj)
      rw [hF'] at h1 h2
      exact ⟨h1, h2⟩
    · obtain ⟨j, hj, rfl⟩ := List.mem_map.1 he
      obtain ⟨v1, v2, _, _, _, h1, _⟩ := f j (List.mem_range.1 hj)
      rw [hF'] at h1
      exact h1
end Go.Proofs.Ytkjaacpcnjakcaa
/- An argument that is lists of numbers, with what memory bears of it. Conditions: the row's. -/
set_option linter.unusedVariables false
namespace Go.Proofs.Ytkjaacpcnjakcaa
open Go.ChangeShapes Go.WideShapes Go.ChangeAt Go.RowKit

def NumCell (W : World) (v : Value) (l : List Int) : Prop := (∃ a cap, v = .slice a l.length cap ∧ l.length ≤ cap ∧ (a = none → cap = 0) ∧ IntsAt W .i64 a l) ∧ (∀ n ∈ l, (Lit.int .i64 n).wf = true) ∧ l.length ≤ 17592186044416
set_option maxRecDepth 100000 in
theorem open_nrows {H : Type} {enc : TypeId × Value → H} {W : World} {base : Nat} {sp : Nat → Bool} {held : Bool} {v : Value} {d : DataW H} {p : List MemPlace} (hsp0 : ∀ b, sp b = true)
    (hv : ∃ a n c, v = .slice a n c) (h : DataW.Trod enc Try.prog W base sp held 22 v d p) (hw : Weighs 22 d) :
    ∃ ls A c, v = .slice A (List.length ls) c ∧ ls.length ≤ c ∧ (A = none → c = 0) ∧ RowsAt W A ls ∧ ls.length ≤ 5864062014805 ∧ (∀ l ∈ ls, l.length ≤ 17592186044416) ∧ (∀ l ∈ ls, ∀ n ∈ l, (Lit.int .i64 n).wf = true) := by
  obtain ⟨a, len, cap, rfl⟩ := hv
  have hC : Try.prog.cellsOf 27 = 1 := by kernel_rfl
  obtain ⟨fuel, hf⟩ := h
  rcases DataW.trod_slice Try.underlying22 hf with ⟨hcs, _⟩ | ⟨x, l, c, elems, rest, n, _, hcs, hx, hb, hl, hm, hlen, hel, hsp, _⟩
  · simp [Value.cells] at hcs
    obtain ⟨rfl, rfl, rfl⟩ := hcs
    exact ⟨[], none, 0, rfl, Nat.le_refl _, fun _ => rfl, ⟨by simp, fun h => by simp at h⟩, by simp, fun e he => by simp at he, fun e he => by simp at he⟩
  · simp [Value.cells] at hcs
    obtain ⟨rfl, rfl, rfl⟩ := hcs
    have hd : d = .slice (elems.map (·.1)) (rest.map (·.1)) := by injection hx
    rw [hd] at hw
    have hwt := weighs_slice Try.underlying22 hw
    rw [show Try.prog.bytesOf 27 = 24 by kernel_rfl] at hwt
    simp only [List.length_map, hlen] at hwt
    rw [hC] at hel
    have each : ∀ j, ∃ e : List Int, j < len → ∃ v1, W.cell? (x.add j) = some v1 ∧ NumCell W v1 e := by
      intro j
      by_cases hj : j < len
      · have h1 := hel j hj
        rw [List.getElem?_eq_getElem (by omega), Option.bind_eq_some_iff] at h1
        obtain ⟨cs, hc1, hc2⟩ := h1
        obtain ⟨_, hs1, hc3⟩ := World.cells?_some hc1
        obtain ⟨v1, rfl⟩ : ∃ v1, cs = [v1] := List.length_eq_one_iff.1 hs1
        have h0 : W.cell? ((x.add (j * 1)).add 0) = some v1 := hc3 0 (by simp)
        obtain ⟨e, a1, c1, he, g1, g2, g3, g4, g5⟩ := cell_nums hsp0 hc2 (weighs_elem Try.underlying22 hw (List.mem_map.2 ⟨_, List.getElem_mem (by omega), rfl⟩))
        refine ⟨e, fun _ => ⟨v1, ?_, ⟨a1, c1, he, g1, g2, g3⟩, g4, g5⟩⟩
        have : (x.add (j * 1)).add 0 = x.add j := by rw [Nat.mul_one]; rfl
        rw [← this]; exact h0
      · exact ⟨[], fun h => absurd h hj⟩
    have f := fun j => Classical.choose_spec (each j)
    generalize hF : (fun j => Classical.choose (each j)) = F at f
    have hF' : ∀ j, Classical.choose (each j) = F j := fun j => by rw [← hF]
    have hge : ∀ j, j < len → gl ((List.range len).map F) j = F j := fun j hj => by simp [gl, hj]
    have hreach : reachBytes = 140737488351232 := rfl
    refine ⟨(List.range len).map F, some x, cap, by simp, by simpa using hl, (fun e => by cases e), ⟨by simp; omega, fun h0 => ?_⟩, by simp; omega, fun e he => ?_, fun e he => ?_⟩
    · simp only [List.length_map, List.length_range] at h0
      obtain ⟨xb, xo, xs⟩ := x
      have hs : xs = none := by
        obtain ⟨v1, h1, _⟩ := f 0 h0
        simpa [Addr.add] using World.cell?_spot h1
      subst hs
      refine ⟨xb, xo, rfl, fun j hj => ?_⟩
      simp only [List.length_map, List.length_range] at hj
      obtain ⟨v1, h1, ⟨a1, c1, h2, h3, h4, h5⟩, _⟩ := f j hj
      rw [hF'] at h2 h3 h5
      rw [hge j hj]
      refine ⟨v1, ?_, a1, c1, h2, h3, h4, h5⟩
      rw [show (⟨xb, xo + j, none⟩ : Addr) = (⟨xb, xo, none⟩ : Addr).add j from (add_none (a := ⟨xb, xo, none⟩) (i := j) rfl).symm]
      exact h1
    · obtain ⟨j, hj, rfl⟩ := List.mem_map.1 he
      have := f j (List.mem_range.1 hj)
      obtain ⟨v1, h1, _, _, h2⟩ := this
      rw [hF'] at h2
      exact h2
    · obtain ⟨j, hj, rfl⟩ := List.mem_map.1 he
      have := f j (List.mem_range.1 hj)
      obtain ⟨v1, h1, _, h2, _⟩ := this
      rw [hF'] at h2
      exact h2
end Go.Proofs.Ytkjaacpcnjakcaa
