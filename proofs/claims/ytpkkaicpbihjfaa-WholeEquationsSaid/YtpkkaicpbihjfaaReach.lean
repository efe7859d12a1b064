/- The blocks that follow, by the list of what is to be done: closure.Reach's walk. UNDER WAY. -/
import Derived.Test.YtpkkaicpbihjfaaG6
set_option linter.unusedVariables false
namespace Go.Proofs.Ytpkkaicpbihjfaa
open Go.RowKit Go.ChangeShapes

theorem info_int3 : (Try.prog.info? 3).map (fun i => (i.zero, i.size, i.bytes)) = some (some (.int .i64 0), 1, 8) := by kernel_rfl
theorem OwnInts.ofMake {w : World} {base n : Nat} {v : Value} (h : w.ownsRow base 3 1 v n (madeCells (Value.int .i64 0).cells (n * 1)).toList) : OwnInts w base .i64 3 v (List.replicate n 0) := by
  have e0 : (madeCells (Value.int .i64 0).cells (n * 1)).toList = List.replicate n (Value.int .i64 0) := by
    apply List.ext_getElem
    · simp [madeCells]
    · intro i h1 h2; simp [madeCells, Value.cells, Nat.mod_one]
  rw [e0] at h
  unfold OwnInts
  rw [List.length_replicate, List.map_replicate]
  exact h
theorem zero_ints (w : World) : (zeroValue 62).run Try.prog w = .ok (.slice none 0 0) w := by kernel_rfl
theorem size_int (w : World) : (sizeOf 3).run Try.prog w = .ok 1 w := by kernel_rfl
theorem take_flatten_succ (eqs : List (List Int)) (k : Nat) (h : k < eqs.length) : (eqs.take (k + 1)).flatten.length = (eqs.take k).flatten.length + (gl eqs k).length := by
  rw [List.take_succ_eq_append_getElem h, List.flatten_append, List.length_append, gl_eq eqs k h]
  simp
theorem flatten_take_le (eqs : List (List Int)) (k : Nat) : (eqs.take k).flatten.length ≤ eqs.flatten.length := by
  have h : eqs.flatten.length = (eqs.take k).flatten.length + (eqs.drop k).flatten.length := by
    rw [← List.length_append, ← List.flatten_append, List.take_append_drop]
  omega
set_option maxHeartbeats 1600000 in
set_option maxRecDepth 20000 in
theorem reach_calls (all : Int) (eqs : List (List Int)) (A : Option Addr) (c : Nat) (w : World) (h : RowsAt w A eqs) (hB : eqs.flatten.length ≤ 1000000) (hr : ∀ of ∈ eqs, of.length ≤ 1000000) (hn1 : eqs.length ≤ 1000000) (hall : all ≤ 9223372036854775807) :
    Calls Try.prog 41 #[.int .i64 all, .slice A eqs.length c] w fun e w' => ∃ v, e = .returned v ∧ OwnInts w' w.heap.size .i64 3 v (reachN all eqs) ∧ Keeps NoB w w' := by
  have hl := h.1
  have HC := hid h
  obtain ⟨n, hn⟩ : ∃ n, eqs.length = n := ⟨_, rfl⟩
  rw [hn] at hl hn1 ⊢
  have hnn := hid hn
  clear hn
  have HR := hid (fun k (hk : k < eqs.length) => hr (gl eqs k) (gl_mem hk))
  have hmm := @run_makeMap Try.prog
  obtain ⟨i1, hi', hz0', hz1', hz2'⟩ := info_parts info_int3
  have hub := Try.underlying62
  go_enter Try.func41, Try.ntmps41
  go_wp2_with (at_make; go_must (refine wpList_make_full _ rfl _ _ _ rfl w.heap.size 3 i1 (.int .i64 0) 1 hub hi' hz0' hz1' .i64 .i64 _ _ n rfl rfl rfl rfl (by rw [hz2']; omega) (by unfold maxLen; omega) (Nat.le_refl _) ?_); intro w1 hown1 hgr1; have HL1 := hid (OwnInts.ofMake hown1); have HK1 := hid ((Keeps.refl NoB w).grown hgr1 (fun i e => by cases e)); clear hown1 hgr1)
  have hlw : ∀ g, (Value.slice (some ⟨w.heap.size, 0, none⟩) n n).ownBlock = some g → g < w1.heap.size := fun g hg => (HL1.out.base_le g hg).2
  have hw1 := HK1.out.size
  go_loopw [7, 31] (fun v7 v31 wr => ∃ (k n1 : Nat) (todo left : List Int), k ≤ n ∧ v31 = .int .i64 (k : Int) ∧ Hid (St w wr (Value.slice (some ⟨w.heap.size, 0, none⟩) n n) left w1.heap.size n1 (fun x => (posN all eqs k x).map Int.ofNat) v7 todo) ∧ Hid (Begun all eqs k todo left) ∧ Hid (SetAt wr (w1.heap.size + 1) 0 []) ∧ Hid (n1 ≤ (eqs.take k).flatten.length)) (fun _ v31 _ => n - (intOf v31).toNat)
  case atStart =>
    have hst : St w (w1.alloc (.map #[] 0)) (Value.slice (some ⟨w.heap.size, 0, none⟩) n n) (List.replicate n 0) w1.heap.size 0 (fun x => (posN all eqs 0 x).map Int.ofNat) (.slice none 0 0) [] :=
      ⟨HL1.out.alloc _, hlw, OwnInts.nil _ _ _ _, GroupsAt.made w1, World.Shuns_made w1 _, hw1, by simp, HK1.out.alloc _⟩
    exact ⟨0, 0, [], List.replicate n 0, Nat.zero_le _, rfl, hid (hst.kept ((Keeps.refl NoB _).alloc _)), hid (by rw [← hnn.out]; exact Begun.none all eqs), hid (by have := World.ownsMap_made (H := Unit) (w1.alloc (Obj.map #[] 0)) Try.prog 3 unitElem; rw [World.size_alloc] at this; exact this), hid (Nat.zero_le _)⟩
  case round =>
    obtain ⟨k, n1, todo, left, hk, rfl, HST, HBE, HSE, HN1⟩ := hrel
    by_cases hlt : k < n
    · obtain ⟨b, off, rfl, hc⟩ := HC.out.2 (by rw [hnn.out]; omega)
      obtain ⟨u, cu, A1, c1, rfl, _, _, hat⟩ := hc k (by rw [hnn.out]; exact hlt)
      have HAT0 := hid hat
      have HAT := hid (HAT0.out.kept HST.out.keeps)
      have cu := HST.out.keeps.cell cu (fun h => h)
      have hrl := HR.out k (by rw [hnn.out]; exact hlt)
      have p0 : (0 : Int) ≤ (k : Int) := by omega
      have p1 : (k : Int) < (n : Int) := by omega
      clear hc hat
      obtain ⟨of, hof⟩ : ∃ of, gl eqs k = of := ⟨_, rfl⟩
      rw [hof] at cu HAT HAT0 hrl
      have HOF := hid hof
      clear hof
      go_wp2_with fail
      refine (cfits_calls all of A1 c1 wr HAT.out).mono ?_
      rintro e w2 ⟨rfl, rfl⟩
      cases hf : fitsN all of with
      | false =>
        have HST2 := hid (show St w w2 (Value.slice (some ⟨w.heap.size, 0, none⟩) n n) left w1.heap.size n1 (fun x => (posN all eqs (k + 1) x).map Int.ofNat) u7 todo by
          have e : (fun x => (posN all eqs (k + 1) x).map Int.ofNat) = (fun x => (posN all eqs k x).map Int.ofNat) := by
            funext x
            rw [posN_succ, HOF.out, if_neg (by rw [hf]; simp), List.append_nil]
          rw [e]; exact HST.out)
        have HBE2 := hid (HBE.out.skip (by rw [HOF.out]; exact hf))
        clear hf
        go_wp2_with fail
        go_roundw
        case rel => exact ⟨k + 1, n1, todo, left, by omega, by go_num, HST2, HBE2, HSE, hid (Nat.le_trans HN1.out (by rw [take_flatten_succ eqs k (by rw [hnn.out]; exact hlt)]; omega))⟩
        case measure => simp [intOf]; omega
      | true =>
        have HF := hid hf
        clear hf
        have hll := HBE.out.llen
        rw [hnn.out] at hll
        have hcell := HST.out.left.cell (j := k) (by rw [hll]; exact hlt)
        have hfree := HST.out.left.free k
        have HSS := hid (show ∀ z, St w (w2.setCell ⟨w.heap.size, k, none⟩ (.int .i64 z)) (Value.slice (some ⟨w.heap.size, 0, none⟩) n n) (left.set k z) w1.heap.size n1 (fun x => (posN all eqs k x).map Int.ofNat) u7 todo from fun z => HST.out.left_set (by
          have h := Keeps.one w2 w.heap.size k (.int .i64 z)
          exact ⟨h.os, h.tape, h.output, h.size, fun i hi hne => h.block i hi (fun e => hne (by rw [e]; rfl))⟩) (HST.out.left.set (by rw [hll]; exact hlt) z))
        have HSE2 := hid (show ∀ z : Int, SetAt (w2.setCell ⟨w.heap.size, k, none⟩ (.int .i64 z)) (w1.heap.size + 1) 0 [] from fun z => HSE.out.keeps (Keeps.one w2 w.heap.size k (.int .i64 z)) (by omega))
        go_wp2_with fail
        generalize hwz : w2.setCell ⟨w.heap.size, k, none⟩ (.int .i64 (of.length : Int)) = wz at *
        have HSS := hid (show St w wz _ _ _ _ _ _ _ by rw [← hwz]; exact HSS.out _)
        have HSE2 := hid (show SetAt wz (w1.heap.size + 1) 0 [] by rw [← hwz]; exact HSE2.out _)
        clear hwz hcell hfree
        obtain ⟨m, hm⟩ : ∃ m, of.length = m := ⟨_, rfl⟩
        rw [hm] at HSS hrl ⊢
        have hmm2 := hid hm
        clear hm
        go_loopw [47] (fun v47 wr => ∃ (j n2 : Nat), j ≤ m ∧ v47 = .int .i64 (j : Int) ∧ Hid (St w wr (Value.slice (some ⟨w.heap.size, 0, none⟩) n n) (left.set k m) w1.heap.size n2 (fun x => (posN all eqs k x ++ if x ∈ of.take j then [k] else []).map Int.ofNat) u7 todo) ∧ Hid (SetAt wr (w1.heap.size + 1) 0 []) ∧ Hid (n2 = n1 + j)) (fun v47 _ => m - (intOf v47).toNat)
        case atStart => exact ⟨0, n1, Nat.zero_le _, rfl, hid (by simpa using HSS.out), HSE2, hid rfl⟩
        case round =>
          obtain ⟨j, n2, hj, rfl, HS, HSEr, HN2⟩ := hrel
          by_cases hjm : j < m
          · obtain ⟨b2, o2, rfl, hc2⟩ := HAT0.out.get (by rw [hmm2.out]; omega)
            have c2 := HS.out.keeps.cell (hc2 j (by rw [hmm2.out]; exact hjm)) (fun h => h)
            have q0 : (0 : Int) ≤ (j : Int) := by omega
            have q1 : (j : Int) < (m : Int) := by omega
            have hx0 := hid (fitsN_in HF.out (gi of j) (by rw [gi_eq of j (by rw [hmm2.out]; exact hjm)]; exact List.getElem_mem _))
            have hxw := hid (show (Lit.int .i64 (gi of j)).wf = true from WalkArith.wf_i64 ⟨by have := hx0.out.1; omega, by have := hx0.out.2; omega⟩)
            have hkw := hid (show (Lit.int .i64 (k : Int)).wf = true from WalkArith.wf_i64 ⟨by omega, by omega⟩)
            have hn2 : n2 ≤ 2000000 := by have h1 := HN1.out; have h2 := HN2.out; have h3 : (eqs.take k).flatten.length ≤ 1000000 := Nat.le_trans (flatten_take_le eqs k) hB; omega
            have HTK := hid (take_gi2 of j (by rw [hmm2.out]; exact hjm))
            have HNX := hid (show gi of j ∉ of.take j from fun hm => by
              have hnd := (nodup_of_rising (fitsN_rising HF.out)).sublist (List.take_sublist (j + 1) of)
              rw [HTK.out, List.nodup_append] at hnd
              exact hnd.2.2 _ hm _ (List.mem_singleton.2 rfl) rfl)
            clear hc2
            obtain ⟨D, hD, hf⟩ := HS.out.has
            have HD := hid hD
            have HDF := hid hf
            have hsh := HS.out.shuns
            have htop := HS.out.top
            have htd := HS.out.todo
            have HTB := hid (fun g hg => (htd.base_le g hg).2)
            clear hD hf htd
            generalize gi of j = x at *
            go_wp2_with (first
              | (at_lookup; go_must (refine wpList_lookup_groups_shuns _ rfl _ _ 133 rfl 3 62 3 .i64 key_law Try.underlying133 (zero_ints _) (w1.heap.size + 1) w1.heap.size n2 D rfl HD.out (by unfold maxLen; omega) _ _ rfl (Maps.keyOf_int_mk Try.underlying3 hxw.out) ?_); intro v zs hat hoi hzl hback hsu)
              | (at_builtin; go_must (refine wpList_append_own_at _ rfl _ _ 62 rfl (w1.heap.size + 1) 3 i1 (.int .i64 0) 1 8 hub hi' hz0' hz1' hz2' rfl (by decide) _ _ _ rfl (hoi.1.alloc _) ⟨wr.heap.size, 0, none⟩ 1 1 [.int .i64 (k : Int)] rfl rfl (cell_one_new _ _ _) (ints_oneCell .i64 [(k : Int)]) (by unfold maxLen; omega) (by omega) (by simp; omega) ?_); intro v' w3 hown' hgrow hnil hloc)
              | (at_mapUpdate; go_must (refine wpList_mapUpdate_back_shuns _ rfl _ _ _ 133 rfl key_law Try.underlying133 (Maps.keyOf_int_mk Try.underlying3 hxw.out) HD.out (by unfold maxLen; omega) hoi hsh (fun g hg hN => (hloc.elim (fun e => hsu _ hsh g (e.symm.trans hg) hN) (fun e => by have h1 := hg.symm.trans e; injection h1 with h1; have h2 := HTB.out g hN; simp at h1; omega))) hback rfl rfl rfl ((World.grownBy_alloc _ _ _).trans hgrow) (hoi.appended hown' hkw.out) (by simp; omega) (hloc.imp id (fun h => ⟨_, h, by simp⟩)) ?_); intro w6 hown6 hgrow6 hsh6))
            have hall2 := (World.grownBy_alloc wr _ _).trans hgrow
            have HS6 := hid (HS.out.has_grown HDF.out hoi hat (fun g hv => hsu _ hsh g hv) hall2 (hoi.appended hown' hkw.out) hown6 hgrow6 hsh6)
            have HSE6 := hid ((HSEr.out.keeps (Keeps.ofGrown hall2) (fun e => ne_own HSEr.out hoi.1 e)).keeps (Keeps.ofGrown hgrow6) (fun e => by injection e with e; omega))
            have hfe : (fun y => if y = x then (posN all eqs k x ++ if x ∈ of.take j then [k] else []).map Int.ofNat ++ [(k : Int)] else (posN all eqs k y ++ if y ∈ of.take j then [k] else []).map Int.ofNat) = (fun y => (posN all eqs k y ++ if y ∈ of.take (j + 1) then [k] else []).map Int.ofNat) := by
              funext y
              rw [HTK.out]
              by_cases e : y = x
              · subst e
                rw [if_pos rfl, if_neg HNX.out, if_pos (by simp), List.append_nil, List.map_append]; rfl
              · rw [if_neg e]; simp [e]
            rw [hfe] at HS6
            clear hfe hown6 hgrow6 hsh6 hgrow hown' hback hoi hat hsu hall2
            go_roundw
            case rel => exact ⟨j + 1, n2 + 1, by omega, by go_num, HS6, HSE6, hid (by have := HN2.out; omega)⟩
            case measure => simp [intOf]; omega
          · obtain rfl : j = m := by omega
            have hfe : (fun x => (posN all eqs k x ++ if x ∈ of.take j then [k] else []).map Int.ofNat) = (fun x => (posN all eqs (k + 1) x).map Int.ofNat) := by
              funext x
              rw [posN_succ, HOF.out, HF.out, ← hmm2.out, List.take_length]
              simp
            rw [hfe] at HS
            clear hfe
            have HB1 := hid (HBE.out.step (by rw [hnn.out]; exact hlt) (by rw [HOF.out]; exact HF.out))
            have HN := hid (show n2 ≤ (eqs.take (k + 1)).flatten.length by
              rw [take_flatten_succ eqs k (by rw [hnn.out]; exact hlt), HOF.out, hmm2.out]
              have h1 := HN1.out; have h2 := HN2.out; omega)
            rw [HOF.out, hmm2.out] at HB1
            by_cases h1 : j = 1
            · rw [if_pos h1] at HB1
              subst h1
              obtain ⟨b2, o2, rfl, hc2⟩ := HAT0.out.get (by rw [hmm2.out]; omega)
              have c2 : wr.cell? ⟨b2, o2, none⟩ = some (.int .i64 (gi of 0)) := HS.out.keeps.cell (hc2 0 (by rw [hmm2.out]; omega)) (fun h => h)
              have hsm := HBE.out.small
              have htop := HS.out.top
              have HS1 := hid (HS.out.kept ((Keeps.refl NoB wr).alloc (.cells #[.int .i64 (gi of 0)] 3)))
              clear hc2
              generalize gi of 0 = y at *
              go_wp2_with (at_builtin; go_must (refine wpList_append_own_at _ rfl _ _ 62 rfl (w1.heap.size + 1) 3 i1 (.int .i64 0) 1 8 hub hi' hz0' hz1' hz2' rfl (by decide) _ _ _ rfl HS1.out.todo ⟨wr.heap.size, 0, none⟩ 1 1 [.int .i64 y] rfl rfl (cell_one_new _ _ _) (ints_oneCell .i64 [y]) (by unfold maxLen; omega) (by omega) (by simp; omega) ?_); intro v' w3 hown' hgrow hnil hloc)
              have HS3 := hid (HS1.out.todo_grown hgrow (show OwnInts w3 (w1.heap.size + 1) .i64 3 v' (todo ++ [y]) by unfold OwnInts; rw [List.length_append, List.map_append]; exact hown') hloc)
              have HSE3 := hid ((HSEr.out.keeps ((Keeps.refl NoB wr).alloc (.cells #[.int .i64 y] 3)) (fun h => h)).keeps (Keeps.ofGrown hgrow) (fun e => ne_own (HSEr.out.keeps ((Keeps.refl NoB wr).alloc (.cells #[.int .i64 y] 3)) (fun h => h)) HS1.out.todo e))
              clear hown' hgrow hnil hloc
              go_roundw
              case rel => exact ⟨k + 1, n2, todo ++ [y], left.set k (1 : Nat), by omega, by go_num, HS3, HB1, HSE3, HN⟩
              case measure => simp [intOf]; omega
            · rw [if_neg h1] at HB1
              have h1i : (j : Int) ≠ 1 := by omega
              have d1 : decide ((j : Int) = 1) = false := decide_eq_false h1i
              go_wp2_with fail
              go_roundw
              case rel => exact ⟨k + 1, n2, todo, left.set k j, by omega, by go_num, HS, HB1, HSEr, HN⟩
              case measure => simp [intOf]; omega
    · obtain rfl : k = n := by omega
      have HWK := hid (show Work all eqs [] todo left from Begun.work (by have := HBE.out; rw [← hnn.out] at this; exact this))
      have HWN := hid (show workN todo left ≤ 2000000 by have := HBE.out.workN_le; have h2 := hnn.out; omega)
      have HS0 := hid (St2.of HST.out HSE.out)
      have hn1b : n1 ≤ 1000000 := Nat.le_trans HN1.out (Nat.le_trans (flatten_take_le eqs k) hB)
      clear HST HBE HSE HN1
      go_wp2_with fail
      go_loopg [7] (2000000) (fun gn v7 wr => ∃ (todo left known : List Int), Hid (St2 w wr (Value.slice (some ⟨w.heap.size, 0, none⟩) k k) left w1.heap.size n1 (fun x => (posN all eqs k x).map Int.ofNat) v7 todo known.length known) ∧ Hid (Work all eqs known todo left) ∧ Hid (known.Nodup) ∧ workN todo left ≤ gn ∧ gn ≤ 2000000)
      case atStart => exact ⟨todo, left, [], HS0, HWK, hid List.nodup_nil, HWN.out, Nat.le_refl _⟩
      case round =>
        clear HS0 HWK HWN
        obtain ⟨todo, left, known, HS, HW, HND, hgn, hgn2⟩ := hrel
        obtain ⟨A7, c7, hv7, hc7, hat7⟩ := HS.out.todo.reads
        cases todo with
        | nil =>
          subst hv7
          have hkl : known.length ≤ 1000000 := Nat.le_trans (HW.out.known_le HND.out) hB
          have hsz := HS.out.keeps.size
          obtain ⟨m, hm⟩ : ∃ m, known.length = m := ⟨_, rfl⟩
          rw [hm] at HS hkl
          have HM := hid hm
          clear hm
          go_wp2_with (first
            | (at_len; refine wpList_len_own _ rfl _ 134 rfl 3 135 Try.underlying134 unitElem (w1.heap.size + 1) m (setD known) rfl HS.out.known ?_; rw [setD_size known HND.out, HM.out])
            | (at_make; go_must (refine wpList_make_own _ rfl _ _ _ rfl w.heap.size 3 i1 (.int .i64 0) 1 hub hi' hz0' hz1' .i64 .i64 _ m rfl rfl rfl (by rw [hz2']; omega) (by unfold maxLen; omega) hsz ?_); intro w3 hown3 hgr3; have HS3 := hid (HS.out.kept ((Keeps.refl NoB wr).grown hgr3 (fun i e => by cases e))); have HO3 := hid (show OwnInts w3 w.heap.size .i64 3 (.slice (some ⟨wr.heap.size, 0, none⟩) 0 m) [] from hown3); have HL3 := hid hgr3; clear hown3 hgr3)
            | (at_range; go_must (refine wpList_range_set _ rfl _ 134 rfl Try.underlying134 (w1.heap.size + 1) m known rfl HS3.out.known ?_); intro w4 cnt4 hrg4 hcn4 hgr4 hs4))
          go_frame
          have HRG := hid hrg4
          have HK4 := hid (HS3.out.keeps.grown hgr4 (fun i e => by cases e))
          have HO4 := hid (HO3.out.kept ((Keeps.refl NoB w3).grown hgr4 (fun i e => by cases e)))
          have hw34 := hid (HO3.out.base_le wr.heap.size rfl).2
          have hM4 := HS3.out.top
          clear hrg4 hgr4 hs4
          go_loopw [22, 23] (fun v22 _ wr => ∃ (ss : List Int) (lf : Lit → Bool) (cnt : Nat), Hid (SetRange wr (w1.heap.size + 1) w3.heap.size m known lf cnt) ∧ Hid (Coll known lf ss) ∧ Hid (OwnInts wr w.heap.size .i64 3 v22 ss) ∧ Hid (Keeps NoB w wr) ∧ ss.length + cnt ≤ m) (fun _ _ wr => wr.rangeLeft (w1.heap.size + 1) w3.heap.size)
          case atStart => exact ⟨[], _, cnt4, HRG, hid (Coll.start known), HO4, HK4, by simpa using hcn4⟩
          case round =>
            clear HRG HO4 HK4
            obtain ⟨ss, lf, cnt, HR5, HCo, HO5, HK5, hcnt⟩ := hrel
            go_wp2_with (first
              | (at_next; go_must (refine wpList_next_set _ rfl _ rfl (w1.heap.size + 1) w3.heap.size m known lf cnt rfl HR5.out ?_ ?_)))
            · intro hc0 hl0
              have hend := hid (HCo.out.end_ hl0)
              have hsl : ss.length ≤ 1073741824 := by omega
              clear hl0
              go_wp2_with fail
              refine (sort_calls _ ss w.heap.size _ HO5.out hsl).mono ?_
              rintro e w7 ⟨rfl, hown7, hgr7⟩
              have HO7 := hid hown7
              have HG7 := hid hgr7
              clear hown7 hgr7
              go_wp2_with fail
              go_ret
              refine ⟨_, rfl, ?_, ?_⟩
              · rw [← HW.out.reached (srtM_perm ss) (srtM_sorted ss) hend.out.1 hend.out.2]; exact HO7.out
              · exact HK5.out.own HO5.out HG7.out (Nat.le_refl _)
            · intro x w6 cnt6 hwx hlx hxk hrg6 hlt6 hgr6 hs6 hen6
              have HR6 := hid hrg6
              have HC6 := hid (HCo.out.step hlx hxk)
              have HO6 := hid (show OwnInts w6 w.heap.size .i64 3 u22 ss from HO5.out.keeps (Keeps.ofGrown hgr6) (fun b hb e => HR5.out.ne_iter HO5.out (by rw [← e, hb])))
              have HK6 := hid (HK5.out.grown hgr6 (fun i e hi => by injection e with e; have := hsz; omega))
              have HLT := hid hlt6
              have hb6 := HK6.out.size
              clear hrg6 hgr6 hs6 hwx hlx hxk hlt6
              go_wp2_with (at_builtin; go_must (refine wpList_app1 _ rfl _ _ 62 rfl w.heap.size 3 .i64 8 hub info_int3 _ _ rfl (OwnInts.alloc HO6.out _) _ _ _ rfl (cell_one _ _ _) (by omega) (by omega) (by simp; omega) ?_); intro v8 w8 hown8 hgr8 _)
              have hne := HR6.out.ne_iter HO6.out
              have hneb := ne_own HR6.out.set HO6.out
              have HR8 := hid ((HR6.out.alloc (.cells #[.int .i64 x] 3)).keeps hgr8 hneb hne)
              have HK8 := hid ((HK6.out.alloc (.cells #[.int .i64 x] 3)).own (OwnInts.alloc HO6.out _) hgr8 (Nat.le_refl _))
              have HO8 := hid hown8
              clear hgr8 hown8 hne hneb
              go_roundw
              case rel => exact ⟨ss ++ [x], _, cnt6, HR8, HC6, HO8, HK8, by have := HLT.out; simp; omega⟩
              case measure => rw [HR8.out.left_eq, HR5.out.left_eq]; exact HLT.out
        | cons n todo =>
          obtain ⟨g7, p7, rfl, hce7⟩ := hat7.get (by simp)
          have cq := hce7 0 (by simp)
          rw [Nat.add_zero, show gi (n :: todo) 0 = n from rfl] at cq
          subst hv7
          clear hat7 hce7 hc7
          rw [List.length_cons] at HS ⊢
          obtain ⟨m, hm⟩ : ∃ m, todo.length = m := ⟨_, rfl⟩
          rw [hm] at HS ⊢
          have HM := hid hm
          clear hm
          have hkl : known.length ≤ 1000000 := Nat.le_trans (HW.out.known_le HND.out) hB
          have hfl := HW.out.todos n (by simp)
          have hnw := hid (show (Lit.int .i64 n).wf = true by
            obtain ⟨of, hof, hfit, hmem⟩ := hfl.mem
            have := fitsN_in hfit n hmem
            exact WalkArith.wf_i64 ⟨by omega, by omega⟩)
          clear hfl
          have HGN := hid (show workN todo left + 1 ≤ gk by have := hgn; unfold workN at this ⊢; simp at this; omega)
          clear hgn
          by_cases hin : n ∈ known
          · have hd : decide (n ∈ known) = true := decide_eq_true hin
            have HWS := hid (HW.out.skip hin)
            go_wp2_with (first
              | (refine wpList_tail _ rfl _ 62 rfl Try.underlying62 size_int (w1.heap.size + 1) g7 p7 (m + 1) c7 n todo rfl HS.out.todo ?_; intro v9 ht9 hb9; have HS1 := hid (HS.out.todo_cut ht9 hb9); clear ht9 hb9)
              | (at_lookup; refine wpList_lookup_own_unit _ rfl _ _ 134 rfl 3 135 key_law Try.underlying134 (zero_unit _) (w1.heap.size + 1) _ _ rfl HS1.out.known _ _ rfl (Maps.keyOf_int_mk Try.underlying3 hnw.out) ?_; rw [set_has]))
            have HS2 := hid (HS1.out.kept ((Keeps.refl NoB wr).alloc (.cells #[] 135)))
            go_roundg (gk - 1)
            case measure => have := HGN.out; omega
            case rel => exact ⟨todo, left, known, HS2, HWS, HND, by have := HGN.out; omega, by omega⟩
          · have hd : decide (n ∈ known) = false := decide_eq_false hin
            have HIN := hid hin
            have HWS := hid (HW.out.start hin)
            clear hin
            go_wp2_with (first
              | (refine wpList_tail _ rfl _ 62 rfl Try.underlying62 size_int (w1.heap.size + 1) g7 p7 (m + 1) c7 n todo rfl HS.out.todo ?_; intro v9 ht9 hb9; have HS1 := hid (HS.out.todo_cut ht9 hb9); have HS2 := hid (HS1.out.kept ((Keeps.refl NoB wr).alloc (.cells #[] 135))); clear ht9 hb9)
              | (at_lookup; refine wpList_lookup_own_unit _ rfl _ _ 134 rfl 3 135 key_law Try.underlying134 (zero_unit _) (w1.heap.size + 1) _ _ rfl HS1.out.known _ _ rfl (Maps.keyOf_int_mk Try.underlying3 hnw.out) ?_; rw [set_has])
              | (at_mapUpdate; go_must (refine wpList_mapUpdate_own _ rfl _ _ _ 134 rfl 3 135 key_law Try.underlying134 unitElem (w1.heap.size + 1) known.length _ rfl HS2.out.known (by unfold maxLen; omega) _ _ _ rfl rfl (Maps.keyOf_int_mk Try.underlying3 hnw.out) _ [] unitElem_mk ?_); intro w3 hown3 hgr3; have hs3 := (show SetAt w3 (w1.heap.size + 1) (known.length + 1) (known ++ [n]) by unfold SetAt; rw [List.map_append, List.map_cons, List.map_nil, Maps.setOf_snoc]; exact hown3); have HS3 := hid (HS2.out.known_put hgr3 hs3); clear hown3 hgr3 hs3; obtain ⟨D, hD, hf⟩ := HS3.out.has; have HD := hid hD; have HDF := hid hf; clear hD hf)
              | (at_lookup; go_must (refine wpList_lookup_groups_shuns _ rfl _ _ 133 rfl 3 62 3 .i64 key_law Try.underlying133 (zero_ints _) (w1.heap.size + 1) w1.heap.size n1 D rfl HD.out (by unfold maxLen; omega) _ _ rfl (Maps.keyOf_int_mk Try.underlying3 hnw.out) ?_); intro v zs hat hoi hzl hback hsu; have hz := HDF.out.zs hoi hat; have HO3 := hid (show OwnInts w3 (w1.heap.size + 1) .i64 3 v zs from hoi.1); have HNE := hid (fun g hv => hsu _ HS3.out.shuns g hv); have HZ := hid hz; clear hat hoi hzl hback hsu hz; obtain ⟨A9, c9, rfl, hc9, _⟩ := OwnInts.reads HO3.out))
            have HKN := hid HS3.out.keeps
            obtain ⟨q, hq⟩ : ∃ q, zs.length = q := ⟨_, rfl⟩
            have HQ := hid (show (posN all eqs eqs.length n).length = q by rw [← hq, hnn.out, HZ.out, List.length_map])
            have hql : q ≤ 1000000 := by have := posN_length all eqs eqs.length n; have h2 := HQ.out; have h3 := hnn.out; omega
            rw [hq] at HO3 hc9 HNE ⊢
            have HQ2 := hid hq
            clear hq
            go_loopw [7, 92] (fun v7 v92 wr => ∃ (i : Nat) (todo left : List Int), i ≤ q ∧ v92 = .int .i64 (i : Int) ∧ Hid (St2 w wr (Value.slice (some ⟨w.heap.size, 0, none⟩) k k) left w1.heap.size n1 (fun x => (posN all eqs k x).map Int.ofNat) v7 todo (known.length + 1) (known ++ [n])) ∧ Hid (WorkIn all eqs known n i todo left) ∧ Hid (OwnInts wr (w1.heap.size + 1) .i64 3 (.slice A9 q c9) zs) ∧ Hid (∀ g, (Value.slice A9 q c9).ownBlock = some g → ¬ v7.ownBlock = some g) ∧ Hid (workN todo left ≤ gk - 1)) (fun _ v92 _ => q - (intOf v92).toNat)
            case atStart => exact ⟨0, todo, left, Nat.zero_le _, rfl, HS3, HWS, HO3, HNE, hid (by have := HGN.out; omega)⟩
            case round =>
              clear HS3 HS2 HS1 HS HWS HW HO3 HNE HD HDF HM HKN
              obtain ⟨i, todo, left, hiq, rfl, HS, HW, HO, HNE, HWN⟩ := hrel
              by_cases hlt4 : i < q
              · obtain ⟨b9, o9, rfl, hc9'⟩ := HO.out.ints.1.get (by rw [HQ2.out]; omega)
                have hiq' : i < (posN all eqs eqs.length n).length := by rw [HQ.out]; exact hlt4
                have hnow := HW.out.now HIN.out hiq'
                have HWT := hid (fun (kk : Nat) (hk : (posN all eqs eqs.length n)[i] = kk) => HW.out.step HIN.out hiq' hk)
                have HWT2 := hid (fun (kk : Nat) (hk : (posN all eqs eqs.length n)[i] = kk) => workN_step HW.out HIN.out hiq' hk)
                obtain ⟨kk, hkk⟩ : ∃ kk, (posN all eqs eqs.length n)[i] = kk := ⟨_, rfl⟩
                rw [hkk] at hnow
                have HKK := hid hkk
                have ck := hc9' i (by rw [HQ2.out]; exact hlt4)
                have hgi : gi zs i = (kk : Int) := by
                  have e := hnn.out
                  rw [HZ.out]
                  subst e
                  rw [gi_eq _ _ (by rw [List.length_map]; exact hiq'), List.getElem_map, hkk]; rfl
                rw [hgi] at ck
                clear hgi hkk hc9'
                have HNOW := hid hnow
                have hkn : kk < k := by have h1 := hnow.1; have h2 := hnn.out; omega
                have hlo : 0 ≤ gi left kk - 1 := by have := hnow.2.2; omega
                have hhi : gi left kk - 1 ≤ 1000000 := by
                  have h1 := hnow.2.2
                  have h2 := unkN_le (known ++ [n]) (gl eqs kk)
                  have h3 := HR.out kk hnow.1
                  omega
                clear hnow
                have hll := HW.out.llen
                rw [hnn.out] at hll
                have hcell := HS.out.left.cell (j := kk) (by rw [hll]; exact hkn)
                have hfree := HS.out.left.free kk
                have HSS := hid (show ∀ z, St2 w (wr.setCell ⟨w.heap.size, kk, none⟩ (.int .i64 z)) (Value.slice (some ⟨w.heap.size, 0, none⟩) k k) (left.set kk z) w1.heap.size n1 (fun x => (posN all eqs k x).map Int.ofNat) u7 todo (known.length + 1) (known ++ [n]) from fun z => HS.out.left_set (by
                  have h := Keeps.one wr w.heap.size kk (.int .i64 z)
                  exact ⟨h.os, h.tape, h.output, h.size, fun i hi hne => h.block i hi (fun e => hne (by rw [e]; rfl))⟩) (HS.out.left.set (by rw [hll]; exact hkn) z))
                have HOS := hid (show ∀ z, OwnInts (wr.setCell ⟨w.heap.size, kk, none⟩ (.int .i64 z)) (w1.heap.size + 1) .i64 3 (.slice (some ⟨b9, o9, none⟩) q c9) zs from fun z => HO.out.keeps (Keeps.one wr w.heap.size kk (.int .i64 z)) (fun b hb e => by have := (HO.out.base_le b hb).1; omega))
                clear hll
                generalize hy : gi left kk = y at *
                have HY := hid hy
                clear hy
                have p0 : (0 : Int) ≤ (i : Int) := by omega
                have p1 : (i : Int) < (q : Int) := by omega
                have p2 : (0 : Int) ≤ (kk : Int) := by omega
                have p3 : (kk : Int) < (k : Int) := by omega
                by_cases hy1 : y - 1 = 1
                · obtain rfl : y = 2 := by omega
                  obtain ⟨b, off, rfl, hc⟩ := HC.out.2 (by rw [hnn.out]; omega)
                  obtain ⟨u, cu, A1, c1, rfl, _, _, hat⟩ := hc kk (by rw [hnn.out]; exact hkn)
                  have HAT0 := hid hat
                  have cu2 := (HSS.out 1).keeps.cell cu (fun h => h)
                  have hrl := HR.out kk (by rw [hnn.out]; exact hkn)
                  clear hc hat cu
                  obtain ⟨of, hof⟩ : ∃ of, gl eqs kk = of := ⟨_, rfl⟩
                  rw [hof] at cu2 HAT0 hrl
                  have HOF := hid hof
                  have HF := hid (show fitsN all of = true by rw [← hof]; exact HNOW.out.2.1)
                  clear hof
                  obtain ⟨m5, hm5⟩ : ∃ m5, of.length = m5 := ⟨_, rfl⟩
                  rw [hm5] at cu2 hrl
                  have HM5 := hid hm5
                  clear hm5
                  go_wp2_with fail
                  generalize hwz : wr.setCell ⟨w.heap.size, kk, none⟩ (.int .i64 1) = wz at *
                  have HS5 := hid (show St2 w wz _ _ _ _ _ _ _ _ _ by rw [← hwz]; exact HSS.out 1)
                  have HO5 := hid (show OwnInts wz _ _ _ _ _ by rw [← hwz]; exact HOS.out 1)
                  clear hwz hcell hfree cu2
                  have htl : todo.length ≤ 2000000 := by have := HWN.out; unfold workN at this; omega
                  go_loopw [7, 112] (fun v7 v112 wr => ∃ (j : Nat), j ≤ m5 ∧ v112 = .int .i64 (j : Int) ∧ Hid (St2 w wr (Value.slice (some ⟨w.heap.size, 0, none⟩) k k) (left.set kk 1) w1.heap.size n1 (fun x => (posN all eqs k x).map Int.ofNat) v7 (todo ++ unkN (known ++ [n]) (of.take j)) (known.length + 1) (known ++ [n])) ∧ Hid (OwnInts wr (w1.heap.size + 1) .i64 3 (.slice (some ⟨b9, o9, none⟩) q c9) zs) ∧ Hid (∀ g, (Value.slice (some ⟨b9, o9, none⟩) q c9).ownBlock = some g → ¬ v7.ownBlock = some g)) (fun _ v112 _ => m5 - (intOf v112).toNat)
                  case atStart => exact ⟨0, Nat.zero_le _, rfl, hid (by have := HS5.out; simpa [unkN] using this), HO5, HNE⟩
                  case round =>
                    clear HS5 HO5 HNE
                    obtain ⟨j, hj5, rfl, HS, HO, HNE⟩ := hrel
                    by_cases hjm : j < m5
                    · obtain ⟨b2, o2, rfl, hc2⟩ := HAT0.out.get (by rw [HM5.out]; omega)
                      have c2 := HS.out.keeps.cell (hc2 j (by rw [HM5.out]; exact hjm)) (fun h => h)
                      have q0 : (0 : Int) ≤ (j : Int) := by omega
                      have q1 : (j : Int) < (m5 : Int) := by omega
                      have hx0 := hid (fitsN_in HF.out (gi of j) (by rw [gi_eq of j (by rw [HM5.out]; exact hjm)]; exact List.getElem_mem _))
                      have hxw := hid (show (Lit.int .i64 (gi of j)).wf = true from WalkArith.wf_i64 ⟨by have := hx0.out.1; omega, by have := hx0.out.2; omega⟩)
                      have HTK := hid (unkN_take (known ++ [n]) of j (by rw [HM5.out]; exact hjm))
                      have hul : (unkN (known ++ [n]) (of.take j)).length ≤ 1000000 := Nat.le_trans (unkN_le _ _) (by rw [List.length_take]; omega)
                      have HSA := hid (HS.out.kept ((Keeps.refl NoB wr).alloc (.cells #[] 135)))
                      have HOA := hid (HO.out.alloc (.cells #[] 135))
                      clear hc2
                      generalize gi of j = x at *
                      by_cases hxk : x ∈ known ++ [n]
                      · have hd5 : decide (x ∈ known ++ [n]) = true := decide_eq_true hxk
                        go_wp2_with (at_lookup; refine wpList_lookup_own_unit _ rfl _ _ 134 rfl 3 135 key_law Try.underlying134 (zero_unit _) (w1.heap.size + 1) _ _ rfl HS.out.known _ _ rfl (Maps.keyOf_int_mk Try.underlying3 hxw.out) ?_; rw [set_has])
                        go_roundw
                        case rel => exact ⟨j + 1, by omega, by go_num, hid (by rw [HTK.out, if_pos hxk, List.append_nil]; exact HSA.out), HOA, HNE⟩
                        case measure => simp [intOf]; omega
                      · have hd5 : decide (x ∈ known ++ [n]) = false := decide_eq_false hxk
                        go_wp2_with (first
                          | (at_lookup; refine wpList_lookup_own_unit _ rfl _ _ 134 rfl 3 135 key_law Try.underlying134 (zero_unit _) (w1.heap.size + 1) _ _ rfl HS.out.known _ _ rfl (Maps.keyOf_int_mk Try.underlying3 hxw.out) ?_; rw [set_has])
                          | (at_builtin; go_must (refine wpList_tail_app _ rfl _ _ 62 rfl (w1.heap.size + 1) hub info_int3 _ _ rfl (HSA.out.kept ((Keeps.refl NoB _).alloc (.cells #[.int .i64 x] 3))).todo _ _ x rfl (by have h := cell_one (wr.alloc (.cells #[] 135)) (.int .i64 x) 3; rw [World.size_alloc] at h; exact h) (by rw [List.length_append]; omega) (by have := HS.out.top; simp; omega) ?_); intro v6 w6 hown6 hgr6 hat6))
                        have HSB := hid (HSA.out.kept ((Keeps.refl NoB _).alloc (.cells #[.int .i64 x] 3)))
                        have HS6 := hid (HSB.out.todo_grown hgr6 hown6 hat6)
                        have HO6 := hid (show OwnInts w6 (w1.heap.size + 1) .i64 3 (.slice (some ⟨b9, o9, none⟩) q c9) zs from ((HOA.out.alloc (.cells #[.int .i64 x] 3)).keeps (Keeps.ofGrown hgr6) (fun b hb e => HNE.out b hb e.symm)))
                        have HN6 := hid (show ∀ g, (Value.slice (some ⟨b9, o9, none⟩) q c9).ownBlock = some g → ¬ v6.ownBlock = some g from fun g hg e => by
                          rcases hat6 with h6 | ⟨g', h6, h7⟩
                          · exact HNE.out g hg (h6.symm.trans e)
                          · have h8 := (HOA.out.base_le g hg).2
                            rw [h6] at e
                            injection e with e
                            simp at h7 h8
                            omega)
                        clear hgr6 hown6 hat6
                        go_roundw
                        case rel => exact ⟨j + 1, by omega, by go_num, hid (by rw [HTK.out, if_neg hxk, ← List.append_assoc]; exact HS6.out), HO6, HN6⟩
                        case measure => simp [intOf]; omega
                    · obtain rfl : j = m5 := by omega
                      have hta : of.take j = of := by rw [← HM5.out]; exact List.take_length
                      have HS7 := hid (show St2 w wr _ _ _ _ _ _ (todo ++ unkN (known ++ [n]) of) _ _ by rw [← hta]; exact HS.out)
                      clear hta
                      go_wp2_with fail
                      go_roundw
                      case rel => exact ⟨i + 1, todo ++ unkN (known ++ [n]) of, left.set kk 1, by omega, by go_num, HS7, hid (by have := HWT.out kk HKK.out; rw [HY.out, if_pos (by omega), HOF.out] at this; exact this), HO, HNE, hid (by have := HWT2.out kk HKK.out; rw [HY.out, if_pos (by omega), HOF.out] at this; have h2 := HWN.out; exact Nat.le_trans this h2)⟩
                      case measure => simp [intOf]; omega
                · go_wp2_with fail
                  go_roundw
                  case rel => exact ⟨i + 1, todo, left.set kk (y - 1), by omega, by go_num, hid (HSS.out _), hid (by have := HWT.out kk HKK.out; rw [HY.out, if_neg hy1] at this; exact this), hid (HOS.out _), HNE, hid (by have := HWT2.out kk HKK.out; rw [HY.out, if_neg hy1] at this; have h2 := HWN.out; omega)⟩
                  case measure => simp [intOf]; omega
              · obtain rfl : i = q := by omega
                go_wp2_with fail
                go_roundg (gk - 1)
                case measure => have := HGN.out; omega
                case rel =>
                  refine ⟨todo, left, known ++ [n], hid (by rw [List.length_append]; exact HS.out), hid (WorkIn.done (by rw [HQ.out]; exact HW.out)), hid (List.nodup_append.2 ⟨HND.out, by simp, fun a ha b hb => by rw [List.mem_singleton.1 hb]; exact fun e => HIN.out (e ▸ ha)⟩), HWN.out, by omega⟩
end Go.Proofs.Ytpkkaicpbihjfaa
