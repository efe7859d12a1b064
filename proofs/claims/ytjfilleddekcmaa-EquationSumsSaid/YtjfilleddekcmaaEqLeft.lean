/- The blocks of an equation that aren't known; does an equation hold, by the reference: the walks. Conditions: lengths are small; what is read lies below. -/
import Derived.Test.YtjfilleddekcmaaEqAdd
import Derived.Test.YtjfilleddekcmaaRef03
import Derived.BigQuiet
set_option linter.unusedVariables false
namespace Go.Proofs.Ytjfilleddekcmaa
open Go.RowKit

set_option maxHeartbeats 400000 in
theorem known_calls (ks : List Int) (i : Int) (K : Option Addr) (c kb : Nat) (w : World) (hk : w.cell? ⟨kb, 0, none⟩ = some (.slice K ks.length c)) (h : IntsAt w .i64 K ks) :
    Calls Try.prog 28 #[.int .i64 i, .pointer (some ⟨kb, 0, none⟩)] w fun e w' => e = .returned (.bool (decide (i ∈ ks))) ∧ Keeps NoB w w' := by
  have H := hid h
  clear h
  go_enter Try.func28, Try.ntmps28
  go_wp2_with fail
  refine (has_calls ks i K c w H.out).mono ?_
  rintro e w2 ⟨rfl, HK⟩
  go_wp2_with fail
  go_ret
  exact ⟨rfl, HK⟩
/-- Those of some numbers that aren't among others. -/
def leftN (is ks : List Int) : List Int := is.filter fun i => !decide (i ∈ ks)
theorem leftN_take (is ks : List Int) (k : Nat) (h : k < is.length) : leftN (is.take (k + 1)) ks = leftN (is.take k) ks ++ (if gi is k ∈ ks then [] else [gi is k]) := by
  unfold leftN
  rw [take_gi2 is k h, List.filter_append]
  congr 1
  by_cases hx : gi is k ∈ ks <;> simp [hx]
theorem leftN_le (is ks : List Int) : (leftN is ks).length ≤ is.length := List.length_filter_le _ _
set_option maxHeartbeats 800000 in
set_option maxRecDepth 20000 in
theorem eleft_calls (is ks : List Int) (A1 A2 K : Option Addr) (c1 m2 c2 c kb : Nat) (w : World) (hi : IntsAt w .i64 A1 is) (hl : is.length ≤ 1073741824) (hk : w.cell? ⟨kb, 0, none⟩ = some (.slice K ks.length c)) (h : IntsAt w .i64 K ks) :
    Calls Try.prog 27 #[.agg #[.slice A1 is.length c1, .slice A2 m2 c2], .func (.func 28) #[] #[.pointer (some ⟨kb, 0, none⟩)]] w fun e w' => ∃ v, e = .returned v ∧ OwnInts w' w.heap.size .i64 3 v (leftN is ks) ∧ Keeps NoB w w' := by
  have HI := hid hi
  have HKN := hid h
  have hkc := hid hk
  have HT := hid (leftN_take is ks)
  have HLE := hid (show ∀ k, (leftN (is.take k) ks).length ≤ is.length from fun k => Nat.le_trans (leftN_le _ _) (by rw [List.length_take]; omega))
  have hu := Try.underlying25
  clear hi h hk
  obtain ⟨n, hn⟩ : ∃ n, is.length = n := ⟨_, rfl⟩
  rw [hn] at hl ⊢
  have hnn := hid hn
  clear hn
  go_enter Try.func27, Try.ntmps27
  go_wp2_with fail
  go_loopw [5, 11] (fun v5 v11 wr => ∃ k : Nat, k ≤ n ∧ v11 = .int .i64 (k : Int) ∧ Hid (OwnInts wr w.heap.size .i64 3 v5 (leftN (is.take k) ks)) ∧ Hid (Keeps NoB w wr)) (fun _ v11 _ => n - (intOf v11).toNat)
  case atStart => exact ⟨0, Nat.zero_le _, rfl, OwnInts.nil _ _ _ _, (Keeps.refl NoB w).alloc _⟩
  case round =>
    obtain ⟨k, hk, rfl, HO, HK⟩ := hrel
    by_cases hlt : k < n
    · obtain ⟨b1, o1, rfl, hc1⟩ := HI.out.get (by rw [hnn.out]; omega)
      have c1 := HK.out.cell (hc1 k (by rw [hnn.out]; exact hlt)) (fun h => h)
      have p0 : (0 : Int) ≤ (k : Int) := by omega
      have p1 : (k : Int) < (n : Int) := by omega
      have ht := hid (HT.out k (by rw [hnn.out]; exact hlt))
      have hle := HLE.out k
      rw [hnn.out] at hle
      clear hc1
      generalize gi is k = i at *
      go_wp2_with fail
      refine (known_calls ks i K c kb wr (HK.out.cell hkc.out (fun h => h)) (HKN.out.kept HK.out)).mono ?_
      rintro e w2 ⟨rfl, HK2⟩
      have HO2 := hid (HO.out.kept HK2)
      have HK2 := hid (HK.out.fresh HK2)
      by_cases hx : i ∈ ks
      · rw [decide_eq_true hx]
        have ht2 := hid (show leftN (is.take (k + 1)) ks = leftN (is.take k) ks by rw [ht.out, if_pos hx, List.append_nil])
        clear hx
        go_wp2_with fail
        go_roundw
        case rel => exact ⟨k + 1, by omega, by go_num, by rw [ht2.out]; exact HO2, HK2⟩
        case measure => simp [intOf]; omega
      · rw [decide_eq_false hx]
        have ht2 := hid (show leftN (is.take (k + 1)) ks = leftN (is.take k) ks ++ [i] by rw [ht.out, if_neg hx])
        clear hx
        go_wp2_with (at_builtin; go_must (refine wpList_app1 _ rfl _ _ 25 rfl w.heap.size 3 .i64 8 hu info_int _ _ rfl (OwnInts.alloc HO2.out _) _ _ _ rfl (cell_one _ _ _) (by omega) (by omega) (by have := HK2.out.size; simp at this ⊢; omega) ?_); intro v4 w4 hown4 hgr4 _)
        go_roundw
        case rel => exact ⟨k + 1, by omega, by go_num, by rw [ht2.out]; exact hid hown4, hid ((HK2.out.alloc _).own (OwnInts.alloc HO2.out _) hgr4 (Nat.le_refl _))⟩
        case measure => simp [intOf]; omega
    · obtain rfl : k = n := by omega
      have hall : is.take k = is := by rw [← hnn.out, List.take_length]
      rw [hall] at HO
      clear hall
      go_wp2_with fail
      go_ret
      exact ⟨_, rfl, HO.out, HK.out⟩
theorem xorL_zero2 {l : List UInt8} {n : Nat} (h : l.length = n) : xorL (List.replicate n 0) l = l := by
  subst h
  induction l with
  | nil => rfl
  | cons x l ih =>
    show (0 ^^^ x) :: xorL (List.replicate l.length 0) l = x :: l
    rw [ih]; simp
theorem sum_val (val : List UInt8) (sel : List (List UInt8)) : sumB val.length (val :: sel) = xorAll val sel := by
  show xorAll (xorL (List.replicate val.length 0) val) sel = _
  rw [xorL_zero2 rfl]
theorem OwnRows.one {R : Nat → Prop} {w : World} {base : Nat} {u : Value} {l : List UInt8} (hb : base ≤ w.heap.size) (h : RowIn (fun b => R b ∧ b < w.heap.size) w u l) : OwnRows R (w.alloc (.cells #[u] 27)) base (.slice (some ⟨w.heap.size, 0, none⟩) 1 1) [l] := by
  refine ⟨[u], rfl, ⟨by simp, .inr ⟨w.heap.size, 1, #[u], rfl, hb, heap_alloc_new w _, Nat.le_refl _, by unfold maxLen; omega, rfl, by simp⟩⟩, fun j u' hu => ?_⟩
  cases j with
  | zero =>
    simp at hu; subst hu
    exact (h.keeps ((Keeps.refl NoB w).alloc _) (fun _ _ h => h)).mono (fun b _ hb => ⟨hb.1, fun e => absurd (show w.heap.size = b by simpa [Value.ownBlock] using e) (by omega)⟩)
  | succ j => simp at hu
set_option maxHeartbeats 1600000 in
set_option maxRecDepth 20000 in
theorem rholds_calls (is : List Int) (val : List UInt8) (bs : List (List UInt8)) (A1 A2 A3 : Option Addr) (c1 c2 c3 : Nat) (R : Nat → Prop) (w : World) (hi : IntsAt w .i64 A1 is) (hc2 : val.length ≤ c2) (hA2 : A2 = none → c2 = 0) (hv : BytesIn R w A2 val) (hb : RowsIn R w A3 bs) (hl : is.length ≤ 1073741823) (hvl : val.length ≤ 1073741824) :
    Calls Try.prog 29 #[.slice A1 is.length c1, .slice A2 val.length c2, .slice A3 bs.length c3] w fun e w' => e = .returned (.bool (holdsE is val bs)) ∧ Keeps NoB w w' := by
  have hbl := hb.len
  have HI := hid hi
  have HB := hid hb.lt
  have HV := hid (show RowIn (fun b => R b ∧ b < w.heap.size) w (.slice A2 val.length c2) val from ⟨A2, c2, rfl, hc2, hA2, hv.lt⟩)
  have hu := Try.underlying26
  have HNO := hid (fun k (hk : k < is.length) (h : okB val.length bs (gi is k) = false) => holdsE_no (val := val) (bs := bs) hk h)
  have HT := hid (take_gi2 is)
  clear hi hv hb hA2 hc2
  obtain ⟨n, hn⟩ : ∃ n, is.length = n := ⟨_, rfl⟩
  obtain ⟨m, hm⟩ : ∃ m, val.length = m := ⟨_, rfl⟩
  obtain ⟨q, hq⟩ : ∃ q, bs.length = q := ⟨_, rfl⟩
  rw [hn] at hl ⊢
  rw [hm] at hvl ⊢
  rw [hm] at HV
  rw [hq] at hbl ⊢
  have hnn := hid hn
  have hmm := hid hm
  have hqq := hid hq
  have hO := hid (OwnRows.one (Nat.le_refl w.heap.size) (HV.out.mono (fun b h1 h2 => ⟨h2, h1⟩)) : OwnRows (fun b => R b ∧ b < w.heap.size) _ w.heap.size _ [val])
  clear hn hm hq
  go_enter Try.func29, Try.ntmps29
  go_wp2_with fail
  go_loopw [7, 8] (fun v7 v8 wr => ∃ k : Nat, k ≤ n ∧ v8 = .int .i64 (k : Int) ∧ Hid (OwnRows (fun b => R b ∧ b < w.heap.size) wr w.heap.size v7 (val :: selB bs (is.take k))) ∧ Hid ((is.take k).all (okB val.length bs) = true) ∧ Hid (Keeps NoB w wr)) (fun _ v8 _ => n - (intOf v8).toNat)
  case atStart => exact ⟨0, Nat.zero_le _, rfl, hO, hid rfl, hid ((Keeps.refl NoB w).alloc _)⟩
  case round =>
    obtain ⟨k, hk, rfl, HO, HALL, HK⟩ := hrel
    by_cases hlt : k < n
    · obtain ⟨b1, o1, rfl, hc1⟩ := HI.out.get (by rw [hnn.out]; omega)
      have c1 := HK.out.cell (hc1 k (by rw [hnn.out]; exact hlt)) (fun h => h)
      have p0 : (0 : Int) ≤ (k : Int) := by omega
      have p1 : (k : Int) < (n : Int) := by omega
      have hno := hid (HNO.out k (by rw [hnn.out]; exact hlt))
      have ht := hid (HT.out k (by rw [hnn.out]; exact hlt))
      clear hc1
      generalize gi is k = i at *
      by_cases h0 : i < 0
      · have d0 : decide (i < 0) = true := decide_eq_true h0
        have hr := hid (hno.out (by unfold okB; rw [decide_eq_false (show ¬ (0 : Int) ≤ i by omega)]; rfl))
        go_wp2_with fail
        go_ret
        rw [hr.out]
        exact ⟨rfl, HK.out⟩
      · have d0 : decide (i < 0) = false := decide_eq_false h0
        by_cases h1 : i < (q : Int)
        · have d1 : decide ((q : Int) ≤ i) = false := decide_eq_false (by omega)
          obtain ⟨bb, ob, rfl, hbR, hc⟩ := HB.out.2 (by rw [hqq.out]; omega)
          obtain ⟨u, cu, A4, c4, rfl, hc4, hA4, hrow⟩ := hc i.toNat (by rw [hqq.out]; omega)
          have cu := HK.out.cell cu (fun h => h)
          have HROW := hid (show RowIn _ wr _ _ from RowIn.keeps ⟨A4, c4, rfl, hc4, hA4, hrow⟩ HK.out (fun _ _ h => h))
          have p2 : (0 : Int) ≤ i := by omega
          clear hc hc4 hA4 hrow hbR
          obtain ⟨l, hl2⟩ : ∃ l, gr bs i.toNat = l := ⟨_, rfl⟩
          rw [hl2] at cu HROW
          have hl3 := hid hl2
          clear hl2
          by_cases h2 : l.length = m
          · have hok := hid (show okB val.length bs i = true by
              unfold okB
              rw [decide_eq_true p2, hqq.out, decide_eq_true h1, hl3.out, hmm.out, decide_eq_true h2]; rfl)
            have dne : (((l.length : Nat) : Int) != ((m : Nat) : Int)) = false := by rw [h2]; simp
            have hlen := hid (show (val :: selB bs (is.take k)).length = k + 1 by rw [List.length_cons, selB, List.length_map, List.length_take, hnn.out]; omega)
            obtain ⟨us, Av, cv, rfl, hus1, hus2, hus3⟩ := HO.out.parts hlen.out
            have HUS1 := hid hus1
            have HUS2 := hid hus2
            have HUS3 := hid hus3
            have HROW2 := hid (HROW.out.mono (R' := fun b => (R b ∧ b < w.heap.size) ∧ (Value.slice Av (k + 1) cv).ownBlock ≠ some b) (fun b hlt hb => ⟨hb, fun e => by have := (HO.out.base_le b e).1; omega⟩))
            clear hus1 hus2 hus3 h2
            go_wp2_with (at_builtin; go_must (refine wpList_app1V _ rfl _ _ 26 rfl w.heap.size 27 (.slice none 0 0) 24 hu info_bytes rfl (.slice Av (k + 1) cv) (k + 1) us rfl (World.ownsRow.alloc HUS2.out _) _ _ (.slice A4 l.length c4) rfl rfl (cell_one _ _ _) (by omega) (by omega) (by have := HK.out.size; simp; omega) ?_); intro g4 cap4 w4 hown4 hgr4 hat4)
            have hst := hid (show val :: selB bs (is.take (k + 1)) = (val :: selB bs (is.take k)) ++ [l] by
              rw [ht.out, selB_snoc, hl3.out]; rfl)
            have hall := hid (show (is.take (k + 1)).all (okB val.length bs) = true by rw [ht.out, List.all_append, HALL.out]; simp [hok.out])
            go_roundw
            case rel => exact ⟨k + 1, by omega, by go_num, hid (by rw [hst.out]; exact HO.out.snocN hlen.out HROW2.out HUS1.out HUS2.out HUS3.out hown4 hgr4 hat4), hall, hid ((HK.out.alloc _).grown hgr4 (fun i e hlt => by have := (HO.out.base_le i e.symm).1; omega))⟩
            case measure => simp [intOf]; omega
          · have hr := hid (hno.out (by
              unfold okB
              rw [hl3.out, hmm.out, decide_eq_false h2, Bool.and_false]))
            have dne : (((l.length : Nat) : Int) != ((m : Nat) : Int)) = true := by simp; omega
            clear h2
            go_wp2_with fail
            go_ret
            rw [hr.out]
            exact ⟨rfl, HK.out⟩
        · have d1 : decide ((q : Int) ≤ i) = true := decide_eq_true (by omega)
          have hr := hid (hno.out (by unfold okB; rw [hqq.out, decide_eq_false h1, Bool.and_false, Bool.false_and]))
          go_wp2_with fail
          go_ret
          rw [hr.out]
          exact ⟨rfl, HK.out⟩
    · obtain rfl : k = n := by omega
      have hall : is.take k = is := by rw [← hnn.out, List.take_length]
      rw [hall] at HO HALL
      have hfit := hid (show fitB m (val :: selB bs is) = true by
        have h9 := allOk_fit HALL.out
        rw [hmm.out] at h9
        unfold fitB at h9 ⊢
        rw [List.all_cons, h9, hmm.out]; simp)
      have hfin := hid (show holdsE is val bs = zeroB (xorAll val (selB bs is)) by
        unfold holdsE; rw [HALL.out, Bool.true_and])
      have hsv := hid (show sumB m (val :: selB bs is) = xorAll val (selB bs is) by rw [← hmm.out]; exact sum_val val _)
      have hlen := hid (show (val :: selB bs is).length = k + 1 by rw [List.length_cons, selB, List.length_map, hnn.out])
      obtain ⟨Av, cv, rfl, _, _, hrows⟩ := HO.out.reads
      have HSUM := hid (rsum_calls m (val :: selB bs is) Av cv _ wr hvl hrows hfit.out)
      rw [hlen.out] at HSUM ⊢
      clear hall hrows
      go_wp2_with fail
      refine HSUM.out.mono ?_
      rintro e w5 ⟨v2, rfl, hO5, HK5⟩
      rw [hsv.out] at hO5
      obtain ⟨Ax, cx, rfl, _, _, hbx⟩ := hO5.reads
      have HBX := hid hbx
      have HK5 := hid (HK.out.fresh HK5)
      clear hO5 hbx
      go_wp2_with fail
      refine (rzero_calls _ Ax cx _ w5 HBX.out).mono ?_
      rintro e w6 ⟨rfl, rfl⟩
      go_wp2_with fail
      go_ret
      rw [hfin.out]
      exact ⟨rfl, HK5.out⟩
end Go.Proofs.Ytjfilleddekcmaa
