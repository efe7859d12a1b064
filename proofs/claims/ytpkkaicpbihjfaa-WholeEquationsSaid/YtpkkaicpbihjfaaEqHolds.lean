/- Does an equation hold of blocks: the program's walk. Conditions: lengths are small; what is read lies below. -/
import Derived.Test.YtpkkaicpbihjfaaG2
set_option linter.unusedVariables false
namespace Go.Proofs.Ytpkkaicpbihjfaa
open Go.RowKit

/-- Is there such a block, as long? -/
def okB (n : Nat) (bs : List (List UInt8)) (i : Int) : Bool := decide (0 ≤ i) && decide (i < (bs.length : Int)) && decide ((gr bs i.toNat).length = n)
def selB (bs : List (List UInt8)) (is : List Int) : List (List UInt8) := is.map fun i => gr bs i.toNat
/-- Does an equation hold of blocks? -/
def holdsE (is : List Int) (val : List UInt8) (bs : List (List UInt8)) : Bool := is.all (okB val.length bs) && zeroB (xorAll val (selB bs is))
theorem take_gi2 (is : List Int) (k : Nat) (h : k < is.length) : is.take (k + 1) = is.take k ++ [gi is k] := by rw [List.take_succ_eq_append_getElem h, gi_eq is k h]
theorem selB_snoc (bs : List (List UInt8)) (is : List Int) (i : Int) : selB bs (is ++ [i]) = selB bs is ++ [gr bs i.toNat] := by simp [selB]
theorem holdsE_no {is : List Int} {val : List UInt8} {bs : List (List UInt8)} {k : Nat} (hk : k < is.length) (h : okB val.length bs (gi is k) = false) : holdsE is val bs = false := by
  unfold holdsE
  rw [show is.all (okB val.length bs) = false from List.all_eq_false.2 ⟨gi is k, gi_mem is k hk, by simp [h]⟩, Bool.false_and]
theorem allOk_fit {n : Nat} {bs : List (List UInt8)} {is : List Int} (h : is.all (okB n bs) = true) : fitB n (selB bs is) = true := by
  unfold fitB selB
  rw [List.all_map, List.all_eq_true]
  intro i hi
  have := List.all_eq_true.1 h i hi
  simp only [okB, Bool.and_eq_true, decide_eq_true_eq] at this
  simpa using this.2
theorem bytes_one (R : Nat → Prop) (w : World) {u : Value} {l : List UInt8} {T : TypeId} (h : RowIn R w u l) (hR : ∀ b, R b → b < w.heap.size) : RowsIn (fun b => R b ∨ b = w.heap.size) (w.alloc (.cells #[u] T)) (some ⟨w.heap.size, 0, none⟩) [l] := by
  refine ⟨by simp, fun _ => ⟨w.heap.size, 0, rfl, .inr rfl, fun j hj => ?_⟩⟩
  obtain rfl : j = 0 := by simpa using hj
  exact ⟨u, cell_one _ _ _, (h.keeps ((Keeps.refl NoB w).alloc _) (fun _ _ h => h)).mono (fun b _ hb => .inl hb)⟩
theorem box_two (w : World) (a b : Value) (T : TypeId) : (w.alloc (.cells #[a, b] T)).cell? ⟨w.heap.size, 0, none⟩ = some a ∧ (w.alloc (.cells #[a, b] T)).cell? ⟨w.heap.size, 1, none⟩ = some b := by
  constructor <;> (unfold World.cell?; rw [heap_alloc_new]; rfl)
theorem OwnInts.empty1 (w : World) (o : Obj) (base : Nat) (k : IntKind) (e : TypeId) (hb : base ≤ w.heap.size) : OwnInts ((w.alloc o).alloc (.cells #[] e)) base k e (.slice (some ⟨w.heap.size + 1, 0, none⟩) 0 0) [] := by
  have := OwnInts.empty (w.alloc o) base k e (by simp; omega)
  rwa [World.size_alloc] at this
set_option maxHeartbeats 1600000 in
set_option maxRecDepth 20000 in
theorem eholds_calls (is : List Int) (val : List UInt8) (bs : List (List UInt8)) (A1 A2 A3 : Option Addr) (c1 c2 c3 : Nat) (R : Nat → Prop) (w : World) (hi : IntsAt w .i64 A1 is) (hA2 : A2 = none → c2 = 0) (hv : BytesIn R w A2 val) (hb : RowsIn R w A3 bs) (hl : is.length ≤ 1073741824) (hvl : val.length ≤ 1073741824) :
    Calls Try.prog 39 #[.agg #[.slice A1 is.length c1, .slice A2 val.length c2], .slice A3 bs.length c3] w fun e w' => e = .returned (.bool (holdsE is val bs)) ∧ Keeps NoB w w' := by
  have hbl := hb.len
  have HI := hid hi
  have HV := hid hv
  have HB := hid hb.lt
  have HA2 := hid hA2
  have hu := Try.underlying25
  have HNO := hid (fun k (hk : k < is.length) (h : okB val.length bs (gi is k) = false) => holdsE_no (val := val) (bs := bs) hk h)
  have HT := hid (take_gi2 is)
  clear hi hv hb hA2
  obtain ⟨n, hn⟩ : ∃ n, is.length = n := ⟨_, rfl⟩
  obtain ⟨m, hm⟩ : ∃ m, val.length = m := ⟨_, rfl⟩
  obtain ⟨q, hq⟩ : ∃ q, bs.length = q := ⟨_, rfl⟩
  rw [hn] at hl ⊢
  rw [hm] at hvl ⊢
  rw [hq] at hbl ⊢
  have hnn := hid hn
  have hmm := hid hm
  have hqq := hid hq
  clear hn hm hq
  go_enter Try.func39, Try.ntmps39
  go_wp2_with (at_builtin; go_must (refine wpList_appInts _ rfl _ _ 25 rfl w.heap.size 5 .u8 1 hu info_u8 _ [] rfl (OwnInts.empty1 w _ w.heap.size _ _ (Nat.le_refl _)) A2 c2 (enc8 val) (by rw [enc8_length, hmm.out]; rfl) HA2.out (HV.out.1.kept (((Keeps.refl NoB w).alloc _).alloc _)) (by rw [enc8_length, hmm.out]; show (0 + m) * 1 ≤ _; omega) (by rw [enc8_length, hmm.out]; show 0 + m ≤ _; omega) (by simp only [World.size_alloc]; omega) ?_); intro v1 w1 hown1 hgr1; have hbx1 : w1.cell? ⟨w.heap.size, 0, none⟩ = some (.slice A1 n c1) := (Keeps.ofGrown hgr1).cell (((Keeps.refl NoB (w.alloc _)).alloc _).cell (box_two w _ _ _).1 (fun h => h)) (fun e => by have e2 : some w.heap.size = some (w.heap.size + 1) := e; simp at e2))
  have HO := hid (show OwnB w1 w.heap.size v1 val from hown1)
  have HK := hid (((Keeps.refl NoB w).alloc (.cells #[.slice A1 n c1, .slice A2 m c2] 75) |>.alloc (.cells #[] 5)).own (OwnInts.empty1 w _ w.heap.size .u8 5 (Nat.le_refl _)) hgr1 (Nat.le_refl _))
  obtain ⟨Ax, cx, rfl, _⟩ := HO.out.reads
  rw [hmm.out] at HO ⊢
  go_loopw [15] (fun v15 wr => ∃ k : Nat, k ≤ n ∧ v15 = .int .i64 (k : Int) ∧ Hid (OwnB wr w.heap.size (.slice Ax m cx) (xorAll val (selB bs (is.take k)))) ∧ Hid ((is.take k).all (okB val.length bs) = true) ∧ Hid (Keeps NoB w wr)) (fun v15 _ => n - (intOf v15).toNat)
  case atStart => exact ⟨0, Nat.zero_le _, rfl, HO, hid rfl, HK⟩
  case round =>
    obtain ⟨k, hk, rfl, HO, HALL, HK⟩ := hrel
    by_cases hlt : k < n
    · obtain ⟨b1, o1, rfl, hc1⟩ := HI.out.get (by rw [hnn.out]; omega)
      have c1 := HK.out.cell (hc1 k (by rw [hnn.out]; exact hlt)) (fun h => h)
      have p0 : (0 : Int) ≤ (k : Int) := by omega
      have p1 : (k : Int) < (n : Int) := by omega
      have hno := hid (HNO.out k (by rw [hnn.out]; exact hlt))
      have ht := hid (HT.out k (by rw [hnn.out]; exact hlt))
      clear hc1
      generalize gi is k = i at *
      by_cases h0 : i < 0
      · have d0 : decide (i < 0) = true := decide_eq_true h0
        have hr := hid (hno.out (by unfold okB; rw [decide_eq_false (show ¬ (0 : Int) ≤ i by omega)]; rfl))
        go_wp2_with fail
        go_ret
        rw [hr.out]
        exact ⟨rfl, HK.out⟩
      · have d0 : decide (i < 0) = false := decide_eq_false h0
        by_cases h1 : i < (q : Int)
        · have d1 : decide ((q : Int) ≤ i) = false := decide_eq_false (by omega)
          obtain ⟨bb, ob, rfl, hbR, hc⟩ := HB.out.2 (by rw [hqq.out]; omega)
          obtain ⟨u, cu, A4, c4, rfl, hc4, hA4, hrow⟩ := hc i.toNat (by rw [hqq.out]; omega)
          have cu := HK.out.cell cu (fun h => h)
          have HROW := hid (show RowIn _ wr _ _ from RowIn.keeps ⟨A4, c4, rfl, hc4, hA4, hrow⟩ HK.out (fun _ _ h => h))
          have p2 : (0 : Int) ≤ i := by omega
          clear hc hc4 hA4 hrow hbR
          obtain ⟨l, hl2⟩ : ∃ l, gr bs i.toNat = l := ⟨_, rfl⟩
          rw [hl2] at cu HROW
          have hl3 := hid hl2
          have hxl := xorAll_length val (selB bs (is.take k)) (allOk_fit HALL.out)
          have HXL := hid hxl
          clear hxl hl2
          by_cases h2 : l.length = m
          · have hfit := hid (show fitB (xorAll val (selB bs (is.take k))).length [l] = true by rw [HXL.out, hmm.out]; simp [fitB, h2])
            have hok := hid (show okB val.length bs i = true by
              unfold okB
              rw [decide_eq_true p2, hqq.out, decide_eq_true h1, hl3.out, hmm.out, decide_eq_true h2]; rfl)
            clear h2
            go_wp2_with fail
            refine (xors_yes _ [l] w.heap.size _ _ 1 _ _ (OwnInts.alloc HO.out _) (bytes_one _ wr HROW.out (fun b hb => Nat.lt_of_lt_of_le hb.2 HK.out.size)) hfit.out (fun b hb h => by
              have h9 := (OwnInts.base_le (OwnInts.alloc HO.out (.cells #[.slice A4 l.length c4] 25)) b hb)
              have h8 := (OwnInts.base_le HO.out b hb)
              rcases h with h | h
              · have := h.2; omega
              · omega)).mono ?_
            rintro e w5 ⟨rfl, hO5, HK5⟩
            have HO5 := hid hO5
            have HK6 := hid (show Keeps NoB w w5 from (HK.out.alloc _).then HK5 (fun b hb h => by have := (OwnInts.base_le HO.out b hb).1; omega))
            have hst := hid (show xorAll val (selB bs (is.take (k + 1))) = xorAll (xorAll val (selB bs (is.take k))) [l] by
              rw [ht.out, selB_snoc, xorAll_snoc, hl3.out]; rfl)
            have hall := hid (show (is.take (k + 1)).all (okB val.length bs) = true by rw [ht.out, List.all_append, HALL.out]; simp [hok.out])
            go_wp2_with fail
            go_roundw
            case rel => exact ⟨k + 1, by omega, by go_num, hid (by rw [hst.out]; exact HO5.out), hall, HK6⟩
            case measure => simp [intOf]; omega
          · have hfit := hid (show fitB m [l] = false by simp [fitB, h2])
            have hr := hid (hno.out (by
              unfold okB
              rw [hl3.out, hmm.out, decide_eq_false h2, Bool.and_false]))
            clear h2
            go_wp2_with fail
            refine (xors_no (xorAll val (selB bs (is.take k))) [l] m _ _ _ 1 _ _ (bytes_one _ wr HROW.out (fun b hb => Nat.lt_of_lt_of_le hb.2 HK.out.size)) hfit.out).mono ?_
            rintro e w5 ⟨rfl, rfl⟩
            go_wp2_with fail
            go_ret
            rw [hr.out]
            exact ⟨rfl, HK.out.alloc _⟩
        · have d1 : decide ((q : Int) ≤ i) = true := decide_eq_true (by omega)
          have hr := hid (hno.out (by unfold okB; rw [hqq.out, decide_eq_false h1, Bool.and_false, Bool.false_and]))
          go_wp2_with fail
          go_ret
          rw [hr.out]
          exact ⟨rfl, HK.out⟩
    · obtain rfl : k = n := by omega
      have hfl := xorAll_length val (selB bs (is.take k)) (allOk_fit HALL.out)
      have hfin := hid (show holdsE is val bs = zeroB (xorAll val (selB bs (is.take k))) by
        have e : is.take k = is := by rw [← hnn.out, List.take_length]
        have h9 := HALL.out
        rw [e] at h9 ⊢
        unfold holdsE; rw [h9, Bool.true_and])
      have HBX := hid (OwnB.bytes HO.out)
      have HZ := hid (zero_calls (xorAll val (selB bs (is.take k))) Ax cx _ wr HBX.out)
      rw [hfl, hmm.out] at HZ
      go_wp2_with fail
      refine HZ.out.mono ?_
      rintro e w5 ⟨rfl, rfl⟩
      go_wp2_with fail
      go_ret
      rw [hfin.out]
      exact ⟨rfl, HK.out⟩
end Go.Proofs.Ytpkkaicpbihjfaa
