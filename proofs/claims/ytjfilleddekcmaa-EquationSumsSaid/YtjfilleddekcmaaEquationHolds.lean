/- Whether any equation holds of any blocks is the document's: the law's walk. Conditions: lengths that memory bears. -/
import Derived.Test.YtjfilleddekcmaaSpeaks15
import Derived.Test.YtjfilleddekcmaaLaw15Big
import Derived.Test.YtjfilleddekcmaaSame
import Derived.Deep.RegionHeld3
set_option linter.unusedVariables false
namespace Go.Proofs.Ytjfilleddekcmaa
open Go.RowKit

theorem eqs_one {R : Nat → Prop} {w : World} {A1 A2 : Option Addr} {c1 c2 : Nat} {x : EqV} (h1 : IntsIn R w A1 x.of) (h2 : BytesIn R w A2 x.val) (l1 : x.of.length ≤ c1) (l2 : x.val.length ≤ c2) (n1 : A1 = none → c1 = 0) (n2 : A2 = none → c2 = 0) :
    EqsIn (fun b => R b ∨ b = w.heap.size) (w.alloc (.cells #[.slice A1 x.of.length c1, .slice A2 x.val.length c2] 29)) (some ⟨w.heap.size, 0, none⟩) [x] := by
  have hk := (Keeps.refl NoB w).alloc (.cells #[.slice A1 x.of.length c1, .slice A2 x.val.length c2] 29)
  have hb := box_two w (.slice A1 x.of.length c1) (.slice A2 x.val.length c2) 29
  refine ⟨by simp, fun _ => ⟨w.heap.size, 0, rfl, .inr rfl, fun j hj => ?_⟩⟩
  match j, hj with
  | 0, _ => exact ⟨_, _, hb.1, hb.2, ⟨A1, c1, rfl, l1, n1, (h1.keeps hk (fun _ _ h => h)).mono (fun b _ h => .inl h)⟩, ⟨A2, c2, rfl, l2, n2, (h2.keeps hk (fun _ _ h => h)).mono (fun b _ h => .inl h)⟩⟩
set_option maxHeartbeats 4000000 in
set_option maxRecDepth 20000 in
theorem equationHolds_calls (is : List Int) (val : List UInt8) (bs : List (List UInt8)) (ks : List Int) (A1 A2 A3 K : Option Addr) (c1 c2 c3 ck : Nat) (w : World) (hi : IntsAt w .i64 A1 is) (l1 : is.length ≤ c1) (n1 : A1 = none → c1 = 0) (hv : BytesIn (fun _ => True) w A2 val) (l2 : val.length ≤ c2) (n2 : A2 = none → c2 = 0)
    (hb : RowsIn (fun _ => True) w A3 bs) (hk : IntsAt w .i64 K ks) (m1 : is.length ≤ 140737488355328) (m2 : val.length ≤ 140737488355328) :
    Calls Try.prog 6 #[.agg #[.slice A1 is.length c1, .slice A2 val.length c2], .slice A3 bs.length c3, .slice K ks.length ck] w fun e w' => e = .returned (.bool true) ∧ Keeps NoB w w' := by
  have hbl := hb.len
  have hkl := hk.len
  have hu := Try.underlying25
  obtain ⟨w0, hw0⟩ : ∃ w0, (w.alloc (.cells #[.slice A1 is.length c1, .slice A2 val.length c2] 29)).alloc (.cells #[.slice K ks.length ck] 25) = w0 := ⟨_, rfl⟩
  have HK0 := hid (show Keeps NoB w w0 by rw [← hw0]; exact ((Keeps.refl NoB w).alloc _).alloc _)
  have HE := hid (show w0.cell? ⟨w.heap.size, 0, none⟩ = some (.slice A1 is.length c1) ∧ w0.cell? ⟨w.heap.size, 1, none⟩ = some (.slice A2 val.length c2) by
    rw [← hw0]
    have b1 := box_two w (.slice A1 is.length c1) (.slice A2 val.length c2) 29
    exact ⟨((Keeps.refl NoB _).alloc _).cell b1.1 (fun h => h), ((Keeps.refl NoB _).alloc _).cell b1.2 (fun h => h)⟩)
  have HKB := hid (show w0.cell? ⟨w.heap.size + 1, 0, none⟩ = some (.slice K ks.length ck) by
    rw [← hw0]
    have := cell_one (w.alloc (.cells #[.slice A1 is.length c1, .slice A2 val.length c2] 29)) (.slice K ks.length ck) 25
    rwa [World.size_alloc] at this)
  have HI := hid (hi.kept HK0.out)
  have HV := hid (hv.kept HK0.out)
  have HB := hid (hb.kept HK0.out)
  have HKS := hid (hk.kept HK0.out)
  have HT := hid (leftN_take is ks)
  have HLE := hid (show ∀ k, (leftN (is.take k) ks).length ≤ is.length from fun k => Nat.le_trans (leftN_le _ _) (by rw [List.length_take]; omega))
  have hl1 := hid l1
  have hl2 := hid l2
  have hn1 := hid n1
  have hn2 := hid n2
  have hm1 := hid m1
  have hm2 := hid m2
  clear hi hv hb hk l1 l2 n1 n2 m1 m2
  obtain ⟨n, hn⟩ : ∃ n, is.length = n := ⟨_, rfl⟩
  obtain ⟨m, hm⟩ : ∃ m, val.length = m := ⟨_, rfl⟩
  obtain ⟨q, hq⟩ : ∃ q, bs.length = q := ⟨_, rfl⟩
  obtain ⟨r, hr⟩ : ∃ r, ks.length = r := ⟨_, rfl⟩
  rw [hn] at HE hw0 hl1 hm1 HLE ⊢
  rw [hm] at HE hw0 hl2 hm2 ⊢
  rw [hq] at hbl ⊢
  rw [hr] at HKB hw0 hkl ⊢
  have hnn := hid hn
  have hmm := hid hm
  have hqq := hid hq
  have hrr := hid hr
  clear hn hm hq hr
  go_enter Try.func6, Try.ntmps6
  go_wp2_with fail
  refine (speaks15_calls w0).mono ?_
  rintro e w1 ⟨rfl, hk1⟩
  clear hw0
  have HE1 := hid (show w1.cell? ⟨w.heap.size, 0, none⟩ = some (.slice A1 n c1) ∧ w1.cell? ⟨w.heap.size, 1, none⟩ = some (.slice A2 m c2) from ⟨hk1.cell HE.out.1 (fun h => h), hk1.cell HE.out.2 (fun h => h)⟩)
  have HK1 := hid hk1
  have e0 := HE1.out.1
  have e1 := HE1.out.2
  clear hk1
  go_wp2_with fail
  have HBIG := hid (big_calls [⟨is, val⟩] _ 1 _ _ (eqs_one (A1 := A1) (A2 := A2) (c1 := c1) (c2 := c2) (x := ⟨is, val⟩) ⟨HI.out.kept HK1.out, fun _ _ _ _ => trivial⟩ (HV.out.kept HK1.out) (by rw [hnn.out]; exact hl1.out) (by rw [hmm.out]; exact hl2.out) hn1.out hn2.out) (by
    intro e he
    obtain rfl := List.mem_singleton.1 he
    exact ⟨by rw [hnn.out]; exact hm1.out, by rw [hmm.out]; exact hm2.out⟩))
  rw [show (⟨is, val⟩ : EqV).of.length = n from hnn.out, show (⟨is, val⟩ : EqV).val.length = m from hmm.out] at HBIG
  refine HBIG.out.mono ?_
  rintro e w2 ⟨b, rfl, hsm, hk2⟩
  have HK2 := hid ((HK1.out.alloc _).fresh hk2)
  clear hk2
  cases b with
  | true =>
    go_wp2_with fail
    go_ret
    exact ⟨rfl, HK0.out.fresh HK2.out⟩
  | false =>
    have hsm := hsm rfl
    have hn60 : n ≤ 300 := by have := hsm.of; rw [show (ofsE [(⟨is, val⟩ : EqV)]).length = is.length by simp [ofsE], hnn.out] at this; exact this
    have hm60 : m ≤ 60 := by have := hsm.val ⟨is, val⟩ (List.mem_singleton.2 rfl); rw [show (⟨is, val⟩ : EqV).val.length = m from hmm.out] at this; exact this
    clear hsm HBIG
    have e0 := HK2.out.cell HE.out.1 (fun h => h)
    have e1 := HK2.out.cell HE.out.2 (fun h => h)
    have ek := HK2.out.cell HKB.out (fun h => h)
    by_cases hq60 : 60 < q
    · have d1 : decide ((60 : Int) < (q : Int)) = true := decide_eq_true (by omega)
      go_wp2_with fail
      go_ret
      exact ⟨rfl, HK0.out.fresh HK2.out⟩
    · have d1 : decide ((60 : Int) < (q : Int)) = false := decide_eq_false (by omega)
      by_cases hr60 : 60 < r
      · have d2 : decide ((60 : Int) < (r : Int)) = true := decide_eq_true (by omega)
        go_wp2_with fail
        go_ret
        exact ⟨rfl, HK0.out.fresh HK2.out⟩
      · have d2 : decide ((60 : Int) < (r : Int)) = false := decide_eq_false (by omega)
        have HS2 := hid (Nat.le_trans HK0.out.size HK2.out.size)
        go_wp2_with fail
        clear e0 e1 ek
        go_loopw [7, 29] (fun v7 v29 wr => ∃ k : Nat, k ≤ n ∧ v29 = .int .i64 (k : Int) ∧ Hid (OwnInts wr w0.heap.size .i64 3 v7 (leftN (is.take k) ks)) ∧ Hid (Keeps NoB w0 wr)) (fun _ v29 _ => n - (intOf v29).toNat)
        case atStart => exact ⟨0, Nat.zero_le _, rfl, OwnInts.nil _ _ _ _, HK2⟩
        case round =>
          obtain ⟨k, hk, rfl, HO, HK⟩ := hrel
          by_cases hlt : k < n
          · obtain ⟨b1, o1, rfl, hc1⟩ := HI.out.get (by rw [hnn.out]; omega)
            have c1 := HK.out.cell (hc1 k (by rw [hnn.out]; exact hlt)) (fun h => h)
            have ek := HK.out.cell HKB.out (fun h => h)
            have p0 : (0 : Int) ≤ (k : Int) := by omega
            have p1 : (k : Int) < (n : Int) := by omega
            have ht := hid (HT.out k (by rw [hnn.out]; exact hlt))
            have hle := HLE.out k
            clear hc1
            generalize gi is k = i at *
            go_wp2_with fail
            have HC := hid (has_calls ks i K ck wr (HKS.out.kept HK.out))
            rw [hrr.out] at HC
            refine HC.out.mono ?_
            rintro e w5 ⟨rfl, HK5⟩
            have HO2 := hid (HO.out.kept HK5)
            have HK5 := hid (HK.out.fresh HK5)
            by_cases hx : i ∈ ks
            · rw [decide_eq_true hx]
              have ht2 := hid (show leftN (is.take (k + 1)) ks = leftN (is.take k) ks by rw [ht.out, if_pos hx, List.append_nil])
              clear hx
              go_wp2_with fail
              go_roundw
              case rel => exact ⟨k + 1, by omega, by go_num, by rw [ht2.out]; exact HO2, HK5⟩
              case measure => simp [intOf]; omega
            · rw [decide_eq_false hx]
              have ht2 := hid (show leftN (is.take (k + 1)) ks = leftN (is.take k) ks ++ [i] by rw [ht.out, if_neg hx])
              clear hx
              go_wp2_with (at_builtin; go_must (refine wpList_app1 _ rfl _ _ 25 rfl w0.heap.size 3 .i64 8 hu info_int _ _ rfl (OwnInts.alloc HO2.out _) _ _ _ rfl (cell_one _ _ _) (by omega) (by omega) (by have := HK5.out.size; simp at this ⊢; omega) ?_); intro v4 w4 hown4 hgr4 _)
              go_roundw
              case rel => exact ⟨k + 1, by omega, by go_num, by rw [ht2.out]; exact hid hown4, hid ((HK5.out.alloc _).own (OwnInts.alloc HO2.out _) hgr4 (Nat.le_refl _))⟩
              case measure => simp [intOf]; omega
          · obtain rfl : k = n := by omega
            have hall : is.take k = is := by rw [← hnn.out, List.take_length]
            rw [hall] at HO
            clear hall
            have e0 := HK.out.cell HE.out.1 (fun h => h)
            have e1 := HK.out.cell HE.out.2 (fun h => h)
            obtain ⟨A7, c7, rfl, _, hat7⟩ := HO.out.reads
            have HAT7 := hid hat7
            clear hat7
            go_wp2_with fail
            have HL := hid (eleft_calls is ks A1 A2 K c1 m c2 ck (w.heap.size + 1) wr (HI.out.kept HK.out) (by rw [hnn.out]; omega) (by rw [hrr.out]; exact HK.out.cell HKB.out (fun h => h)) (HKS.out.kept HK.out))
            rw [hnn.out] at HL
            refine HL.out.mono ?_
            rintro e w5 ⟨v10, rfl, hown5, hk5⟩
            obtain ⟨A5, c5, rfl, _, hat5⟩ := hown5.reads
            have HAT5 := hid hat5
            have HAT7 := hid (HAT7.out.kept hk5)
            have HK5 := hid (HK.out.fresh hk5)
            have e0 := HK5.out.cell HE.out.1 (fun h => h)
            have e1 := HK5.out.cell HE.out.2 (fun h => h)
            have hsm := hid (show sameN (leftN is ks) (leftN is ks) = 1 from if_pos rfl)
            have HQ := hid (fun (w' : World) (h : Keeps NoB w0 w') => show _ ∧ _ from ⟨eholds_calls is val bs A1 A2 A3 c1 c2 c3 (fun _ => True) w' (HI.out.kept h) hn2.out (HV.out.kept h) (HB.out.kept h) (by rw [hnn.out]; omega) (by rw [hmm.out]; omega), rholds_calls is val bs A1 A2 A3 c1 c2 c3 (fun _ => True) w' (HI.out.kept h) (by rw [hmm.out]; exact hl2.out) hn2.out (HV.out.kept h) (HB.out.kept h) (by rw [hnn.out]; omega) (by rw [hmm.out]; omega)⟩)
            rw [hnn.out, hmm.out, hqq.out] at HQ
            obtain ⟨hb9, hhb9⟩ : ∃ b, holdsE is val bs = b := ⟨_, rfl⟩
            rw [hhb9] at HQ
            generalize leftN is ks = lf at *
            clear hown5 hat5 hk5 hhb9 HL
            go_wp2_with fail
            have HKr := HK5
            go_region_held3 (fun w' => w'.cell? ⟨w.heap.size, 0, none⟩ = some (.slice A1 k c1) ∧ w'.cell? ⟨w.heap.size, 1, none⟩ = some (.slice A2 m c2)) (first | (exact ⟨HKr.out.cell HE.out.1 (fun h => h), HKr.out.cell HE.out.2 (fun h => h)⟩) | (exact ⟨HKr.out.drew.cell HE.out.1 (fun h => h), HKr.out.drew.cell HE.out.2 (fun h => h)⟩) | go_keep) (first
              | (go_at_call 23; refine ((HQ.out _ (by first | exact HKr.out | exact HKr.out.drew)).1).mono ?_; rintro e w6 ⟨rfl, HK6⟩; have HAT5 := hid (HAT5.out.kept ((Keeps.refl NoB w5).drew.fresh HK6)); have HAT7 := hid (HAT7.out.kept ((Keeps.refl NoB w5).drew.fresh HK6)); have HKr := hid (show Keeps NoB w0 w6 by first | exact HKr.out.fresh HK6 | exact HKr.out.drew.fresh HK6))
              | (go_at_call 29; refine ((HQ.out _ (by first | exact HKr.out | exact HKr.out.drew)).2).mono ?_; rintro e w7 ⟨rfl, HK7⟩; have HAT5 := hid (HAT5.out.kept HK7); have HAT7 := hid (HAT7.out.kept HK7); have HKr := hid (show Keeps NoB w0 w7 by first | exact HKr.out.fresh HK7 | exact HKr.out.drew.fresh HK7))
              | (go_at_call 20; refine (same_calls lf lf A5 A7 c5 c7 _ HAT5.out HAT7.out).mono ?_; rintro e w8 ⟨rfl, HK8⟩; rw [hsm.out]; have HKr := hid (show Keeps NoB w0 w8 by first | exact HKr.out.fresh HK8 | exact HKr.out.drew.fresh HK8)))
            all_goals go_wp2_with fail
            all_goals go_ret
            all_goals exact ⟨rfl, HK0.out.fresh HKr.out⟩
end Go.Proofs.Ytjfilleddekcmaa
