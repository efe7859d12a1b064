/- The reference of the graph: Add walked. Condition: lengths are small. -/
import Derived.Test.YtnoooeeciebhfaaRef19Add
set_option linter.unusedVariables false
namespace Go.Proofs.Ytnoooeeciebhfaa
open Go.RowKit

def okR (es : List EqN) (n : Int) (bs : List Int) : Bool := !decide (n ∈ nums es) && !bs.isEmpty
def addR (es : List EqN) (n : Int) (bs : List Int) : List EqN := if okR es n bs then addN es n bs else es
theorem put_mid {R : Nat → Prop} {lo d5 m c6 : Nat} {A5 A6 : Option Addr} {w1 wr w6 : World} {es : List EqN} {n : Int} {l : List Int} (HK : Keeps NoB w1 wr) (HO : OwnInts wr w1.heap.size .i64 3 (.slice A5 lo d5) l)
    (hown6 : OwnEqN (fun b => R b ∧ b < w1.heap.size) w6 w1.heap.size (.slice A6 m c6) es) (hgr6 : (wr.alloc (.cells #[] 79)).grownBy w6 (Value.slice (some ⟨wr.heap.size, 0, none⟩) 0 0).ownBlock)
    (hat6 : (Value.slice A6 m c6).ownBlock = (Value.slice (some ⟨wr.heap.size, 0, none⟩) 0 0).ownBlock ∨ (Value.slice A6 m c6).ownBlock = some (wr.alloc (.cells #[] 79)).heap.size) :
    Keeps NoB w1 w6 ∧ OwnEqN (fun b => R b ∨ w1.heap.size ≤ b) (w6.alloc (.cells #[.int .i64 n, .slice A5 lo d5] 79)) w1.heap.size (.slice A6 m c6) es ∧
    PairN (fun b => (R b ∨ w1.heap.size ≤ b) ∧ (Value.slice A6 m c6).ownBlock ≠ some b) (w6.alloc (.cells #[.int .i64 n, .slice A5 lo d5] 79)) (.int .i64 n) (.slice A5 lo d5) ⟨n, l⟩ := by
  have hlt : ∀ b, (Value.slice A5 lo d5).ownBlock = some b → b < wr.heap.size := fun b hb => (HO.base_le b hb).2
  have hsz := HK.size
  have hke := (Keeps.refl NoB wr).alloc (.cells #[] 79)
  have hk6 : Keeps NoB w1 w6 := (HK.fresh hke).grown hgr6 (fun i e hi => by
    have h2 : i = wr.heap.size := by simpa [Value.ownBlock] using e
    omega)
  have hka := (Keeps.refl NoB w6).alloc (.cells #[.int .i64 n, .slice A5 lo d5] 79)
  refine ⟨hk6, (hown6.kept hka).mono (fun b _ h1 => .inl h1.1), rfl, ?_⟩
  have hn6 := ((OwnInts.nums HO).keeps hke (fun _ _ h => h)).keeps (Keeps.ofGrown hgr6) (fun b hb e => by
    have h1 := hlt b hb
    have h2 : b = wr.heap.size := by simpa [Value.ownBlock] using e
    omega)
  refine (hn6.keeps hka (fun _ _ h => h)).mono (fun b h1 hb => ⟨.inr (HO.base_le b hb).1, fun e => ?_⟩)
  have h2 := hlt b hb
  have hsa : (wr.alloc (.cells #[] 79)).heap.size = wr.heap.size + 1 := by simp
  rcases hat6 with h3 | h3
  · have h4 := e.symm.trans h3
    have h5 : b = wr.heap.size := by simpa [Value.ownBlock] using h4
    omega
  · have h4 := e.symm.trans h3
    rw [hsa] at h4
    injection h4 with h4
    omega
set_option maxHeartbeats 1600000 in
set_option maxRecDepth 20000 in
theorem radd_calls (es : List EqN) (n : Int) (bs : List Int) (A Ab : Option Addr) (c cb : Nat) (R : Nat → Prop) (w : World) (h : EqsN R w A es) (hA : A = none → c = 0) (hm : es.length ≤ 1000000) (hat : IntsAt w .i64 Ab bs) (hb : bs.length ≤ 1000000) :
    Calls Try.prog 19 #[.slice A es.length c, .int .i64 n, .slice Ab bs.length cb] w fun e w' => ∃ A' c', e = .returned (.tuple #[.slice A' (addR es n bs).length c', .bool (okR es n bs)]) ∧ (A' = none → c' = 0) ∧ EqsN (fun b => R b ∨ w.heap.size ≤ b) w' A' (addR es n bs) ∧ Keeps NoB w w' := by
  have HE := hid h.lt
  have HAN := hid hA
  have HFC := hid (find19_calls es n A c R w h hm)
  have HB := hid hat
  have HIL := hid (fun k => (insAll_spec (bs.take k)).2.2)
  clear h hA hat
  obtain ⟨m, hm1⟩ : ∃ m, es.length = m := ⟨_, rfl⟩
  obtain ⟨q, hq1⟩ : ∃ q, bs.length = q := ⟨_, rfl⟩
  have HLR := hid (show okR es n bs = false → (addR es n bs).length = m from fun h => by unfold addR; rw [h]; exact hm1)
  rw [hm1] at hm HFC ⊢
  rw [hq1] at hb ⊢
  have HM := hid hm1
  have HQ := hid hq1
  clear hm1 hq1
  have hue := Try.underlying38
  have hub := Try.underlying27
  have dq : ((q : Int) = 0) = (q = 0) := propext (by omega)
  go_enter Try.func19, Try.ntmps19
  go_wp2_with fail
  refine HFC.out.mono ?_
  rintro e w1 ⟨r, rfl, hr, rfl⟩
  have HF := hid hr
  clear hr HFC
  have HEA := hid (show okR es n bs = false → EqsN (fun b => R b ∨ w1.heap.size ≤ b) w1 A (addR es n bs) from fun h => by unfold addR; rw [h]; exact HE.out.mono (fun _ _ h => .inl h.1))
  by_cases hin : n ∈ nums es
  · have hr0 := HF.out.2 hin
    have HOK := hid (show okR es n bs = false by unfold okR; rw [decide_eq_true hin]; rfl)
    have d1 : decide (0 ≤ r) = true := decide_eq_true hr0
    clear dq
    go_wp2_with fail
    go_ret2
    rw [HOK.out, HLR.out HOK.out]
    exact ⟨A, c, rfl, HAN.out, HEA.out HOK.out, Keeps.refl _ _⟩
  · have hr0 : ¬ 0 ≤ r := fun h => hin (HF.out.1 h)
    have d1 : decide (0 ≤ r) = false := decide_eq_false hr0
    by_cases hq0 : q = 0
    · have HOK := hid (show okR es n bs = false by unfold okR; rw [List.length_eq_zero_iff.1 (HQ.out.trans hq0)]; simp)
      subst hq0
      go_wp2_with fail
      go_ret2
      rw [HOK.out, HLR.out HOK.out]
      exact ⟨A, c, rfl, HAN.out, HEA.out HOK.out, Keeps.refl _ _⟩
    · have HOK := hid (show okR es n bs = true by
        unfold okR
        rw [decide_eq_false hin]
        cases bs with
        | nil => exact absurd HQ.out.symm hq0
        | cons y l => rfl)
      have dq0 : ((q : Int) == (0 : Int)) = false := beq_false_of_ne (by omega)
      clear dq
      go_wp2_with fail
      clear HEA HLR hin hr0 d1 HF dq0
      have HO1 := hid (OwnInts.empty w1 w1.heap.size .i64 3 (Nat.le_refl _))
      have HK1 := hid ((Keeps.refl NoB w1).alloc (.cells #[] 3))
      generalize hw2 : w1.alloc (.cells #[] 3) = w2 at *
      clear hw2
      go_loopw [8, 9] (fun v8 v9 wr => ∃ k : Nat, k ≤ q ∧ v9 = .int .i64 (k : Int) ∧ Hid (OwnInts wr w1.heap.size .i64 3 v8 (insAll (bs.take k))) ∧ Hid (Keeps NoB w1 wr)) (fun _ v9 _ => q - (intOf v9).toNat)
      case atStart => exact ⟨0, Nat.zero_le _, rfl, HO1, HK1⟩
      case round =>
        clear HO1 HK1
        obtain ⟨k, hk, rfl, HO, HK⟩ := hrel
        by_cases hlt : k < q
        · obtain ⟨b, off, rfl, hc⟩ := HB.out.get (by rw [HQ.out]; omega)
          have c1 := hc k (by rw [HQ.out]; exact hlt)
          have p0 : (0 : Int) ≤ (k : Int) := by omega
          have p1 : (k : Int) < (q : Int) := by omega
          have hil := HIL.out k
          have hlk : (bs.take k).length = k := by rw [List.length_take, HQ.out]; omega
          have HT := hid (show insAll (bs.take (k + 1)) = if gi bs k ∈ insAll (bs.take k) then insAll (bs.take k) else ins (gi bs k) (insAll (bs.take k)) by rw [take_snoc (by rw [HQ.out]; exact hlt), insAll_snoc])
          rw [hlk] at hil
          clear hc hlk
          generalize gi bs k = y at *
          obtain ⟨ia, hia⟩ : ∃ ia, insAll (bs.take k) = ia := ⟨_, rfl⟩
          rw [hia] at HT HO hil
          clear hia
          obtain ⟨A5, d5, hv5, _, hat5⟩ := HO.out.reads
          have HHC := hid (has_calls ia y A5 d5 wr hat5)
          have HIC := hid (fun (w2 : World) (hk2 : Keeps NoB wr w2) => insert_calls ia y A5 d5 w2 (hat5.kept hk2) (by omega))
          obtain ⟨lo, hlo⟩ : ∃ lo, ia.length = lo := ⟨_, rfl⟩
          rw [hlo] at hv5 HHC HIC
          have c2 := HK.out.cell c1 (fun h => h)
          clear hlo hat5 hil c1
          subst hv5
          by_cases hmem : y ∈ ia
          · rw [decide_eq_true hmem] at HHC
            rw [if_pos hmem] at HT
            go_wp2_with fail
            refine HHC.out.mono ?_
            rintro e w3 ⟨rfl, hk3⟩
            have HO3 := hid (show OwnInts w3 w1.heap.size .i64 3 (.slice A5 lo d5) (insAll (bs.take (k + 1))) by rw [HT.out]; exact HO.out.kept hk3)
            have HK3 := hid (HK.out.fresh hk3)
            clear hk3 HHC HIC
            go_wp2_with fail
            go_roundw
            case rel => exact ⟨k + 1, by omega, by go_num, HO3, HK3⟩
            case measure => simp [intOf]; omega
          · rw [decide_eq_false hmem] at HHC
            rw [if_neg hmem] at HT
            go_wp2_with fail
            refine HHC.out.mono ?_
            rintro e w3 ⟨rfl, hk3⟩
            have HIC3 := hid (HIC.out w3 hk3)
            have HK3 := hid (HK.out.fresh hk3)
            have c3 := hk3.cell c2 (fun h => h)
            clear hk3 HHC HIC c2
            go_wp2_with fail
            refine HIC3.out.mono ?_
            rintro e w4 ⟨v4, rfl, ho4, hk4⟩
            have HO4 := hid (show OwnInts w4 w1.heap.size .i64 3 v4 (insAll (bs.take (k + 1))) by rw [HT.out]; exact OwnInts.lower ho4 HK3.out.size)
            have HK4 := hid (HK3.out.fresh hk4)
            clear ho4 hk4 HIC3
            go_wp2_with fail
            go_roundw
            case rel => exact ⟨k + 1, by omega, by go_num, HO4, HK4⟩
            case measure => simp [intOf]; omega
        · obtain rfl : k = q := by omega
          have ht : bs.take k = bs := by rw [← HQ.out]; exact List.take_length
          rw [ht] at HO
          obtain ⟨A5, d5, hv5, hd5, hat5⟩ := HO.out.reads
          obtain ⟨lo, hlo⟩ : ∃ lo, (insAll bs).length = lo := ⟨_, rfl⟩
          rw [hlo] at hv5
          clear hlo
          subst hv5
          have HN5 := hid (OwnInts.nums HO.out)
          have hsw := HK.out.size
          have HOE := hid (OwnEqN.empty (fun b => R b ∧ b < w1.heap.size) wr w1.heap.size hsw)
          have HKE := hid ((Keeps.refl NoB wr).alloc (.cells #[] 79))
          have HCE2 := hid (show CellsN (fun b => R b ∧ b < w1.heap.size) (wr.alloc (.cells #[] 79)) A es from EqsN.cellsN ((HE.out.kept (HK.out.fresh HKE.out)).mono (fun b _ hb => hb)))
          have HLT := hid (fun b (hb : (Value.slice A5 lo d5).ownBlock = some b) => (HO.out.base_le b hb).2)
          have HAD := hid (show addR es n bs = es ++ [⟨n, insAll bs⟩] by unfold addR; rw [HOK.out]; rfl)
          have tk1 : True := trivial
          have tk2 : True := trivial
          clear ht hat5 hd5
          go_wp2_with (first
            | (at_builtin; have _t := tk1; go_must (refine wpList_appEqN rfl _ _ 38 (fun b => R b ∧ b < w1.heap.size) rfl w1.heap.size hue (.slice (some ⟨wr.heap.size, 0, none⟩) 0 0) [] rfl HOE.out (fun b hb => hb.2) A m c es rfl HM.out HAN.out HCE2.out 0 rfl (by omega) (by simp; omega) ?_); intro A6 c6 w6 hown6 hgr6 hat6; rw [Nat.zero_add, List.nil_append] at hown6; rw [Nat.zero_add] at hat6; have hpm := put_mid (n := n) HK.out HO.out hown6 hgr6 hat6.2; have HK6 := hid hpm.1; have hs6 := HK6.out.size; have HOA6 := hid hpm.2.1; have HP6 := hid hpm.2.2; have HKA6 := hid ((Keeps.refl NoB w6).alloc (.cells #[.int .i64 n, (.slice A5 lo d5)] 79)); clear hpm; have hcc := cells2 (heap_alloc_new w6 (.cells #[.int .i64 n, (.slice A5 lo d5)] 79)); have HC1 := hid hcc.1; have HC2 := hid hcc.2; clear hcc hown6 hgr6 hat6 tk1 _t)
            | (at_builtin; have _t := tk2; go_must (refine wpList_app1EqN rfl _ _ 38 rfl w1.heap.size hue (.slice A6 m c6) es rfl HOA6.out _ _ _ _ ⟨n, insAll bs⟩ rfl HC1.out HC2.out HP6.out m HM.out (by omega) (by simp; omega) ?_); intro A9 c9 w9 hown9 hgr9 hat9; have HO9 := hid hown9; have HK9 := hid ((HK6.out.fresh HKA6.out).grown hgr9 (fun i e hi => by have := (HOA6.out.base_le i e.symm).1; omega)); clear hown9 hgr9 hat9 tk2 _t))
          go_ret2
          rw [HOK.out, HAD.out]
          obtain ⟨A7, c7, hv7, _, hz7, hq7⟩ := HO9.out.reads (by rw [List.length_append, HM.out]; simp; omega)
          have hlen : (es ++ [(⟨n, insAll bs⟩ : EqN)]).length = m + 1 := by rw [List.length_append, HM.out]; rfl
          rw [hlen] at hv7 ⊢
          injection hv7 with e1 _ e3
          subst e1 e3
          exact ⟨_, _, rfl, hz7, hq7.mono (fun b _ h => h.elim id (fun e => .inr (HO9.out.base_le b e).1)), HK9.out⟩
end Go.Proofs.Ytnoooeeciebhfaa
