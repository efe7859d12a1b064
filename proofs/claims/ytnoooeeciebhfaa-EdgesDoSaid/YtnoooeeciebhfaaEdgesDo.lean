/- The law EdgesDo: its walk. Conditions: lengths that memory bears. UNDER WAY. -/
import Derived.Test.YtnoooeeciebhfaaSpeaks19
import Derived.Test.YtnoooeeciebhfaaDoSt
import Derived.IntWalk
import Derived.Deep.CutBlock
import Derived.Deep.CutRange
set_option linter.unusedVariables false
namespace Go.Proofs.Ytnoooeeciebhfaa
open Go.RowKit Go.ChangeShapes

set_option maxHeartbeats 8000000 in
set_option maxRecDepth 20000 in
theorem edgesDo_calls (acts : List ActV) (bq : Int) (A : Option Addr) (ca : Nat) (w : World) (ha : ActsAt w A acts) (hlen : acts.length ≤ 140737488355328) (hmx : ∀ e ∈ acts, e.blocks.length ≤ 140737488355328) (hwf : ∀ e ∈ acts, (Lit.int .i64 e.num).wf = true ∧ ∀ n ∈ e.blocks, (Lit.int .i64 n).wf = true) (hwb : (Lit.int .i64 bq).wf = true) :
    Calls Try.prog 5 #[.slice A acts.length ca, .int .i64 bq] w fun e w' => e = .returned (.bool true) ∧ Keeps NoB w w' := by
  have HO := hid ha
  have HWF := hid (fun k (hk : k < acts.length) => hwf (ga acts k) (ga_mem hk))
  have HMX := hid (fun k (hk : k < acts.length) => hmx (ga acts k) (ga_mem hk))
  have HWB := hid hwb
  have hol := ha.1
  clear ha hwf hmx hwb
  obtain ⟨m, hm⟩ : ∃ m, acts.length = m := ⟨_, rfl⟩
  rw [hm] at hol hlen HWF HMX ⊢
  have HM := hid hm
  clear hm
  go_enter Try.func5, Try.ntmps5
  go_wp2_with fail
  refine (speaks19_calls w).mono ?_
  rintro e w1 ⟨rfl, hk1⟩
  have HK1 := hid hk1
  clear hk1
  by_cases hm60 : 150 < m
  · have d1 : decide ((150 : Int) < (m : Int)) = true := decide_eq_true (by omega)
    go_wp2_with fail
    go_ret
    exact ⟨rfl, HK1.out⟩
  · have d1 : decide ((150 : Int) < (m : Int)) = false := decide_eq_false (by omega)
    go_wp2_with fail
    clear d1
    have hst := hid (show DoSt w w1.heap.size 0 [] 0 0 none 0 (w1.alloc (.cells #[.map none, .map none, .int .i64 0, .int .i64 0] 26)) from ⟨GOk.zero w1, GoodN.nil, ⟨by simp, fun h => absurd h (by simp)⟩, fun _ => rfl, Nat.le_refl _, (fun e he => by cases he), (fun e he => by cases he), HK1.out.alloc _, by simp, HK1.out.size⟩)
    generalize hw3 : w1.alloc (.cells #[.map none, .map none, .int .i64 0, .int .i64 0] 26) = w3 at *
    obtain ⟨G, hG⟩ : ∃ G, w1.heap.size = G := ⟨_, rfl⟩
    rw [hG] at hst
    rw [hG]
    clear hw3 HK1 hG
    go_loopw [6, 7, 9, 10, 11, 12, 13, 21] (fun v6 v7 _ _ _ _ _ v21 wr => ∃ (k : Nat) (es : List EqN) (c p : Int) (A' : Option Addr) (d : Nat), k ≤ m ∧ v21 = .int .i64 (k : Int) ∧ v6 = .slice A' es.length d ∧ v7 = .int .i64 p ∧ Hid (DoSt w G k es c p A' d wr)) (fun _ _ _ _ _ _ _ v21 _ => m - (intOf v21).toNat)
    case atStart => exact ⟨0, [], 0, 0, none, 0, Nat.zero_le _, rfl, rfl, rfl, hst⟩
    case round =>
      clear hst
      obtain ⟨k, es, c, p, A', d, hk, rfl, rfl, rfl, HS⟩ := hrel
      by_cases hlt : k < m
      · obtain ⟨b6, o6, rfl, hc6⟩ := HO.out.2 (by rw [HM.out]; omega)
        obtain ⟨ck0, cn0, A2, c2, cb0, hb1, hb2, hat⟩ := hc6 k (by rw [HM.out]; exact hlt)
        have hwa := HWF.out k hlt
        have hma := HMX.out k hlt
        have HAT := hid hat
        have HA2 := hid hb2
        have ck1 := HS.out.k.cell ck0 (fun h => h)
        have cn1 := HS.out.k.cell cn0 (fun h => h)
        have cb1 := HS.out.k.cell cb0 (fun h => h)
        have p0 : (0 : Int) ≤ (k : Int) := by omega
        have p1 : (k : Int) < (m : Int) := by omega
        have hlo := HS.out.lo
        have hhi := HS.out.hi
        have hesl := HS.out.len
        clear hc6 hat hb2 hb1 ck0 cn0 cb0
        generalize ga acts k = a at *
        obtain ⟨kd, x, bs⟩ := a
        have HWX := hid hwa.1
        have HWS := hid hwa.2
        clear hwa
        obtain ⟨lb, hlb⟩ : ∃ lb, bs.length = lb := ⟨_, rfl⟩
        have ck : wr.cell? ⟨b6, o6 + k * 3, none⟩ = some (.int .i64 kd) := ck1
        have cn : wr.cell? ⟨b6, o6 + k * 3 + 1, none⟩ = some (.int .i64 x) := cn1
        have cb : wr.cell? ⟨b6, o6 + k * 3 + 2, none⟩ = some (.slice A2 bs.length c2) := cb1
        clear ck1 cn1 cb1
        have hmb : bs.length ≤ 140737488355328 := hma
        clear hma
        rw [hlb] at cb hmb
        have HLB := hid hlb
        clear hlb
        obtain ⟨le, hle⟩ : ∃ le, es.length = le := ⟨_, rfl⟩
        rw [hle] at hesl
        rw [hle]
        have HLE := hid hle
        clear hle
        by_cases h30 : 30 < lb
        · have d1 : decide ((30 : Int) < (lb : Int)) = true := decide_eq_true (by omega)
          go_wp2_with fail
          go_ret
          exact ⟨rfl, HS.out.k.alloc _⟩
        · have d1 : decide ((30 : Int) < (lb : Int)) = false := decide_eq_false (by omega)
          have HSB := hid (HS.out.kept ((Keeps.refl NoB wr).alloc (.cells #[.int .i64 kd, .int .i64 x, .slice A2 lb c2] 35)))
          have HBX := hid (heap_alloc_new wr (.cells #[.int .i64 kd, .int .i64 x, .slice A2 lb c2] 35))
          have hbb : wr.heap.size ≠ G := by omega
          have hcase : kd = 0 ∨ kd = 1 ∨ kd = 2 ∨ (kd ≠ 0 ∧ kd ≠ 1 ∧ kd ≠ 2) := by omega
          have hcp := HS.out.g.le
          obtain ⟨wb, hwb⟩ : ∃ wb, wr.alloc (.cells #[.int .i64 kd, .int .i64 x, .slice A2 lb c2] 35) = wb := ⟨_, rfl⟩
          have HWW := hid hwb
          clear hwb
          go_upto_block 2 with fail
          go_cut [6, 10, 11, 12, 13] from 31 to 81 (fun s6 s10 s11 s12 s13 wx => ∃ (es4 : List EqN) (c4 : Int) (A4 : Option Addr) (d4 : Nat), s6 = .slice A4 es4.length d4 ∧ Hid (DoSt w G (k + 1) es4 c4 (max p c4) A4 d4 wx) ∧ Hid (wx.heap[wr.heap.size]? = some (.cells #[.int .i64 kd, .int .i64 x, .slice A2 lb c2] 35 (0, 0))))
          case first =>
            rcases hcase with hk0 | hk1 | hk2 | ⟨hk0, hk1, hk2⟩
            case inl =>
              subst hk0
              have HRA := hid (radd_calls es x bs A' A2 d c2 _ wb (by rw [← HWW.out]; exact HSB.out.l) HS.out.z (by rw [HLE.out]; omega) (by rw [← HWW.out]; exact HAT.out.kept HSB.out.k) (by rw [HLB.out]; omega))
              rw [HLE.out, HLB.out] at HRA
              go_wp2_with fail
              rw [HWW.out] at HSB HBX ⊢
              refine HRA.out.mono ?_
              rintro e w4 ⟨A4, d4, rfl, hz4, hl4, hk4⟩
              have HAC := hid (gadd_calls G G (91 * k) (repN es) c p x bs A2 c2 w4 (HSB.out.g.kept hk4) HWX.out ((HAT.out.kept HSB.out.k).kept hk4) HWS.out (fun b off e h0 => by have := HAT.out.lt b off e h0; omega) (by have := HSB.out.hi; have := hk4.size; omega) (by rw [HLB.out]; omega))
              rw [HLB.out, (good_addR HS.out.good x bs).2] at HAC
              have HL4 := hid (hl4.mono (R' := fun b => G < b) (fun b _ h => h.elim id (fun h => by have := HSB.out.hi; omega)))
              have HBX4 := hid (hk4.heap HBX.out (fun h => h))
              have hok : okA (repN es) x bs = okR es x bs := okN es x bs
              rw [hok] at HAC
              have cq1 : w4.cell? ⟨wr.heap.size, 1, none⟩ = some (.int .i64 x) := by have := HBX4.out; simp [World.cell?, this]
              have cq2 : w4.cell? ⟨wr.heap.size, 2, none⟩ = some (.slice A2 lb c2) := by have := HBX4.out; simp [World.cell?, this]
              go_wp2_with fail
              refine HAC.out.mono ?_
              rintro e w5 ⟨rfl, hg5, hk5⟩
              have HS5 := hid (HS.out.step (by omega) hg5 (by omega) rfl (good_addR HS.out.good x bs).1 (HL4.out.gkept hk5 (fun b h => by omega)) hz4 (by have := len_addR es x bs; rw [HLE.out] at this; omega) (rest_add HS.out.rest (by rw [HLB.out]; omega)) (wf_addR HS.out.wf HWX.out) (GKeep.outer (HSB.out.k.fresh hk4) hk5 HS.out.lo) (by have := HSB.out.hi; have := hk4.size; have := Keeps.size hk5; omega))
              have HBX5 := hid (box_gkept HBX4.out hk5 hbb)
              generalize okR es x bs = t at *
              generalize addR es x bs = es4 at *
              generalize addC (repN es) x bs c = c4 at *
              clear hg5 hk5 hk4 hl4 HL4 HBX4 HAC HRA cq1 cq2 hok hz4
              go_wp2_with fail
              go_meet
              exact ⟨es4, c4, A4, d4, rfl, HS5, HBX5⟩
            case inr.inl =>
              subst hk1
              go_wp2_with fail
              rw [HWW.out] at HSB HBX ⊢
              clear HWW
              have HOF := hid (of19_calls es x A' d _ wb HSB.out.l (by rw [HLE.out]; omega) HS.out.good.one)
              have HTK := hid (fun (W : World) (hW : Keeps NoB wb W) => take19_calls es x A' d _ W (HSB.out.l.kept hW) (by rw [HLE.out]; omega) (fun e he => by have := HS.out.rest e he; omega))
              have HGT := hid (fun (W : World) (hW : Keeps NoB wb W) => gtake_calls G G (91 * k) (repN es) c p x W (HSB.out.g.kept hW) HWX.out)
              rw [repN_take HS.out.good] at HGT
              rw [HLE.out] at HOF HTK
              refine HOF.out.mono ?_
              rintro e w4 ⟨v4, rfl, ho4, hk4⟩
              obtain ⟨A3, d3, hv3, _, hat3⟩ := ho4.reads
              obtain ⟨lo, hlo⟩ : ∃ lo, (ofN es x).length = lo := ⟨_, rfl⟩
              rw [hlo] at hv3
              subst hv3
              have HBX4 := hid (hk4.heap HBX.out (fun h => h))
              have cq1 : w4.cell? ⟨wr.heap.size, 1, none⟩ = some (.int .i64 x) := by have := HBX4.out; simp [World.cell?, this]
              have HTK4 := hid (HTK.out w4 hk4)
              clear HOF HTK
              go_wp2_with fail
              refine HTK4.out.mono ?_
              rintro e w5 ⟨v5, rfl, ho5, hk5⟩
              have hln : (takeN es x).length = le := by rw [← HLE.out]; exact List.length_map ..
              have HLN := hid hln
              obtain ⟨A4, d4, hv4, _, hz4, hl4⟩ := ho5.reads (by omega)
              subst hv4
              have HL4 := hid (hl4.mono (R' := fun b => G < b) (fun b _ h => h.elim (fun h => by have := HSB.out.hi; have := hk4.size; omega) (fun e => by have h1 := (ho5.base_le b e).1; have := HSB.out.hi; have := hk4.size; omega)))
              have HGT5 := hid (HGT.out w5 (hk4.fresh hk5))
              have HBX6 := hid (hk5.heap HBX4.out (fun h => h))
              have cq2 : w5.cell? ⟨wr.heap.size, 1, none⟩ = some (.int .i64 x) := by have := HBX6.out; simp [World.cell?, this]
              have HA3 := hid (OwnInts.kept ho4 hk5)
              clear HGT hl4 ho5 cq1
              go_wp2_with fail
              refine HGT5.out.mono ?_
              rintro e w6 ⟨v6, l6, rfl, ho6, hl6, hg6, hk6⟩
              obtain rfl := keys_ofN HS.out.good hl6
              obtain ⟨A6, d6, hv6, _, hat6⟩ := ho6.reads
              rw [hlo] at hv6
              subst hv6
              have hmx : max p (c - ((ofN es x).length : Int)) = p := by omega
              have hsm : sameN (ofN es x) (ofN es x) = 1 := if_pos rfl
              have hb3 := OwnInts.gkept HA3.out hk6 (fun e => by have h1 := (HA3.out.base_le G e).1; have := HSB.out.hi; omega)
              have HSC := hid (same_calls (ofN es x) (ofN es x) A6 A3 d6 d3 w6 hat6 (by obtain ⟨A7, d7, hv7, _, hat7⟩ := hb3.reads; injection hv7 with e1 _ _; rw [e1]; exact hat7))
              rw [hlo, hsm] at HSC
              have HS5 := hid (HS.out.step (by omega) hg6 (by omega) hmx.symm (HS.out.good.take x) (HL4.out.gkept hk6 (fun b h => by omega)) hz4 (by omega) (rest_take HS.out.rest x) (wf_takeN HS.out.wf x) (GKeep.outer (HSB.out.k.fresh (hk4.fresh hk5)) hk6 HS.out.lo) (by have := HSB.out.hi; have := hk4.size; have := hk5.size; have := Keeps.size hk6; omega))
              have HBX7 := hid (box_gkept HBX6.out hk6 hbb)
              generalize c - ((ofN es x).length : Int) = c4 at *
              generalize takeN es x = es4 at *
              clear hg6 hk6 hk5 hk4 HL4 HBX4 HBX6 HGT5 cq2 hz4 hmx hln hat6 hat3 hb3 ho4 ho6 hl6 HA3 HTK4 hsm
              go_wp2_with fail
              refine HSC.out.mono ?_
              rintro e w7 ⟨rfl, hk7⟩
              have HS5 := hid (HS5.out.kept hk7)
              have HBX5 := hid (hk7.heap HBX7.out (fun h => h))
              clear hk7 HSC HBX7
              go_wp2_with fail
              go_meet
              exact ⟨es4, c4, A4, d4, by rw [HLN.out], HS5, HBX5⟩
            case inr.inr.inl =>
              subst hk2
              go_wp2_with fail
              rw [HWW.out] at HSB HBX ⊢
              clear HWW
              have HFI := hid (find19_calls es x A' d _ wb HSB.out.l (by rw [HLE.out]; omega))
              have HDR := hid (drop19_calls es x A' d _ wb HSB.out.l (by rw [HLE.out]; omega))
              have HGD := hid (fun (W : World) (hW : Keeps NoB wb W) => gdrop_calls G G (91 * k) (repN es) c p x W (HSB.out.g.kept hW) HWX.out)
              rw [repN_isSome, repN_drop HS.out.good] at HGD
              rw [HLE.out] at HFI HDR
              refine HFI.out.mono ?_
              rintro e w4 ⟨r, rfl, hr, hw4⟩
              rw [hw4]
              have hdr : decide (0 ≤ r) = decide (x ∈ nums es) := by rw [Bool.eq_iff_iff, decide_eq_true_iff, decide_eq_true_iff]; exact hr
              have cq1 : wb.cell? ⟨wr.heap.size, 1, none⟩ = some (.int .i64 x) := by have := HBX.out; simp [World.cell?, this]
              clear hr hw4 HFI
              go_wp2_with fail
              refine HDR.out.mono ?_
              rintro e w5 ⟨v5, rfl, ho5, hk5⟩
              have hln : (dropN es x).length ≤ le := by rw [← HLE.out]; exact List.length_filter_le _ _
              obtain ⟨A4, d4, hv4, _, hz4, hl4⟩ := ho5.reads (by omega)
              subst hv4
              have HL4 := hid (hl4.mono (R' := fun b => G < b) (fun b _ h => h.elim (fun h => h.1) (fun e => by have h1 := (ho5.base_le b e).1; have := HSB.out.hi; omega)))
              have HGD5 := hid (HGD.out w5 hk5)
              have HBX4 := hid (hk5.heap HBX.out (fun h => h))
              have cq2 : w5.cell? ⟨wr.heap.size, 1, none⟩ = some (.int .i64 x) := by have := HBX4.out; simp [World.cell?, this]
              clear HGD HDR hl4 ho5 cq1
              go_wp2_with fail
              refine HGD5.out.mono ?_
              rintro e w6 ⟨l6, rfl, _, hg6, hk6⟩
              have hmx : max p (c - (l6.length : Int)) = p := by omega
              have HS5 := hid (HS.out.step (by omega) hg6 (by omega) hmx.symm (HS.out.good.drop x) (HL4.out.gkept hk6 (fun b h => by omega)) hz4 (by omega) (fun e he => HS.out.rest e (List.mem_filter.1 he).1) (fun e he => HS.out.wf e (List.mem_filter.1 he).1) (GKeep.outer (HSB.out.k.fresh hk5) hk6 HS.out.lo) (by have := HSB.out.hi; have := hk5.size; have := Keeps.size hk6; omega))
              have HBX5 := hid (box_gkept HBX4.out hk6 hbb)
              generalize c - (l6.length : Int) = c4 at *
              generalize dropN es x = es4 at *
              clear hg6 hk6 hk5 HL4 HBX4 HGD5 cq2 hz4 hmx hln
              go_wp2_with fail
              go_meet
              exact ⟨es4, c4, A4, d4, rfl, HS5, HBX5⟩
            case inr.inr.inr =>
              have e0 : (kd = 0) = False := eq_false hk0
              have e1 : (kd = 1) = False := eq_false hk1
              have e2 : (kd = 2) = False := eq_false hk2
              go_wp2_with fail
              rw [HWW.out] at HSB HBX ⊢
              have HS5 := hid (HS.out.step (by omega) HSB.out.g (by omega) (show p = max p c by omega) HS.out.good HSB.out.l HS.out.z (by rw [HLE.out]; omega) HS.out.rest HS.out.wf HSB.out.k HSB.out.hi)
              have HBX5 := hid HBX.out
              go_meet
              exact ⟨es, c, A', d, by rw [HLE.out], HS5, HBX5⟩
          case rest =>
            obtain ⟨es4, c4, A4, d4, rfl, HS5, HBX5⟩ := hcut
            generalize wc = w9 at *
            have HS6 := hid (show DoSt w G (k + 1) es4 c4 (max p c4) A4 d4 w9 from HS5.out)
            have HEC := hid (edges19_calls es4 A4 d4 _ w9 HS6.out.l (by have := HS6.out.len; omega) (fun e he => by have := HS6.out.rest e he; omega))
            have hce := HS6.out.edges
            rw [← hce] at HEC
            go_wp2_with fail
            refine HEC.out.mono ?_
            rintro e w10 ⟨he, hw10⟩
            subst he
            rw [hw10]
            clear hw10 HEC hce
            have hp4 : p ≤ max p c4 := by omega
            go_wp2_with fail
            generalize max p c4 = p4 at *
            have HKr := hid (Keeps.refl NoB w9)
            have HSA := hid (fun (W : World) (h : Keeps NoB w9 W) => same19_calls G G (91 * (k + 1)) es4 c4 p4 A4 d4 _ W (HS6.out.g.kept h) HS6.out.good (HS6.out.l.kept h) (by have := HS6.out.len; omega) (fun e he => by have := HS6.out.rest e he; omega) HS6.out.wf)
            have HHA := hid (fun (W : World) (h : Keeps NoB w9 W) => ghas_calls G G (91 * (k + 1)) (repN es4) c4 p4 x W (HS6.out.g.st.kept h) HWX.out)
            rw [repN_isSome] at HHA
            have HFI := hid (fun (W : World) (h : Keeps NoB w9 W) => find19_calls es4 x A4 d4 _ W (HS6.out.l.kept h) (by have := HS6.out.len; omega))
            have HGO := hid (fun (W : World) (h : Keeps NoB w9 W) => gof_calls G G (91 * (k + 1)) (repN es4) c4 p4 bq W (HS6.out.g.st.kept h) HWB.out (by omega))
            have HOF := hid (fun (W : World) (h : Keeps NoB w9 W) => of19_calls es4 bq A4 d4 _ W (HS6.out.l.kept h) (by have := HS6.out.len; omega) HS6.out.good.one)
            have HCC := hid (fun (W : World) (h : Keeps NoB w9 W) => (show W.cell? ⟨wr.heap.size, 1, none⟩ = some (.int .i64 x) by have := h.heap HBX5.out (fun h => h); simp [World.cell?, this]))
            have hsm := hid (show sameN (ofN es4 bq) (ofN es4 bq) = 1 from if_pos rfl)
            obtain ⟨lo, hlo⟩ : ∃ lo, (ofN es4 bq).length = lo := ⟨_, rfl⟩
            have HLO := hid hlo
            clear hlo
            go_region_held3 (fun w' => w'.cell? ⟨wr.heap.size, 1, none⟩ = some (.int .i64 x)) (first | (exact HCC.out _ HKr.out) | (exact HCC.out _ HKr.out.drew) | go_keep) (first
              | (go_at_call 26; refine (HSA.out _ (by first | exact HKr.out | exact HKr.out.drew)).mono ?_; rintro e wA ⟨rfl, hkA⟩; have HKr := hid (show Keeps NoB w9 wA by first | exact HKr.out.fresh hkA | exact HKr.out.drew.fresh hkA); clear hkA)
              | (go_at_call 27; refine (HHA.out _ (by first | exact HKr.out | exact HKr.out.drew)).mono ?_; rintro e wB ⟨rfl, hkB⟩; have HKr := hid (show Keeps NoB w9 wB by first | exact HKr.out.fresh hkB | exact HKr.out.drew.fresh hkB); clear hkB)
              | (go_at_call 23; refine (HFI.out _ (by first | exact HKr.out | exact HKr.out.drew)).mono ?_; rintro e wC ⟨r, rfl, hr, hwC⟩; have hdr : decide (0 ≤ r) = decide (x ∈ nums es4) := (by rw [Bool.eq_iff_iff, decide_eq_true_iff, decide_eq_true_iff]; exact hr); have HKr := hid (show Keeps NoB w9 wC by first | (rw [hwC]; exact HKr.out) | (rw [hwC]; exact HKr.out.drew)); clear hwC hr)
              | (go_at_call 18; refine (HGO.out _ (by first | exact HKr.out | exact HKr.out.drew)).mono ?_; rintro e wD ⟨vD, lD, rfl, hoD, hlD, hkD⟩; obtain rfl := keys_ofN HS6.out.good hlD; obtain ⟨AD, dD, hvD, _, hatD⟩ := hoD.reads; rw [HLO.out] at hvD; subst hvD; have HAD := hid (fun (W : World) (hW : Keeps NoB wD W) => hatD.kept hW); have HKr := hid (show Keeps NoB w9 wD by first | exact HKr.out.fresh hkD | exact HKr.out.drew.fresh hkD); clear hkD hoD hlD hatD)
              | (go_at_call 20; have HKo := HKr; refine (HOF.out _ (by first | exact HKr.out | exact HKr.out.drew)).mono ?_; rintro e wE ⟨vE, rfl, hoE, hkE⟩; obtain ⟨AE, dE, hvE, _, hatE⟩ := hoE.reads; rw [HLO.out] at hvE; subst hvE; have HAE := hid (fun (W : World) (hW : Keeps NoB wE W) => hatE.kept hW); have HAD := hid (fun (W : World) (hW : Keeps NoB wE W) => HAD.out W ((show Keeps NoB wD wE by first | exact hkE | exact (Keeps.refl NoB wD).drew.fresh hkE).fresh hW)); have HKr := hid (show Keeps NoB w9 wE by first | exact HKr.out.fresh hkE | exact HKr.out.drew.fresh hkE); clear hkE hoE hatE)
              | (go_at_call 22; refine (show Calls Try.prog _ _ _ _ from by have := same_calls (ofN es4 bq) (ofN es4 bq) AD AE dD dE _ (HAD.out _ (by first | exact Keeps.refl NoB _ | exact (Keeps.refl NoB _).drew)) (HAE.out _ (by first | exact Keeps.refl NoB _ | exact (Keeps.refl NoB _).drew)); rw [HLO.out, hsm.out] at this; exact this).mono ?_; rintro e wF ⟨rfl, hkF⟩; have HKr := hid (show Keeps NoB w9 wF by first | exact HKr.out.fresh hkF | exact HKr.out.drew.fresh hkF); clear hkF))
            go_wp2_with fail
            go_roundw
            case rel => exact ⟨k + 1, es4, c4, p4, A4, d4, by omega, by go_num, rfl, rfl, hid (HS6.out.kept HKr.out)⟩
            case measure => simp [intOf]; omega
      · obtain rfl : k = m := by omega
        go_wp2_with fail
        go_ret
        exact ⟨rfl, HS.out.k⟩
end Go.Proofs.Ytnoooeeciebhfaa
