/- The walk of the law OuterOwn. No condition but that the numbers are of their kinds. -/
import Derived.Test.YtdjfacdlcnnjnaaRef10Eqs
import Derived.Deep.RegionWith
set_option linter.unusedVariables false
namespace Go.Proofs.Ytdjfacdlcnnjnaa
open Go.RowKit
attribute [local go_sem ↓] Go.wp_at_zero Go.wp_at_succ
theorem OwnAll.tail {w : World} {B : Nat} {v : Value} {us : List Value} {xs : List Int} {ls : List (List Int)} (h : OwnAll w B (v :: us) (xs :: ls)) : OwnAll w B us ls :=
  (OwnAll.part (us := [v]) (vs := us) (ls := [xs]) (ms := ls) h rfl).2
theorem OwnAll.head {w : World} {B : Nat} {v : Value} {us : List Value} {xs : List Int} {ls : List (List Int)} (h : OwnAll w B (v :: us) (xs :: ls)) : OwnInts w B .i64 3 v xs := h.own 0 v rfl
theorem OwnAll.apart0 {w : World} {B : Nat} {v : Value} {us : List Value} {xs : List Int} {ls : List (List Int)} (h : OwnAll w B (v :: us) (xs :: ls)) (j : Nat) (u : Value) (b : Nat) (hu : us[j]? = some u) (hb : u.ownBlock = some b) : v.ownBlock ≠ some b :=
  fun hv => h.apart 0 (j + 1) v u b rfl (by simpa using hu) (by omega) hv hb
theorem OwnAll.put0 {w : World} {B g n c x : Nat} {us : List Value} {xs : List Int} {ls : List (List Int)} (h : OwnAll w B (.slice (some ⟨g, 0, none⟩) n c :: us) (xs :: ls)) (hx : x < xs.length) (y : Int) :
    OwnAll (w.setCell ⟨g, x, none⟩ (.int .i64 y)) B (.slice (some ⟨g, 0, none⟩) n c :: us) (xs.set x y :: ls) :=
  h.set (j := 0) (u := .slice (some ⟨g, 0, none⟩) n c) (u' := .slice (some ⟨g, 0, none⟩) n c) (l := xs.set x y) rfl ((Keeps.one w g x _).mono (fun i (e : i = g) _ => by subst e; rfl)) (h.head.set hx y) (fun b hb => .inl hb)
theorem OwnAll.after {w w1 : World} {B : Nat} {v : Value} {us : List Value} {xs : List Int} {ls : List (List Int)} {o : Obj} (h : OwnAll w B (v :: us) (xs :: ls)) (hg : (w.alloc o).grownBy w1 v.ownBlock) : OwnAll w1 B us ls :=
  h.tail.keeps (((Keeps.refl NoB w).alloc o).trans (Keeps.ofGrown hg) (fun _ _ h => h.elim) (fun _ _ h => h) : Keeps (fun k => some k = v.ownBlock) w w1) (fun j u b hu hb e => h.apart0 j u b hu hb e.symm)
theorem drop3 {α : Type} (a b c : α) (q : Nat) (hq : q < 3) : ∃ v r, [a, b, c].drop q = v :: r ∧ [a, b, c].drop (q + 1) = r ∧ [a, b, c][q]? = some v := by
  match q, hq with
  | 0, _ => exact ⟨_, _, rfl, rfl, rfl⟩
  | 1, _ => exact ⟨_, _, rfl, rfl, rfl⟩
  | 2, _ => exact ⟨_, _, rfl, rfl, rfl⟩
set_option maxHeartbeats 8000000 in
set_option maxRecDepth 40000 in
theorem outerOwn_walk (p0 : Par) (session i : Nat) (w : World) (hp0 : p0.wf) (hs : session < 18446744073709551616) (hi : i < 256) :
    Calls Try.prog 11 #[p0.val, .int .u64 (session : Int), .int .u8 (i : Int)] w fun e w' => e = .returned (.bool true) ∧ Keeps NoB w w' := by
  have hu := Try.underlying66
  unfold Par.val
  go_enter Try.func11, Try.ntmps11
  go_wp2_with fail
  refine (speaks10_calls _).mono ?_
  rintro e w1 ⟨rfl, HK1⟩
  have hbox := hid (HK1.heap (heap_alloc_new w (.cells #[.int .i64 p0.n, .int .i64 p0.b, .int .i64 p0.q, .int .i64 p0.eps, .int .i64 p0.f] 66)) (fun h => h))
  have HK1 := hid (((Keeps.refl NoB w).alloc _).fresh HK1)
  obtain ⟨b0, b1, b2, b3, b4⟩ := cells5 hbox.out
  go_wp2_with fail
  refine (smaller_calls p0 _).mono ?_
  rintro e w2 ⟨rfl, HK2⟩
  have hbox := hid (HK2.heap hbox.out (fun h => h))
  have HK2 := hid (HK1.out.fresh HK2)
  have hle := smP_le p0
  have hwf := smP_wf hp0
  generalize smP p0 = p at *
  clear b0 b1 b2 b3 b4 HK1
  have f0 := free5 hbox.out 0
  have f1 := free5 hbox.out 1
  have f2 := free5 hbox.out 2
  have f3 := free5 hbox.out 3
  have f4 := free5 hbox.out 4
  obtain ⟨b0, b1, b2, b3, b4⟩ := cells5 hbox.out
  unfold Par.val
  go_wp2_with fail
  have hA := hid (set5 hbox.out (.int .i64 p.n) (.int .i64 p.b) (.int .i64 p.q) (.int .i64 p.eps) (.int .i64 p.f))
  have HK6 := hid (HK2.out.then (keep5 (w := w2) (b := w.heap.size) (.int .i64 p.n) (.int .i64 p.b) (.int .i64 p.q) (.int .i64 p.eps) (.int .i64 p.f)) (fun q (e : q = w.heap.size) hq => by omega))
  clear b0 b1 b2 b3 b4 f0 f1 f2 f3 f4 hbox HK2
  generalize (((((w2.setCell ⟨w.heap.size, 0, none⟩ (.int .i64 p.n)).setCell ⟨w.heap.size, 1, none⟩ (.int .i64 p.b)).setCell ⟨w.heap.size, 2, none⟩ (.int .i64 p.q)).setCell ⟨w.heap.size, 3, none⟩ (.int .i64 p.eps)).setCell ⟨w.heap.size, 4, none⟩ (.int .i64 p.f)) = w6 at *
  obtain ⟨pb, hpb⟩ : ∃ pb, pb = w.heap.size := ⟨_, rfl⟩
  rw [← hpb] at hA ⊢
  clear hpb
  have hSall := hid (show ∀ w', Keeps NoB w6 w' → (w'.cell? ⟨pb, 0, none⟩ = some (.int .i64 p.n) ∧ w'.cell? ⟨pb, 1, none⟩ = some (.int .i64 p.b) ∧ w'.cell? ⟨pb, 2, none⟩ = some (.int .i64 p.q) ∧ w'.cell? ⟨pb, 3, none⟩ = some (.int .i64 p.eps) ∧ w'.cell? ⟨pb, 4, none⟩ = some (.int .i64 p.f)) from fun w' hk => cells5 (hk.heap hA.out (fun h => h)))
  refine (may_calls p _).mono ?_
  rintro e w7 ⟨rfl, HK7⟩
  have HKr := hid HK7
  by_cases hp : p.may
  · have HM := hid hp
    rw [mayB_true hp]
    have hab := auxN_bounds hp
    have hpn : 1 ≤ p.n ∧ p.n ≤ 60 := ⟨hp.1, hle⟩
    obtain ⟨a, ha⟩ : ∃ a : Nat, auxN p = (a : Int) := ⟨(auxN p).toNat, by omega⟩
    obtain ⟨n, hn⟩ : ∃ n : Nat, p.n = (n : Int) := ⟨p.n.toNat, by omega⟩
    have ha1 : 1 ≤ a := by omega
    have ha2 : a ≤ 4613735 := by omega
    have hn1 : 1 ≤ n := by omega
    have hn2 : n ≤ 60 := by omega
    have HA := hid ha
    have HN := hid hn
    clear hp hab ha hn
    obtain ⟨b0, b1, b2, b3, b4⟩ := hSall.out _ HKr.out
    go_wp2_with fail
    refine (onew_yes p session _ HM.out hs).mono ?_
    rintro e w7b ⟨g, rfl, HG, HK4⟩
    have e1 : p.n.toNat = n := by rw [HN.out]; simp
    rw [e1] at HG
    have HKg := hid (HKr.out.fresh HK4)
    have HG := hid HG
    have hgo := hid (show ∀ k, k < n → getN (ofsN p session n) (k : Int) = ofN p session k from fun k hk => by
      rw [getN_nat (by rw [ofsN_length]; omega), gl_eq _ _ (by rw [ofsN_length]; omega)]
      simp [ofsN])
    have hlo := hid (show ((ofsN p session n).length : Int) = p.n by rw [ofsN_length, HN.out])
    have hlh := hid (show ((hasN p session n).length : Int) = (a : Int) by rw [hasN_length, HA.out]; rfl)
    have hlhn := hid (show (hasN p session n).length = a by rw [hasN_length, HA.out]; rfl)
    have hgen := hid (show hasN p session p.n.toNat = hasN p session n by rw [e1])
    have hbo := hid (fun j => ofN_length p session j HM.out)
    have hbh := hid (fun j => Nat.le_trans (hasN_bound p session HM.out n j) (show 8 * n ≤ 480 by omega))
    clear e1 HKr b0 b1 b2 b3 b4
    generalize ofsN p session n = ofs at *
    generalize hasN p session n = has at *
    have hSb := hid (show ∀ w', Keeps NoB w7b w' → (w'.cell? ⟨pb, 0, none⟩ = some (.int .i64 p.n) ∧ w'.cell? ⟨pb, 1, none⟩ = some (.int .i64 p.b) ∧ w'.cell? ⟨pb, 2, none⟩ = some (.int .i64 p.q) ∧ w'.cell? ⟨pb, 3, none⟩ = some (.int .i64 p.eps) ∧ w'.cell? ⟨pb, 4, none⟩ = some (.int .i64 p.f)) from fun w' hk => hSall.out w' (HKg.out.fresh hk))
    have HK6 := hid (HK6.out.fresh HKg.out)
    clear hSall HKg hA
    have hSall := hSb
    clear hSb
    have HKr := hid (Keeps.refl NoB w7b)
    obtain ⟨b0, b1, b2, b3, b4⟩ := hSall.out _ HKr.out
    have hpz : ¬ p.n = 0 := by omega
    have haz : ¬ a = 0 := by omega
    go_wp2_with fail
    go_region_held3 (fun w' => w'.cell? ⟨pb, 0, none⟩ = some (.int .i64 p.n) ∧ w'.cell? ⟨pb, 1, none⟩ = some (.int .i64 p.b) ∧ w'.cell? ⟨pb, 2, none⟩ = some (.int .i64 p.q) ∧ w'.cell? ⟨pb, 3, none⟩ = some (.int .i64 p.eps) ∧ w'.cell? ⟨pb, 4, none⟩ = some (.int .i64 p.f)) (first | (exact hSall.out _ HKr.out) | (exact hSall.out _ HKr.out.drew) | go_keep) (first
      | (go_at_call 44; refine (gAuxiliary_calls g ofs has _ (by first | exact HG.out.kept HKr.out | exact HG.out.kept HKr.out.drew)).mono ?_; rintro e w8 ⟨rfl, rfl⟩; rw [hlh.out]))
    have HKr := hid HKr.out.drew
    have hkk : (IntKind.i64.wrap (i : Int)).tmod p.n = ((i % n : Nat) : Int) := by rw [IntWalk.i64_in (i : Int) (by omega), HN.out]; rfl
    have hjj : (IntKind.i64.wrap (i : Int)).tmod (a : Int) = ((i % a : Nat) : Int) := by rw [IntWalk.i64_in (i : Int) (by omega)]; rfl
    have hkn : i % n < n := Nat.mod_lt i (by omega)
    have hja : i % a < a := Nat.mod_lt i (by omega)
    rw [hkk, hjj, IntWalk.i64_in (i : Int) (by omega)]
    clear hkk hjj hpz haz b0 b1 b2 b3 b4
    generalize i % n = k at *
    generalize i % a = j at *
    have hl1 := hgo.out k hkn
    obtain ⟨l1, hf1⟩ : ∃ l, ofN p session k = l := ⟨_, rfl⟩
    obtain ⟨l2, hf2⟩ : ∃ l, gl has j = l := ⟨_, rfl⟩
    obtain ⟨l3, hf3⟩ : ∃ l, gl (eqsN has p.n a) j = l := ⟨_, rfl⟩
    have hb1 := hbo.out k
    have hb2 := hbh.out j
    have hl2 := getN_nat (ls := has) (i := j) (by rw [hlhn.out]; exact hja)
    have hl3 : eqN ofs has (j : Int) = gl (eqsN has p.n a) j := by
      rw [eqsN_gl _ _ _ _ hja]
      unfold eqN
      rw [if_pos ⟨by omega, by rw [hlhn.out]; omega⟩, hlo.out]
      simp
    have hb3 : (gl (eqsN has p.n a) j).length ≤ 481 := by rw [eqsN_gl _ _ _ _ hja]; simp; omega
    rw [hf1] at hl1 hb1
    rw [hf2] at hl2 hb2
    rw [hf3] at hl3 hb3
    have hl1 := hid hl1
    have hl2 := hid hl2
    have hl3 := hid hl3
    have hf1 := hid hf1
    have hf2 := hid hf2
    have hf3 := hid hf3
    have hui := Try.underlying27
    go_wp2_with fail
    refine (gOf_calls g ofs has k _ (HG.out.kept HKr.out) (by omega) (by omega)).mono ?_
    rintro e w8 ⟨v1, rfl, hown1, HK8⟩
    rw [hl1.out] at hown1
    obtain ⟨A1, c1, rfl, _, _⟩ := hown1.reads
    have HKr := hid (HKr.out.fresh HK8)
    have O1 := hid (show OwnAll w8 w7b.heap.size [.slice A1 l1.length c1] [l1] from (OwnAll.nils w8 w7b.heap.size 0).snoc (OwnInts.lower hown1 (Nat.le_refl _)) (fun j v b hv => by simp at hv))
    clear hown1
    go_wp2_with fail
    refine (gHas_calls g ofs has j _ (HG.out.kept HKr.out) (by omega) (by omega)).mono ?_
    rintro e w9 ⟨v2, rfl, hown2, HK9⟩
    rw [hl2.out] at hown2
    obtain ⟨A2, c2, rfl, _, _⟩ := hown2.reads
    have O2 := hid (show OwnAll w9 w7b.heap.size [.slice A1 l1.length c1, .slice A2 l2.length c2] [l1, l2] from (O1.out.kept HK9).snoc (OwnInts.lower hown2 HKr.out.size) (fun j v b hv hb hb2 => by
      have h1 := (O1.out.lt j v b hv hb).2
      have h2 := (hown2.base_le b hb2).1
      omega))
    have HKr := hid (HKr.out.fresh HK9)
    clear hown2 O1
    go_wp2_with fail
    refine (gEquation_calls g ofs has j _ (HG.out.kept HKr.out) (by omega) (by omega)).mono ?_
    rintro e w10 ⟨v3, rfl, hown3, HK10⟩
    rw [hl3.out] at hown3
    obtain ⟨A3, c3, rfl, _, _⟩ := hown3.reads
    have O3 := hid (show OwnAll w10 w7b.heap.size [.slice A1 l1.length c1, .slice A2 l2.length c2, .slice A3 l3.length c3] [l1, l2, l3] from (O2.out.kept HK10).snoc (OwnInts.lower hown3 HKr.out.size) (fun j v b hv hb hb2 => by
      have h1 := (O2.out.lt j v b hv hb).2
      have h2 := (hown3.base_le b hb2).1
      omega))
    have HKr := hid (HKr.out.fresh HK10)
    clear hown3 O2
    go_wp2_with fail
    have O3 := hid (O3.out.kept ((Keeps.refl NoB w10).alloc (.cells #[.slice A1 l1.length c1, .slice A2 l2.length c2, .slice A3 l3.length c3] 27)))
    have HB := hid (heap_alloc_new w10 (.cells #[.slice A1 l1.length c1, .slice A2 l2.length c2, .slice A3 l3.length c3] 27))
    have HKr := hid (HKr.out.alloc (.cells #[.slice A1 l1.length c1, .slice A2 l2.length c2, .slice A3 l3.length c3] 27))
    have hbl := hid (show ∀ l ∈ [l1, l2, l3], l.length ≤ 481 by simp; omega)
    go_loopw [54] (fun v54 wr => ∃ q : Nat, q ≤ 3 ∧ v54 = .int .i64 q ∧ Hid (OwnAll wr w7b.heap.size ([.slice A1 l1.length c1, .slice A2 l2.length c2, .slice A3 l3.length c3].drop q) ([l1, l2, l3].drop q)) ∧ Hid (wr.heap[w10.heap.size]? = some (.cells #[.slice A1 l1.length c1, .slice A2 l2.length c2, .slice A3 l3.length c3] 27 (0, 0))) ∧ Hid (Keeps NoB w7b wr)) (fun v54 _ => 3 - (intOf v54).toNat)
    case atStart => exact ⟨0, Nat.zero_le _, rfl, hid O3.out, HB.out, HKr.out⟩
    case round =>
      obtain ⟨q, hq, rfl, HO, HB, HKr⟩ := hrel
      by_cases hlt : q < 3
      · obtain ⟨v, r, d1, d2, d3⟩ := drop3 (Value.slice A1 l1.length c1) (Value.slice A2 l2.length c2) (Value.slice A3 l3.length c3) q hlt
        obtain ⟨l, lr, e1, e2, e3⟩ := drop3 l1 l2 l3 q hlt
        have O := HO.out
        rw [d1, e1] at O
        have hsb : wr.cell? ⟨w10.heap.size, q, none⟩ = some v := by simp only [World.cell?, HB.out]; simpa using d3
        have hll := hbl.out l (List.mem_of_getElem? e3)
        obtain ⟨A, c, rfl, _, _⟩ := O.head.reads
        have O := hid O
        have d2 := hid d2
        have e2 := hid e2
        have hq0 : (0 : Int) ≤ (q : Int) := by omega
        have hq1 : (q : Int) < 3 := by omega
        clear d1 d3 e1 e3 HO
        go_wp2_with fail
        go_loopw [60] (fun v60 wr => ∃ (x : Nat) (xs : List Int), x ≤ l.length ∧ v60 = .int .i64 x ∧ Hid (xs.length = l.length) ∧ Hid (OwnAll wr w7b.heap.size (.slice A l.length c :: r) (xs :: lr)) ∧ Hid (wr.heap[w10.heap.size]? = some (.cells #[.slice A1 l1.length c1, .slice A2 l2.length c2, .slice A3 l3.length c3] 27 (0, 0))) ∧ Hid (Keeps NoB w7b wr)) (fun v60 _ => l.length - (intOf v60).toNat)
        case atStart => exact ⟨0, l, Nat.zero_le _, rfl, hid rfl, hid O.out, hid HB.out, hid HKr.out⟩
        case round =>
          obtain ⟨x, xs, hx, rfl, HL, HO, HB, HKr⟩ := hrel
          by_cases hlt2 : x < l.length
          · obtain ⟨g1, rfl⟩ : ∃ g1, A = some ⟨g1, 0, none⟩ := by
              rcases HO.out.head.2 with ⟨h1, _⟩ | ⟨g1, cap, cur, h1, _⟩
              · injection h1 with _ h1; omega
              · injection h1 with h1; exact ⟨g1, h1⟩
            have hx2 : x < xs.length := by rw [HL.out]; exact hlt2
            have q1 := HO.out.head.cell hx2
            have q2 := HO.out.head.free x
            have hx0 : (0 : Int) ≤ (x : Int) := by omega
            have hx1 : (x : Int) < (l.length : Int) := by omega
            have hne := hid (own_ne HO.out.head HB.out (by decide))
            have hge := hid (HO.out.head.base_le g1 rfl).1
            clear hx2
            go_wp2_with fail
            go_roundw
            case rel => exact ⟨x + 1, _, by omega, by go_num, hid (by rw [List.length_set]; exact HL.out), hid (HO.out.put0 (by rw [HL.out]; exact hlt2) _), hid ((Keeps.one _ g1 x _).heap HB.out (fun e => hne.out (by rw [← e]; rfl))), hid (HKr.out.setCell (p := ⟨g1, x, none⟩) (fun hq => absurd hge.out (Nat.not_le.2 hq)) _)⟩
            case measure => simp [intOf]; omega
          · have hxl := HL.out
            have hne := hid (own_ne HO.out.head HB.out (by decide))
            have hsr := HKr.out.size
            go_wp2_with (at_builtin; go_must (refine wpList_app1 _ rfl _ _ 27 rfl w7b.heap.size 3 .i64 8 hui info_int (.slice A l.length c) xs rfl (OwnInts.alloc HO.out.head _) _ _ _ rfl (cell_one _ _ _) (by omega) (by omega) (by simp; omega) ?_); intro v11 w11 hown11 hgr11 _)
            go_roundw
            case rel => exact ⟨q + 1, by omega, by go_num, hid (by rw [d2.out, e2.out]; exact HO.out.after hgr11), hid (((Keeps.refl NoB _).alloc _).heap HB.out (fun h => h) |> fun h => (Keeps.ofGrown hgr11).heap h (fun e => hne.out e.symm)), hid (HKr.out.then (((Keeps.refl NoB _).alloc _).trans (Keeps.ofGrown hgr11) (fun _ _ h => h.elim) (fun _ _ h => h) : Keeps (fun q => some q = (Value.slice A l.length c).ownBlock) _ w11) (fun q e hq => absurd (HO.out.head.base_le q e.symm).1 (Nat.not_le.2 hq)))⟩
            case measure => simp [intOf]; omega
      · obtain rfl : q = 3 := by omega
        clear HO HB
        obtain ⟨b0, b1, b2, b3, b4⟩ := hSall.out _ HKr.out
        have hat := hid (show (auxN p).toNat = a by rw [HA.out]; rfl)
        have hs1 := hid (show sameN l1 l1 = 1 from if_pos rfl)
        have hs2 := hid (show sameN l2 l2 = 1 from if_pos rfl)
        have hs3 := hid (show sameN l3 l3 = 1 from if_pos rfl)
        have tk1 := hid trivial
        have tk2 := hid trivial
        have hj0 : (0 : Int) ≤ (j : Int) := by omega
        have hj1 : (j : Int) < (a : Int) := by omega
        have HKo := hid HK6.out
        go_wp2_with fail
        go_region_with (first
          | (go_at_call 46; refine (gOf_calls g ofs has k _ (by first | exact HG.out.kept HKr.out | exact HG.out.kept HKr.out.drew) (by omega) (by omega)).mono ?_; rintro e z1 ⟨y1, rfl, hown1, HK1⟩; rw [hl1.out] at hown1; obtain ⟨P1, m1, rfl, _, hat1⟩ := hown1.reads; have HKx := hid (show Keeps NoB w7b z1 by first | exact HKr.out.fresh HK1 | exact HKr.out.drew.fresh HK1); have HKr := hid HKx.out; obtain ⟨b0, b1, b2, b3, b4⟩ := hSall.out _ HKr.out)
          | (go_at_call 47; refine (rOf_calls p session k _ HM.out hs (by omega)).mono ?_; rintro e z2 ⟨P2, m2, rfl, hat2, HK2⟩; rw [hf1.out] at hat2 ⊢; have hat1 := hat1.kept HK2; have HKx := hid (show Keeps NoB w7b z2 by first | exact HKr.out.fresh HK2 | exact HKr.out.drew.fresh HK2); have HKr := hid HKx.out; obtain ⟨b0, b1, b2, b3, b4⟩ := hSall.out _ HKr.out)
          | (go_at_call 25; clear tk1; refine (same_calls l1 l1 P1 P2 m1 m2 _ hat1 hat2).mono ?_; rintro e z3 ⟨rfl, HK3⟩; rw [hs1.out]; have HKx := hid (show Keeps NoB w7b z3 by first | exact HKr.out.fresh HK3 | exact HKr.out.drew.fresh HK3); have HKr := hid HKx.out; obtain ⟨b0, b1, b2, b3, b4⟩ := hSall.out _ HKr.out)
          | (go_at_call 51; refine (gEquation_calls g ofs has j _ (by first | exact HG.out.kept HKr.out | exact HG.out.kept HKr.out.drew) (by omega) (by omega)).mono ?_; rintro e z4 ⟨y4, rfl, hown4, HK4⟩; rw [hl3.out] at hown4; obtain ⟨P4, m4, rfl, _, hat4⟩ := hown4.reads; have HKx := hid (show Keeps NoB w7b z4 by first | exact HKr.out.fresh HK4 | exact HKr.out.drew.fresh HK4); have HKr := hid HKx.out; obtain ⟨b0, b1, b2, b3, b4⟩ := hSall.out _ HKr.out)
          | (go_at_call 48; refine (rEqs_calls p session _ HM.out hs).mono ?_; rintro e z5 ⟨B5, n5, rfl, hr5, HK5⟩; rw [hat.out, hgen.out] at hr5 ⊢; rw [eqsN_length]; obtain ⟨be5, oe5, rfl, hce5⟩ := hr5.2 (by rw [eqsN_length]; omega); obtain ⟨u5, hc5, P5, m5, rfl, _, _, hat5⟩ := hce5 j (by rw [eqsN_length]; omega); rw [hf3.out] at hc5 hat5; have hat4 := hat4.kept HK5; have HKx := hid (show Keeps NoB w7b z5 by first | exact HKr.out.fresh HK5 | exact HKr.out.drew.fresh HK5); have HKr := hid HKx.out; obtain ⟨b0, b1, b2, b3, b4⟩ := hSall.out _ HKr.out)
          | (go_at_call 25; clear tk2; refine (same_calls l3 l3 P4 P5 m4 m5 _ hat4 hat5).mono ?_; rintro e z6 ⟨rfl, HK6⟩; rw [hs3.out]; have HKx := hid (show Keeps NoB w7b z6 by first | exact HKr.out.fresh HK6 | exact HKr.out.drew.fresh HK6); have HKr := hid HKx.out; obtain ⟨b0, b1, b2, b3, b4⟩ := hSall.out _ HKr.out)
          | (go_at_call 50; refine (gHas_calls g ofs has j _ (by first | exact HG.out.kept HKr.out | exact HG.out.kept HKr.out.drew) (by omega) (by omega)).mono ?_; rintro e z7 ⟨y7, rfl, hown7, HK7⟩; rw [hl2.out] at hown7; obtain ⟨P7, m7, rfl, _, hat7⟩ := hown7.reads; have HKx := hid (show Keeps NoB w7b z7 by first | exact HKr.out.fresh HK7 | exact HKr.out.drew.fresh HK7); have HKr := hid HKx.out; obtain ⟨b0, b1, b2, b3, b4⟩ := hSall.out _ HKr.out)
          | (go_at_call 49; refine (rHas_calls p session _ HM.out hs).mono ?_; rintro e z8 ⟨B8, n8, rfl, hr8, HK8⟩; rw [hgen.out] at hr8 ⊢; rw [hlhn.out]; obtain ⟨be8, oe8, rfl, hce8⟩ := hr8.2 (by rw [hlhn.out]; omega); obtain ⟨u8, hc8, P8, m8, rfl, _, _, hat8⟩ := hce8 j (by rw [hlhn.out]; omega); rw [hf2.out] at hc8 hat8; have hat7 := hat7.kept HK8; have HKx := hid (show Keeps NoB w7b z8 by first | exact HKr.out.fresh HK8 | exact HKr.out.drew.fresh HK8); have HKr := hid HKx.out; obtain ⟨b0, b1, b2, b3, b4⟩ := hSall.out _ HKr.out)
          | (go_at_call 25; refine (same_calls l2 l2 P7 P8 m7 m8 _ hat7 hat8).mono ?_; rintro e z9 ⟨rfl, HK9⟩; rw [hs2.out]; have HKx := hid (show Keeps NoB w7b z9 by first | exact HKr.out.fresh HK9 | exact HKr.out.drew.fresh HK9); have HKr := hid HKx.out; obtain ⟨b0, b1, b2, b3, b4⟩ := hSall.out _ HKr.out))
        all_goals go_wp2_with fail
        all_goals go_ret
        all_goals exact ⟨rfl, HKo.out.fresh HKr.out⟩
  · rw [mayB_false hp]
    go_wp2_with fail
    go_ret
    exact ⟨rfl, HK6.out.fresh HKr.out⟩
end Go.Proofs.Ytdjfacdlcnnjnaa
