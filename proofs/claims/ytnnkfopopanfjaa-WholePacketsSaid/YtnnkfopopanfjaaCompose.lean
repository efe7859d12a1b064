/- All composite blocks of an object: the walk of compose.Blocks. Conditions: numbers are of their kinds. -/
import Derived.Test.YtnnkfopopanfjaaG4
import Derived.Test.YtnnkfopopanfjaaRef12
import Derived.Test.YtnnkfopopanfjaaHasMath
set_option linter.unusedVariables false
namespace Go.Proofs.Ytnnkfopopanfjaa
open Go.RowKit
attribute [local go_sem ↓] Go.wp_at_zero Go.wp_at_succ

/-- An auxiliary block: all of its message blocks, put upon each other. -/
noncomputable def auxB (p : Par) (session : Nat) (obj : List UInt8) (j : Nat) : List UInt8 := sumB p.b.toNat (pickR (splitN p obj) (gl (hasN p session p.n.toNat) j))
/-- The message blocks, and k auxiliary ones. -/
noncomputable def compK (p : Par) (session : Nat) (obj : List UInt8) (k : Nat) : List (List UInt8) := splitN p obj ++ (List.range k).map (auxB p session obj)
noncomputable def compN (p : Par) (session : Nat) (obj : List UInt8) : List (List UInt8) := compK p session obj (auxN p).toNat
theorem compK_length (p : Par) (session : Nat) (obj : List UInt8) (k : Nat) : (compK p session obj k).length = p.n.toNat + k := by simp [compK, splitN]
theorem compK_succ (p : Par) (session : Nat) (obj : List UInt8) (k : Nat) : compK p session obj (k + 1) = compK p session obj k ++ [auxB p session obj k] := by
  unfold compK; rw [List.range_succ, List.map_append, ← List.append_assoc]; rfl
theorem gr_append {a b : List (List UInt8)} {i : Nat} (h : i < a.length) : gr (a ++ b) i = gr a i := by
  unfold gr; rw [List.getD_eq_getElem?_getD, List.getD_eq_getElem?_getD, List.getElem?_append_left h]
theorem pick_append {a b : List (List UInt8)} {is : List Int} (h : inRange a.length is) : pickR (a ++ b) is = pickR a is := by
  unfold pickR
  apply List.map_congr_left
  intro i hi
  exact gr_append (h i hi).2
theorem has_range {p : Par} (hm : p.may) (session : Nat) (j : Nat) : inRange (splitN p []).length (gl (hasN p session p.n.toNat) j) := by
  rw [splitN_length]
  intro x hx
  obtain ⟨i, h1, h2, _⟩ := (mem_hasN p session hm p.n.toNat x j).1 hx
  omega
theorem has_range' {p : Par} (hm : p.may) (session : Nat) (obj : List UInt8) (j : Nat) : inRange (splitN p obj).length (gl (hasN p session p.n.toNat) j) := by
  have := has_range hm session j
  rwa [splitN_length] at this ⊢
theorem split_fit (p : Par) (obj : List UInt8) : ∀ i, i < (splitN p obj).length → (gr (splitN p obj) i).length = p.b.toNat := by
  intro i hi
  rw [gr_eq _ _ hi]
  simp [splitN, chunkN]
theorem pick_fit (p : Par) (obj : List UInt8) {is : List Int} (h : inRange (splitN p obj).length is) : fitB p.b.toNat (pickR (splitN p obj) is) = true := by
  refine List.all_eq_true.2 (fun l hl => ?_)
  obtain ⟨i, hi, rfl⟩ := List.mem_map.1 hl
  simpa using split_fit p obj _ (h i hi).2
theorem auxB_length {p : Par} (hm : p.may) (session : Nat) (obj : List UInt8) (j : Nat) : (auxB p session obj j).length = p.b.toNat := sumB_length (pick_fit p obj (has_range' hm session obj j))
theorem comp_fit {p : Par} (hm : p.may) (session : Nat) (obj : List UInt8) (k : Nat) : ∀ l ∈ compK p session obj k, l.length = p.b.toNat := by
  intro l hl
  rcases List.mem_append.1 hl with h | h
  · obtain ⟨i, hi, rfl⟩ := List.getElem_of_mem h
    have := split_fit p obj i hi
    rwa [gr_eq _ _ hi] at this
  · obtain ⟨j, _, rfl⟩ := List.mem_map.1 h
    exact auxB_length hm session obj j
set_option maxHeartbeats 800000 in
set_option maxRecDepth 20000 in
theorem comp_no (p : Par) (session : Nat) (A : Option Addr) (n c : Nat) (w : World) (hm : ¬ p.may) :
    Calls Try.prog 15 #[p.val, .int .u64 (session : Int), .slice A n c] w fun e w' => e = .returned (.tuple #[.slice none 0 0, .int .i64 1]) ∧ Keeps NoB w w' := by
  have hu := Try.underlying23
  have HM := hid hm
  clear hm
  unfold Par.val
  go_enter Try.func15, Try.ntmps15
  go_wp2_with fail
  refine (split_no p A n c _ HM.out).mono ?_
  rintro e w1 ⟨rfl, HK1⟩
  have HK1 := hid (((Keeps.refl NoB w).alloc _).fresh HK1)
  go_wp2_with fail
  go_ret2
  exact ⟨rfl, HK1.out⟩
set_option maxHeartbeats 800000 in
set_option maxRecDepth 20000 in
theorem comp_long (p : Par) (session : Nat) (obj : List UInt8) (A : Option Addr) (c : Nat) (w : World) (hm : p.may) (hl : p.n * p.b < obj.length) (hlen : obj.length ≤ 9223372036854775807) :
    Calls Try.prog 15 #[p.val, .int .u64 (session : Int), .slice A obj.length c] w fun e w' => e = .returned (.tuple #[.slice none 0 0, .int .i64 10]) ∧ Keeps NoB w w' := by
  have hu := Try.underlying23
  have HM := hid hm
  have HL := hid hl
  clear hm hl
  unfold Par.val
  go_enter Try.func15, Try.ntmps15
  go_wp2_with fail
  refine (split_long p obj A c _ HM.out HL.out hlen).mono ?_
  rintro e w1 ⟨rfl, HK1⟩
  have HK1 := hid (((Keeps.refl NoB w).alloc _).fresh HK1)
  go_wp2_with fail
  go_ret2
  exact ⟨rfl, HK1.out⟩
set_option maxHeartbeats 4000000 in
set_option maxRecDepth 20000 in
theorem comp_yes (p : Par) (session : Nat) (obj : List UInt8) (A : Option Addr) (c : Nat) (R : Nat → Prop) (w : World) (hm : p.may) (hs : session < 18446744073709551616) (ho : BytesIn R w A obj) (hcap : obj.length ≤ c) (hl : (obj.length : Int) ≤ p.n * p.b) :
    Calls Try.prog 15 #[p.val, .int .u64 (session : Int), .slice A obj.length c] w fun e w' => ∃ v, e = .returned (.tuple #[v, .int .i64 0]) ∧ OwnRows (fun b => w.heap.size ≤ b) w' w.heap.size v (compN p session obj) ∧ Keeps NoB w w' := by
  have hu := Try.underlying23
  have hus := Try.underlying32
  have HM := hid hm
  have HO := hid ho
  have HL := hid hl
  obtain ⟨N, B, hpn, hpb, hpn2, hpb2, hN1, hN2, hB1, hB2, hNB, hNB2⟩ := par_sizes hm
  have hab := auxN_bounds hm
  obtain ⟨a, ha⟩ : ∃ a : Nat, auxN p = (a : Int) := ⟨(auxN p).toNat, by omega⟩
  have ha2 : a ≤ 4613735 := by omega
  have hlh := hid (show ((hasN p session p.n.toNat).length : Int) = (a : Int) by rw [hasN_length, ha]; rfl)
  have hlhn := hid (show (hasN p session p.n.toNat).length = a by rw [hasN_length, ha]; rfl)
  have hbh := hid (fun j => Nat.le_trans (hasN_bound p session hm p.n.toNat j) (show 8 * p.n.toNat ≤ 8388608 by omega))
  have hra := hid (has_range' hm session obj)
  have hc0 := hid (show compK p session obj 0 = splitN p obj by simp [compK])
  have hcN := hid (show compK p session obj a = compN p session obj by unfold compN; rw [ha]; rfl)
  have hcs := hid (compK_succ p session obj)
  have hcl := hid (fun k => (compK_length p session obj k).trans (by rw [hpn2] : p.n.toNat + k = N + k))
  have haux := hid (show ∀ j k, sumB B (pickR (compK p session obj k) (gl (hasN p session p.n.toNat) j)) = auxB p session obj j ∧ fitB B (pickR (compK p session obj k) (gl (hasN p session p.n.toNat) j)) = true ∧ inRange (compK p session obj k).length (gl (hasN p session p.n.toNat) j) from fun j k => by
    have e : pickR (compK p session obj k) (gl (hasN p session p.n.toNat) j) = pickR (splitN p obj) (gl (hasN p session p.n.toNat) j) := pick_append (hra.out j)
    rw [e]
    refine ⟨by unfold auxB; rw [hpb2], by rw [← hpb2]; exact pick_fit p obj (hra.out j), fun i hi => ?_⟩
    have := hra.out j i hi
    rw [compK_length]; rw [splitN_length] at this; omega)
  have hal := hid (show ∀ j, (auxB p session obj j).length = B from fun j => (auxB_length hm session obj j).trans hpb2)
  have HPB := hid hpb
  clear hm hNB hNB2 ho hl hpn hpb hpn2 hpb2 hab ha hra
  unfold Par.val
  go_enter Try.func15, Try.ntmps15
  go_wp2_with fail
  refine (split_yes p obj A c R _ HM.out (HO.out.kept ((Keeps.refl NoB w).alloc _)) hcap HL.out).mono ?_
  rintro e w1 ⟨v1, rfl, HR1, HK1⟩
  have hbox := hid (HK1.heap (heap_alloc_new w (.cells #[.int .i64 p.n, .int .i64 p.b, .int .i64 p.q, .int .i64 p.eps, .int .i64 p.f] 23)) (fun h => h))
  have hs1 := HK1.size
  rw [World.size_alloc] at hs1
  have HR1 := hid ((OwnRows.lower (base' := w.heap.size) HR1 (by simp)).mono (R' := fun b => w.heap.size ≤ b) (fun b _ hb => by simp at hb; omega))
  have HK1 := hid (((Keeps.refl NoB w).alloc _).fresh HK1)
  obtain ⟨pb, hpb⟩ : ∃ pb, pb = w.heap.size := ⟨_, rfl⟩
  rw [← hpb] at hbox ⊢
  have hpbw : w.heap.size ≤ pb := by omega
  have hpb1 : pb < w1.heap.size := by omega
  clear hpb
  obtain ⟨b0, b1, b2, b3, b4⟩ := cells5 hbox.out
  go_wp2_with fail
  refine (onew_core p session _ HM.out hs).mono ?_
  rintro e w2 ⟨g, rfl, HG, HK2⟩
  have HG := hid HG
  have hbox := hid (HK2.heap hbox.out (fun h => h))
  have HR2 := hid (HR1.out.kept HK2)
  have hv1 := hid (fun b hb => (HR1.out.base_le b hb).2)
  have HKo := hid (HK1.out.fresh HK2)
  have hs2 := HK2.size
  generalize ofsN p session p.n.toNat = ofs at *
  generalize hasN p session p.n.toNat = has at *
  clear b0 b1 b2 b3 b4
  obtain ⟨b0, b1, b2, b3, b4⟩ := cells5 hbox.out
  go_wp2_with fail
  refine (gAuxiliary_calls g ofs has _ (HG.out _ (Keeps.refl _ _))).mono ?_
  rintro e w3 ⟨rfl, rfl⟩
  rw [hlh.out]
  go_wp2_with fail
  go_loopw [8, 34] (fun v8 v34 wr => ∃ k : Nat, k ≤ a ∧ v34 = .int .i64 (k : Int) ∧ Hid (OwnRows (fun b => w.heap.size ≤ b) wr w.heap.size v8 (compK p session obj k)) ∧ Hid (∀ b, v8.ownBlock = some b → b < w1.heap.size ∨ w3.heap.size ≤ b) ∧ Hid (wr.heap[pb]? = some (.cells #[.int .i64 p.n, .int .i64 p.b, .int .i64 p.q, .int .i64 p.eps, .int .i64 p.f] 23 (0, 0))) ∧ Hid (Keeps (fun k => k < w1.heap.size) w3 wr) ∧ Hid (Keeps NoB w wr)) (fun _ v34 _ => a - (intOf v34).toNat)
  case atStart => exact ⟨0, Nat.zero_le _, rfl, by rw [hc0.out]; exact HR2, hid (fun b hb => .inl (hv1.out b hb)), hbox, hid (Keeps.refl _ _), HKo⟩
  case round =>
    obtain ⟨k, hk, rfl, HR, HV, HBX, HKg, HKw⟩ := hrel
    by_cases hlt : k < a
    · have hgk := hid (getN_nat (ls := has) (i := k) (by rw [hlhn.out]; exact hlt))
      have hbk := hbh.out k
      obtain ⟨hx1, hx2, hx3⟩ := haux.out k k
      have hs1 := hid (hcs.out k)
      have hcl1 := hcl.out k
      have hal1 := hal.out k
      generalize gl has k = hk' at *
      generalize compK p session obj k = lsk at *
      obtain ⟨AX, hAX⟩ : ∃ AX, auxB p session obj k = AX := ⟨_, rfl⟩
      rw [hAX] at hx1 hs1 hal1
      have hs1 := hid hs1.out
      have hx1 := hid hx1
      have hx2 := hid hx2
      have hx3 := hid hx3
      have hcl1 := hid hcl1
      have hal1 := hid hal1
      obtain ⟨Av, cv, hv, _, _, hrows⟩ := HR.out.reads
      rw [hcl1.out] at hv
      subst hv
      have hrows := hid hrows
      have hsome := hid (fun (w' : World) (hk : Keeps NoB wr w') (A7 : Option Addr) (c7 : Nat) (h : IntsAt w' .i64 A7 hk') => some_rows lsk hk' Av cv A7 c7 _ w' (hrows.out.kept hk) h hx3.out (by omega))
      rw [hcl1.out] at hsome
      have hpl := hid (pickR_length lsk hk')
      obtain ⟨b0, b1, b2, b3, b4⟩ := cells5 HBX.out
      rw [HPB.out] at b1
      have hSall := hid (show ∀ w', Keeps NoB wr w' → w'.cell? ⟨pb, 1, none⟩ = some (.int .i64 (B : Int)) from fun w' hk => hk.cell b1 (fun h => h))
      have HKr := hid (Keeps.refl NoB wr)
      clear hAX
      go_wp2_with fail
      go_region_held3 (fun w' => w'.cell? ⟨pb, 1, none⟩ = some (.int .i64 (B : Int))) (first | (exact hSall.out _ HKr.out) | (exact hSall.out _ HKr.out.drew) | go_keep) (first
        | (go_at_call 41; refine (gHas_calls g ofs has k _ (by first | exact HG.out _ (HKg.out.fresh HKr.out) | exact HG.out _ (HKg.out.fresh HKr.out.drew)) (by omega) (by omega)).mono ?_; rintro e w7 ⟨v7, rfl, hown7, HK7⟩; rw [hgk.out] at hown7; obtain ⟨A7, c7, rfl, _, hat7⟩ := hown7.reads; have HKr := hid (show Keeps NoB wr w7 by first | exact HKr.out.fresh HK7 | exact HKr.out.drew.fresh HK7))
        | (go_at_call 40; refine (hsome.out _ (by first | exact HKr.out | exact HKr.out.drew) A7 c7 hat7).mono ?_; rintro e w8 ⟨v8, rfl, hown8, HK8⟩; obtain ⟨A8, c8, rfl, _, _, hrows8⟩ := hown8.reads; have HKr := hid (show Keeps NoB wr w8 by first | exact HKr.out.fresh HK8 | exact HKr.out.drew.fresh HK8))
        | (go_at_call 19; refine (bsum_yes B (pickR lsk hk') A8 c8 _ _ (by omega) hrows8 hx2.out).mono ?_; rintro e w9 ⟨v9, rfl, hown9, HK9⟩; rw [hx1.out] at hown9; have hown9 := OwnInts.lower (base' := wr.heap.size) hown9 (by first | exact HKr.out.size | exact HKr.out.drew.size); have HKr := hid (show Keeps NoB wr w9 by first | exact HKr.out.fresh HK9 | exact HKr.out.drew.fresh HK9)))
      have HR9 := hid (HR.out.kept HKr.out)
      obtain ⟨us, Av', cv', hv', hus1, hus2, hus3⟩ := HR9.out.parts hcl1.out
      injection hv' with hv1' _ hv3'
      subst hv1' hv3'
      have HUS1 := hid hus1
      have HUS2 := hid hus2
      have HUS3 := hid hus3
      have hrow9 := OwnB.row (show OwnB w9 wr.heap.size v9 AX from hown9)
      have hb9 := hid (fun b hb => OwnInts.base_le hown9 b hb)
      obtain ⟨A9, c9, hv9, h91, h92, h93⟩ := hrow9
      rw [hal1.out] at hv9
      subst hv9
      have hbr := hid (fun b hb => HR.out.base_le b hb)
      have hszw := HKw.out.size
      have hsz9 := HKr.out.size
      have hrow := hid (show RowIn (fun b => w.heap.size ≤ b ∧ (Value.slice Av (N + k) cv).ownBlock ≠ some b) w9 (.slice A9 B c9) AX from RowIn.mono ⟨A9, c9, by rw [hal1.out], h91, h92, h93⟩ (fun b _ hb => by
        have h1 := (hb9.out b hb).1
        exact ⟨by omega, fun e => by have := (hbr.out b e).2; omega⟩))
      have hs3w := HKg.out.size
      clear hus1 hus2 hus3 h91 h92 h93 hown9 hsome hrows b0 b1 b2 b3 b4
      go_wp2_with (at_builtin; go_must (refine wpList_app1V _ rfl _ _ 32 rfl w.heap.size 25 (.slice none 0 0) 24 hus info_bytes rfl (.slice Av (N + k) cv) (N + k) us rfl (World.ownsRow.alloc HUS2.out _) _ _ (.slice A9 B c9) rfl rfl (cell_one _ _ _) (by omega) (by omega) (by simp; omega) ?_); intro g2 cap w10 hown10 hgr10 hat10)
      go_roundw
      case rel => exact ⟨k + 1, by omega, by go_num, hid (by rw [hs1.out]; exact HR9.out.snocN hcl1.out hrow.out HUS1.out HUS2.out HUS3.out hown10 hgr10 hat10), hid (fun b hb => by
          have e : g2 = b := by simpa [Value.ownBlock] using hb
          subst e
          rcases hat10 with h | h
          · exact HV.out g2 h
          · rw [World.size_alloc] at h; exact .inr (by omega)), hid ((Keeps.ofGrown hgr10).heap (((Keeps.refl NoB _).alloc _).heap (HKr.out.heap HBX.out (fun h => h)) (fun h => h)) (fun e => own_ne HUS2.out (HKr.out.heap HBX.out (fun h => h)) (by decide) e.symm)), hid (((HKg.out.fresh HKr.out).alloc _).grown hgr10 (fun i e hlt => by
          rcases HV.out i e.symm with h | h
          · exact h
          · omega)), hid (((HKw.out.fresh HKr.out).alloc _).grown hgr10 (fun i e hlt => by have := (hbr.out i e.symm).1; omega))⟩
      case measure => simp [intOf]; omega
    · obtain rfl : k = a := by omega
      go_wp2_with fail
      go_ret2
      exact ⟨_, rfl, by rw [← hcN.out]; exact HR.out, HKw.out⟩
end Go.Proofs.Ytnnkfopopanfjaa
