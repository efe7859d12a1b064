/- All composite blocks of an object, by the document: the walk of almonryref13.Blocks. Conditions: numbers are of their kinds; parameters that may be. -/
import Derived.Test.YtnnkfopopanfjaaCompose
import Derived.Test.YtnnkfopopanfjaaRef10Eqs
set_option linter.unusedVariables false
namespace Go.Proofs.Ytnnkfopopanfjaa
open Go.RowKit
attribute [local go_sem ↓] Go.wp_at_zero Go.wp_at_succ

/-- 'append(v, us...)' of one cell each, at a step of a region that draws its order, v empty and the call's own. -/
theorem step_appVs {P : Program} {w : World} {ops : Array Oper} {o : Oper} {a : Act} {K : Act → World → Prop} {Q : Exit → Act → World → Prop} {E : Prop} (hgd : o.guard = none) (s x : Operand) (t : TypeId)
    (ho : o.op = .call { callee := .builtin .append, args := #[s, x], argTypes := #[t, t] }) (base : Nat) (e : TypeId) (z : Value) (bytes : Nat) (ht : P.underlying t = some (.slice e))
    (hi : (P.info? e).map (fun i => (i.zero, i.size, i.bytes)) = some (some z, 1, bytes)) (hz : z.cells.size = 1) (v : Value) (hs : a.eval s = v) (hown : w.ownsRow base e 1 v 0 []) (bx ox m c : Nat) (us : List Value) (hm : us.length = m) (h0 : 0 < m) (hy : ∀ u ∈ us, u.oneCell' = true)
    (hx : a.eval x = .slice (some ⟨bx, ox, none⟩) m c) (hcell : ∀ (j : Nat) (u : Value), us[j]? = some u → w.cell? ⟨bx, ox + j, none⟩ = some u) (hb : m * bytes ≤ 140737488355328) (hmx : m ≤ 140737488355328) (hbase : base ≤ w.heap.size)
    (h : ∀ g cap w', w'.ownsRow base e 1 (.slice (some ⟨g, 0, none⟩) m cap) m us → w.grownBy w' v.ownBlock → (v.ownBlock = some g ∨ g = w.heap.size) → K (a.put o.dst (.slice (some ⟨g, 0, none⟩) m cap)) w') :
    if Region.wanted o (yielded ops a.tmps) = true then Oper.wp P o a w K Q else E := by
  obtain ⟨i, i1, i2, i3, i4⟩ := info_parts hi
  refine step_append_lies (H := w.heap.size) (hH := rfl) (w := w) hgd s x t ho base e i z 1 bytes ht i1 i2 i3 i4 hz (by decide) v 0 [] hs hown ⟨bx, ox, none⟩ m c us hx (by omega) ?_ hy h0 (by unfold maxLen; omega) (by rw [Nat.zero_add]; exact hb) hbase ?_
  · intro j u hu
    have := hcell j u hu
    unfold Addr.add
    split
    · rename_i e0; subst e0; simpa using this
    · exact this
  · intro g cap w' h1 h2 h3 _
    rw [Nat.zero_add, List.nil_append] at h1
    rw [Nat.zero_add]
    exact h g cap w' h1 h2 h3
set_option maxHeartbeats 4000000 in
set_option maxRecDepth 20000 in
theorem rcomp_calls (p : Par) (session : Nat) (obj : List UInt8) (A : Option Addr) (c : Nat) (R : Nat → Prop) (w : World) (hm : p.may) (hs : session < 18446744073709551616) (ho : BytesIn R w A obj) (hn60 : p.n ≤ 60) :
    Calls Try.prog 10 #[p.val, .int .u64 (session : Int), .slice A obj.length c] w fun e w' => ∃ v, e = .returned v ∧ OwnRows (fun b => w.heap.size ≤ b) w' w.heap.size v (compN p session obj) ∧ Keeps NoB w w' := by
  have hu := Try.underlying23
  have hus := Try.underlying32
  have HM := hid hm
  have HO := hid ho
  obtain ⟨N, B, hpn, hpb, hpn2, hpb2, hN1, hN2, hB1, hB2, hNB, hNB2⟩ := par_sizes hm
  have hN60 : N ≤ 60 := by omega
  have hab := auxN_bounds hm
  obtain ⟨a, ha⟩ : ∃ a : Nat, auxN p = (a : Int) := ⟨(auxN p).toNat, by omega⟩
  have ha2 : a ≤ 4613735 := by omega
  have hlhn := hid (show (hasN p session p.n.toNat).length = a by rw [hasN_length, ha]; rfl)
  have hbh := hid (fun j => Nat.le_trans (hasN_bound p session hm p.n.toNat j) (show 8 * p.n.toNat ≤ 8388608 by omega))
  have hra := hid (has_range' hm session obj)
  have hc0 := hid (show compK p session obj 0 = splitN p obj by simp [compK])
  have hcN := hid (show compK p session obj a = compN p session obj by unfold compN; rw [ha]; rfl)
  have hcs := hid (compK_succ p session obj)
  have hcl := hid (fun k => (compK_length p session obj k).trans (by rw [hpn2] : p.n.toNat + k = N + k))
  have hsl := hid (show (splitN p obj).length = N by rw [splitN_length, hpn2])
  have haux := hid (show ∀ j, sumB B (pickR (splitN p obj) (gl (hasN p session p.n.toNat) j)) = auxB p session obj j ∧ fitB B (pickR (splitN p obj) (gl (hasN p session p.n.toNat) j)) = true ∧ inRange (splitN p obj).length (gl (hasN p session p.n.toNat) j) from fun j =>
    ⟨by unfold auxB; rw [hpb2], by rw [← hpb2]; exact pick_fit p obj (hra.out j), hra.out j⟩)
  have hal := hid (show ∀ j, (auxB p session obj j).length = B from fun j => (auxB_length hm session obj j).trans hpb2)
  have HPB := hid hpb
  clear hm hNB hNB2 ho hpn hpb hpn2 hpb2 hab ha hra hn60
  unfold Par.val
  go_enter Try.func10, Try.ntmps10
  go_wp2_with fail
  refine (rsplit_calls p obj A c R _ HM.out (HO.out.kept ((Keeps.refl NoB w).alloc _))).mono ?_
  rintro e w1 ⟨v1, rfl, HR1, HK1⟩
  have hbox := hid (HK1.heap (heap_alloc_new w (.cells #[.int .i64 p.n, .int .i64 p.b, .int .i64 p.q, .int .i64 p.eps, .int .i64 p.f] 23)) (fun h => h))
  have hs1 := HK1.size
  rw [World.size_alloc] at hs1
  have HR1 := hid ((OwnRows.lower (base' := w.heap.size) HR1 (by simp)).mono (R' := fun b => w.heap.size ≤ b) (fun b _ hb => by simp at hb; omega))
  have HK1 := hid (((Keeps.refl NoB w).alloc _).fresh HK1)
  obtain ⟨pb, hpb⟩ : ∃ pb, pb = w.heap.size := ⟨_, rfl⟩
  rw [← hpb] at hbox ⊢
  clear hpb
  obtain ⟨b0, b1, b2, b3, b4⟩ := cells5 hbox.out
  go_wp2_with fail
  refine (rHas_calls p session _ HM.out hs).mono ?_
  rintro e w2 ⟨Ah, ch, rfl, hrh, HK2⟩
  have hrh := hid hrh
  have hbox := hid (HK2.heap hbox.out (fun h => h))
  have HR2 := hid (HR1.out.kept HK2)
  have HKo := hid (HK1.out.fresh HK2)
  have hs2 := HK2.size
  obtain ⟨Am, cm, hvm, _, _, hrm⟩ := HR2.out.reads
  rw [hsl.out] at hvm
  have hrm := hid hrm
  generalize hasN p session p.n.toNat = has at *
  rw [hlhn.out]
  clear b0 b1 b2 b3 b4
  subst hvm
  go_wp2_with fail
  go_loopw [7, 10] (fun v7 v10 wr => ∃ k : Nat, k ≤ a ∧ v10 = .int .i64 (k : Int) ∧ Hid (OwnRows (fun b => w.heap.size ≤ b) wr w.heap.size v7 (compK p session obj k)) ∧ Hid (Keeps NoB w2 wr)) (fun _ v10 _ => a - (intOf v10).toNat)
  case atStart => exact ⟨0, Nat.zero_le _, rfl, by rw [hc0.out]; exact HR2, hid (Keeps.refl _ _)⟩
  case round =>
    obtain ⟨k, hk, rfl, HR, HKg⟩ := hrel
    by_cases hlt : k < a
    · obtain ⟨bh, oh, rfl, hch⟩ := hrh.out.2 (by rw [hlhn.out]; omega)
      obtain ⟨u1, hc1, Ahk, chk, rfl, _, _, hath⟩ := hch k (by rw [hlhn.out]; exact hlt)
      have hbk := hbh.out k
      obtain ⟨hx1, hx2, hx3⟩ := haux.out k
      have hs1 := hid (hcs.out k)
      have hcl1 := hcl.out k
      have hal1 := hal.out k
      generalize gl has k = hk' at *
      generalize compK p session obj k = lsk at *
      generalize splitN p obj = lsm at *
      obtain ⟨AX, hAX⟩ : ∃ AX, auxB p session obj k = AX := ⟨_, rfl⟩
      rw [hAX] at hx1 hs1 hal1
      have hs1 := hid hs1.out
      have hx1 := hid hx1
      have hx2 := hid hx2
      have hcl1 := hid hcl1
      have hal1 := hid hal1
      have hath := hid hath
      obtain ⟨us, Av, cv, hv, hus1, hus2, hus3⟩ := HR.out.parts hcl1.out
      subst hv
      have hbr := hid (fun b hb => HR.out.base_le b hb)
      obtain ⟨gv, rfl⟩ : ∃ gv, Av = some ⟨gv, 0, none⟩ := by
        rcases hus2.2 with ⟨e, h0⟩ | ⟨gv, cap, cur, e, _⟩
        · omega
        · injection e with e; exact ⟨gv, e⟩
      have hone := hid (show ∀ u ∈ us, u.oneCell' = true from fun u hu => by
        obtain ⟨j, hj, rfl⟩ := List.getElem_of_mem hu
        obtain ⟨A', c', e, _⟩ := hus3 j _ (List.getElem?_eq_getElem hj)
        rw [e]; rfl)
      have hcv := hid (fun (j : Nat) (u : Value) (hu : us[j]? = some u) => own_cell hus2 hu)
      have HUS1 := hid hus1
      have HUS2 := hid hus2
      have HUS3 := hid hus3
      have hsome := hid (fun (w' : World) (hk : Keeps NoB wr w') => rpick_calls lsm hk' Am cm Ahk chk _ w' (hrm.out.kept (HKg.out.fresh hk)) (hath.out.kept (HKg.out.fresh hk)) hx3 (by omega))
      rw [hsl.out] at hsome
      have hpl := hid (pickR_length lsm hk')
      obtain ⟨b0, b1, b2, b3, b4⟩ := cells5 (HKg.out.heap hbox.out (fun h => h))
      rw [HPB.out] at b1
      have c1 := HKg.out.cell hc1 (fun h => h)
      have hSall := hid (show ∀ w', Keeps NoB wr w' → w'.cell? ⟨pb, 1, none⟩ = some (.int .i64 (B : Int)) ∧ w'.cell? ⟨bh, oh + k, none⟩ = some (.slice Ahk hk'.length chk) from fun w' hk => ⟨hk.cell b1 (fun h => h), hk.cell c1 (fun h => h)⟩)
      have HKr := hid (Keeps.refl NoB wr)
      have q0 : (0 : Int) ≤ (k : Int) := by omega
      have q1 : (k : Int) < (a : Int) := by omega
      clear hAX hx3 hch hus1 hus2 hus3 hc1 b0 b2 b3 b4
      go_wp2_with fail
      go_region_held3 (fun w' => w'.cell? ⟨pb, 1, none⟩ = some (.int .i64 (B : Int)) ∧ w'.cell? ⟨bh, oh + k, none⟩ = some (.slice Ahk hk'.length chk)) (first | (exact hSall.out _ HKr.out) | (exact hSall.out _ HKr.out.drew) | (exact hSall.out _ (HKr.out.alloc _)) | (exact hSall.out _ (HKr.out.alloc _).drew) | go_keep) (first
        | (have HKr := hid (HKr.out.alloc (.cells #[] 25)); have hE := hid (show (wr.alloc (.cells #[] 25)).ownsRow wr.heap.size 25 1 (.slice (some ⟨wr.heap.size, 0, none⟩) 0 0) 0 [] from World.ownsRow_made wr #[] 0 (Nat.le_refl _) (Nat.zero_le _) rfl); refine step_appVs rfl _ _ 32 rfl wr.heap.size 25 (.slice none 0 0) 24 hus info_bytes rfl (.slice (some ⟨wr.heap.size, 0, none⟩) 0 0) rfl (by exact hE.out) gv 0 (N + k) cv us HUS1.out (by omega) hone.out rfl (fun j u hu => by rw [Nat.zero_add]; exact HKr.out.cell (hcv.out j u hu) (fun h => h)) (by omega) (by omega) (by simp) ?_; intro g9 cap9 w9 hown9 hgr9 hat9; have HKr := hid (show Keeps NoB wr w9 from (HKr.out.drew.grown hgr9 (fun i e hlt => by simp [Value.ownBlock] at e; omega))); have HK9 := hid (Keeps.refl NoB w9); have hg9 := hid (show wr.heap.size ≤ g9 from (World.ownsRow.lt hown9 g9 rfl).1); have hg9l := hid (World.ownsRow.lt hown9 g9 rfl).2)
        | (go_at_call 33; refine (hsome.out _ (by first | exact HKr.out | exact HKr.out.drew)).mono ?_; rintro e w8 ⟨v8, rfl, hown8, HK8⟩; obtain ⟨A8, c8, rfl, _, _, hrows8⟩ := hown8.reads; have HKr := hid (show Keeps NoB wr w8 by first | exact HKr.out.fresh HK8 | exact HKr.out.drew.fresh HK8); have HK9 := hid (show Keeps NoB w9 w8 by first | exact HK9.out.fresh HK8 | exact HK9.out.drew.fresh HK8))
        | (go_at_call 32; refine (rsum_calls B (pickR lsm hk') A8 c8 _ _ (by omega) hrows8 hx2.out).mono ?_; rintro e w10 ⟨v10, rfl, hown10, HK10⟩; rw [hx1.out] at hown10; have hown10 := OwnInts.lower (base' := w8.heap.size) hown10 (by first | exact Nat.le_refl _ | simp); have hb10 := hid (fun b hb => (OwnInts.base_le hown10 b hb).1); have hrow10 := OwnB.row (show OwnB w10 w8.heap.size v10 AX from hown10); have hs98 := HK9.out.size; have HKr := hid (show Keeps NoB wr w10 by first | exact HKr.out.fresh HK10 | exact HKr.out.drew.fresh HK10); have HK9 := hid (show Keeps NoB w9 w10 by first | exact HK9.out.fresh HK10 | exact HK9.out.drew.fresh HK10); obtain ⟨A10, c10, hv10, h101, h102, h103⟩ := hrow10; rw [hal1.out] at hv10; subst hv10)
        | (have hO11 := hid (World.ownsRow.alloc (own_keeps hown9 HK9.out (fun _ _ h => h)) (.cells #[.slice A10 B c10] 25)); refine step_app1V rfl _ _ 32 rfl wr.heap.size 25 (.slice none 0 0) 24 hus info_bytes rfl (.slice (some ⟨g9, 0, none⟩) (N + k) cap9) (N + k) us rfl (by exact hO11.out) _ _ (.slice A10 B c10) rfl rfl (cell_one w10 _ _) (by omega) (by omega) (by have h1 := HKr.out.size; simp; omega) ?_; intro g11 cap11 w11 hown11 hgr11 hat11; have HKz := hid HKr.out; have HKr := hid ((HKr.out.alloc (.cells #[.slice A10 B c10] 25)).grown hgr11 (fun i e hlt => by have h1 := hg9.out; simp [Value.ownBlock] at e; omega))))
      all_goals go_wp2_with fail
      all_goals go_roundw
      case rel =>
        have hrowx := hid (show RowIn (fun b => w.heap.size ≤ b ∧ (Value.slice (some ⟨g9, 0, none⟩) (N + k) cap9).ownBlock ≠ some b) w10 (.slice A10 B c10) AX from RowIn.mono ⟨A10, c10, by rw [hal1.out], h101, h102, h103⟩ (fun b _ hb => by
          have h1 := hb10.out b hb
          have h2 := hg9l.out
          have h3 := HKg.out.size
          have h4 := HKz.out.size
          have h5 := hg9.out
          have h6 := HKo.out.size
          exact ⟨by omega, fun e => by simp [Value.ownBlock] at e; omega⟩))
        have hR9 : OwnRows (fun b => w.heap.size ≤ b) w10 wr.heap.size (.slice (some ⟨g9, 0, none⟩) (N + k) cap9) lsk := ⟨us, by rw [HUS1.out, hcl1.out], by rw [hcl1.out]; exact own_keeps hown9 HK9.out (fun _ _ h => h), fun j u hu => by
          have h1 : RowIn (fun b => w.heap.size ≤ b ∧ b < wr.heap.size) wr u (gr lsk j) := (HUS3.out j u hu).mono (fun b h1 h2 => ⟨h2.1, h1⟩)
          exact (h1.keeps HKz.out (fun _ _ h => h)).mono (fun b _ hb => ⟨hb.1, fun e => by have h5 := hg9.out; simp [Value.ownBlock] at e; omega⟩)⟩
        exact ⟨k + 1, by omega, by go_num, hid (by rw [hs1.out]; exact OwnRows.lower (hR9.snocN hcl1.out hrowx.out HUS1.out (own_keeps hown9 HK9.out (fun _ _ h => h)) (fun j u hu => by
          have h1 : RowIn (fun b => w.heap.size ≤ b ∧ b < wr.heap.size) wr u (gr lsk j) := (HUS3.out j u hu).mono (fun b h1 h2 => ⟨h2.1, h1⟩)
          exact (h1.keeps HKz.out (fun _ _ h => h)).mono (fun b _ hb => ⟨hb.1, fun e => by have h5 := hg9.out; simp [Value.ownBlock] at e; omega⟩)) hown11 hgr11 hat11) (by have := HKg.out.size; have := HKo.out.size; omega)), hid (HKg.out.fresh HKr.out)⟩
      case measure => simp [intOf]; omega
    · obtain rfl : k = a := by omega
      go_wp2_with fail
      go_ret
      exact ⟨_, rfl, by rw [← hcN.out]; exact HR.out, HKo.out.fresh HKg.out⟩
end Go.Proofs.Ytnnkfopopanfjaa
