/- The reference of the graph: Take walked. Condition: lengths are small. -/
import Derived.Test.YtnoooeeciebhfaaRef19Put
set_option linter.unusedVariables false
namespace Go.Proofs.Ytnoooeeciebhfaa
open Go.RowKit

/-- An equation more at a step of a region that draws its order. -/
theorem step_app1EqN {R : Nat → Prop} {w : World} {ops : Array Oper} {o : Oper} {a : Act} {K : Act → World → Prop} {Q : Exit → Act → World → Prop} {E : Prop} (hgd : o.guard = none) (s x : Operand) (t : TypeId)
    (ho : o.op = .call { callee := .builtin .append, args := #[s, x], argTypes := #[t, t] }) (base : Nat) (ht : Try.prog.underlying t = some (.slice 79)) (v : Value) (es : List EqN) (hs : a.eval s = v) (hown : OwnEqN R w base v es) (bx c : Nat) (u1 u2 : Value) (e : EqN)
    (hx : a.eval x = .slice (some ⟨bx, 0, none⟩) 1 c) (hc1 : w.cell? ⟨bx, 0, none⟩ = some u1) (hc2 : w.cell? ⟨bx, 1, none⟩ = some u2) (hp : PairN (fun b => R b ∧ v.ownBlock ≠ some b) w u1 u2 e) (n : Nat) (hn : es.length = n) (hb : n + 1 ≤ 1073741824) (hbase : base ≤ w.heap.size)
    (h : ∀ A' c' w', OwnEqN R w' base (.slice A' (n + 1) c') (es ++ [e]) → w.grownBy w' v.ownBlock → ((Value.slice A' (n + 1) c').ownBlock = v.ownBlock ∨ (Value.slice A' (n + 1) c').ownBlock = some w.heap.size) → K (a.put o.dst (.slice A' (n + 1) c')) w') : if Region.wanted o (yielded ops a.tmps) = true then Oper.wp Try.prog o a w K Q else E := by
  have hw : Region.wanted o (yielded ops a.tmps) = true := by simp [Region.wanted, hgd]
  rw [if_pos hw]
  subst hn
  obtain ⟨i, i1, i2, i3, i4⟩ := info_parts info_eqN
  obtain ⟨us, hus, hpp⟩ := hown
  have hones := hp.ones
  refine wp_append_at s x t ho base 79 i _ 2 32 ht i1 i2 i3 i4 rfl (by decide) v es.length us hs hus ⟨bx, 0, none⟩ 1 c [u1, u2] hx rfl (fun j u hj => ?_) (fun u hu => ?_) (by unfold maxLen; omega) (by omega) hbase ?_
  · match j, hj with
    | 0, hj => simp at hj; subst hj; exact hc1
    | 1, hj => simp at hj; subst hj; exact hc2
  · rcases List.mem_cons.1 hu with e1 | hu
    · rw [e1]; exact hones.1
    · rw [List.mem_singleton.1 hu]; exact hones.2
  · intro v' w' h1 h2 hat
    obtain ⟨A', c', e', _⟩ : ∃ A' c', v' = .slice A' (es.length + 1) c' ∧ True := by
      rcases h1.2 with ⟨rfl, h0⟩ | ⟨g, cap, cur, rfl, _⟩
      · omega
      · exact ⟨_, cap, rfl, trivial⟩
    subst e'
    refine h A' c' w' ⟨us ++ [u1, u2], by rw [List.length_append]; exact h1, ?_⟩ h2 hat
    have key : ∀ (vs : List Value) (fs : List EqN), PairsN (fun b => R b ∧ v.ownBlock ≠ some b) w vs fs → PairsN (fun b => R b ∧ (Value.slice A' (es.length + 1) c').ownBlock ≠ some b) w' vs fs := fun vs fs hv => by
      have h5 : PairsN (fun b => (R b ∧ v.ownBlock ≠ some b) ∧ b < w.heap.size) w vs fs := hv.mono (fun b h1 h2 => ⟨h2, h1⟩)
      refine (h5.keeps (Keeps.ofGrown h2) (fun b hb e => hb.1.2 e.symm)).mono (fun b _ hb => ⟨hb.1.1, fun e => ?_⟩)
      rcases hat with h6 | h6
      · exact hb.1.2 (by rw [← h6]; exact e)
      · have e7 := e.symm.trans h6
        injection e7 with e7
        have := hb.2
        omega
    exact (key us es hpp).append (key [u1, u2] [e] (PairsN.one hp))
theorem takeN_snoc (es : List EqN) (b : Int) (e : EqN) : takeN (es ++ [e]) b = takeN es b ++ [⟨e.num, withoutN e.rest b⟩] := by unfold takeN; rw [List.map_append]; rfl
set_option maxHeartbeats 3200000 in
set_option maxRecDepth 20000 in
theorem take19_calls (es : List EqN) (n : Int) (A : Option Addr) (c : Nat) (R : Nat → Prop) (w : World) (h : EqsN R w A es) (hm : es.length ≤ 1000000) (hr : ∀ e ∈ es, e.rest.length ≤ 1000000) :
    Calls Try.prog 21 #[.slice A es.length c, .int .i64 n] w fun e w' => ∃ v, e = .returned v ∧ OwnEqN (fun b => w.heap.size ≤ b) w' w.heap.size v (takeN es n) ∧ Keeps NoB w w' := by
  have HE := hid h.lt
  have HR := hid (fun k (hk : k < es.length) => hr (gn es k) (gn_mem es k hk))
  clear h hr
  obtain ⟨m, hm1⟩ : ∃ m, es.length = m := ⟨_, rfl⟩
  rw [hm1] at hm HR ⊢
  have HM := hid hm1
  clear hm1
  have hue := Try.underlying38
  go_enter Try.func21, Try.ntmps21
  go_wp2_with fail
  have HO1 := hid (OwnEqN.empty (fun b => w.heap.size ≤ b) w w.heap.size (Nat.le_refl _))
  have HK1 := hid ((Keeps.refl NoB w).alloc (.cells #[] 79))
  generalize hw1 : w.alloc (.cells #[] 79) = w1 at *
  clear hw1
  go_loopw [5, 6] (fun v5 v6 wr => ∃ k : Nat, k ≤ m ∧ v6 = .int .i64 (k : Int) ∧ Hid (OwnEqN (fun b => w.heap.size ≤ b) wr w.heap.size v5 (takeN (es.take k) n)) ∧ Hid (Keeps NoB w wr)) (fun _ v6 _ => m - (intOf v6).toNat)
  case atStart => exact ⟨0, Nat.zero_le _, rfl, HO1, HK1⟩
  case round =>
    clear HO1 HK1
    obtain ⟨k, hk, rfl, HO, HK⟩ := hrel
    by_cases hlt : k < m
    · obtain ⟨b, off, rfl, _, hc⟩ := HE.out.2 (by rw [HM.out]; omega)
      obtain ⟨u1, u2, c1, c2, rfl, A2, d2, rfl, hd2, hz2, hat2⟩ := hc k (by rw [HM.out]; exact hlt)
      have HCC := hid (fun (w' : World) (hk' : Keeps NoB w w') => And.intro (hk'.cell c1 (fun h => h)) (hk'.cell c2 (fun h => h)))
      have p0 : (0 : Int) ≤ (k : Int) := by omega
      have p1 : (k : Int) < (m : Int) := by omega
      have hrk := HR.out k hlt
      have HWC := hid (fun (w' : World) (hk' : Keeps NoB w w') => without_calls (gn es k).rest n A2 d2 w' (hat2.1.kept hk') hrk)
      have hszw := HK.out.size
      have HT := hid (show takeN (es.take (k + 1)) n = takeN (es.take k) n ++ [⟨(gn es k).num, withoutN (gn es k).rest n⟩] by rw [take_gn (by rw [HM.out]; exact hlt), takeN_snoc])
      have hlk : (takeN (es.take k) n).length = k := by unfold takeN; rw [List.length_map, List.length_take, HM.out]; omega
      have HLK := hid hlk
      have hww : (withoutN (gn es k).rest n).length ≤ (gn es k).rest.length := List.length_filter_le _ _
      clear hc hat2 hz2 hd2 c1 c2 hlk
      obtain ⟨lr, hlr⟩ : ∃ lr, (gn es k).rest.length = lr := ⟨_, rfl⟩
      rw [hlr] at HCC HWC hrk hww
      clear hlr
      generalize (gn es k).num = x at *
      generalize withoutN (gn es k).rest n = l at *
      go_wp2_with fail
      have HKr := hid HK.out
      have HOr := hid HO.out
      go_region_held3 (fun w' => w'.cell? ⟨b, off + k * 2, none⟩ = some (.int .i64 x) ∧ w'.cell? ⟨b, off + k * 2 + 1, none⟩ = some (.slice A2 lr d2)) (first | (exact HCC.out _ HKr.out) | (exact HCC.out _ HKr.out.drew) | (exact HCC.out _ (HKr.out.alloc _)) | (exact HCC.out _ (HKr.out.alloc _).drew) | go_keep) (first
        | (go_at_call 43; refine (HWC.out _ (by first | exact HKr.out | exact HKr.out.drew)).mono ?_; rintro e w3 ⟨v3, rfl, ho3, hk3⟩; have ho4 := (show OwnInts w3 wr.heap.size .i64 3 v3 l from ho3); have HOW := hid (fun (W : World) (hW : Keeps NoB w3 W) => (HOr.out.kept (show Keeps NoB wr w3 by first | exact hk3 | exact (Keeps.refl NoB wr).drew.fresh hk3)).kept hW); obtain ⟨A3, c3, hv3, _, _⟩ := ho4.reads; obtain ⟨ll, hll⟩ : ∃ ll, l.length = ll := ⟨_, rfl⟩; rw [hll] at hv3; subst hv3; have HPW := hid (fun (W : World) (hW : Keeps NoB w3 W) => show PairN (fun b => w.heap.size ≤ b ∧ u5.ownBlock ≠ some b) W (.int .i64 x) (.slice A3 ll c3) ⟨x, l⟩ from ⟨rfl, ((OwnInts.nums ho4).keeps hW (fun _ _ h => h)).mono (fun b _ hb => ⟨by have h1 := (ho4.base_le b hb).1; omega, fun e => by have h1 := (ho4.base_le b hb).1; have h2 := (HO.out.base_le b e).2; omega⟩)⟩); have HKr := hid (show Keeps NoB w w3 by first | exact HKr.out.fresh hk3 | exact HKr.out.drew.fresh hk3); have HKW := hid (fun (W : World) (hW : Keeps NoB w3 W) => HKr.out.fresh hW); have HBW := hid (fun (W : World) (hW : Keeps NoB w3 W) => (HKr.out.fresh hW).size); clear ho3 ho4 hk3 hll)
        | (refine step_app1EqN rfl _ _ 38 rfl w.heap.size hue u5 (takeN (es.take k) n) rfl (HOW.out _ (by first | exact (Keeps.refl NoB _).alloc _ | exact (Keeps.refl NoB _).drew.alloc _ | exact ((Keeps.refl NoB _).alloc _).drew | exact ((Keeps.refl NoB _).drew.alloc _).drew)) _ _ _ _ ⟨x, l⟩ rfl (cells2 (heap_alloc_new _ _)).1 (cells2 (heap_alloc_new _ _)).2 (HPW.out _ (by first | exact (Keeps.refl NoB _).alloc _ | exact (Keeps.refl NoB _).drew.alloc _ | exact ((Keeps.refl NoB _).alloc _).drew | exact ((Keeps.refl NoB _).drew.alloc _).drew)) k HLK.out (by omega) (HBW.out _ (by first | exact (Keeps.refl NoB _).alloc _ | exact (Keeps.refl NoB _).drew.alloc _ | exact ((Keeps.refl NoB _).alloc _).drew | exact ((Keeps.refl NoB _).drew.alloc _).drew)) ?_; intro A9 c9 w9 hown9 hgr9 hat9; have HO9 := hid hown9; have HK9 := hid ((HKW.out _ (by first | exact (Keeps.refl NoB _).alloc _ | exact (Keeps.refl NoB _).drew.alloc _ | exact ((Keeps.refl NoB _).alloc _).drew | exact ((Keeps.refl NoB _).drew.alloc _).drew)).grown hgr9 (fun i e hi => by have := (HO.out.base_le i e.symm).1; omega)); have HKr := hid HK9.out; clear hown9 hgr9 hat9))
      all_goals go_wp2_with fail
      all_goals go_roundw
      case rel => exact ⟨k + 1, by omega, by go_num, hid (by rw [HT.out]; exact HO9.out), HK9⟩
      case measure => simp [intOf]; omega
    · obtain rfl : k = m := by omega
      have ht : es.take k = es := by rw [← HM.out]; exact List.take_length
      rw [ht] at HO
      go_wp2_with fail
      go_ret
      exact ⟨_, rfl, HO.out, HK.out⟩
end Go.Proofs.Ytnoooeeciebhfaa
