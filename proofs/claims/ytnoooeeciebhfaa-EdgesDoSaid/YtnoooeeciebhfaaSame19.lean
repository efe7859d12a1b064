/- Are all equations of the graph the document's: the walk of almonrylaw19.same. Conditions: lengths are small. -/
import Derived.Test.YtnoooeeciebhfaaRef19Take
import Derived.Test.YtnoooeeciebhfaaSame
set_option linter.unusedVariables false
namespace Go.Proofs.Ytnoooeeciebhfaa
open Go.RowKit Go.ChangeShapes

set_option maxHeartbeats 3200000 in
set_option maxRecDepth 20000 in
theorem same19_calls (base gb n : Nat) (es : List EqN) (c p : Int) (A : Option Addr) (ca : Nat) (R : Nat → Prop) (w : World) (hg : GOk w base gb n (repN es) c p) (hgood : GoodN es) (h : EqsN R w A es) (hm : es.length ≤ 1000000) (hr : ∀ e ∈ es, e.rest.length ≤ 1000000) (hwf : ∀ e ∈ es, (Lit.int .i64 e.num).wf = true) :
    Calls Try.prog 26 #[.pointer (some ⟨gb, 0, none⟩), .slice A es.length ca, .int .i64 p] w fun e w' => e = .returned (.bool true) ∧ Keeps NoB w w' := by
  have hc : c = (edgesN es : Int) := hg.cnt.uniq (cnt_repN hgood)
  have HE := hid h
  have HHAS := hid (fun (k : Nat) (hk : k < es.length) (W : World) (hW : Keeps NoB w W) => ghas_calls base gb n (repN es) c p (gn es k).num W (hg.st.kept hW) (hwf _ (gn_mem es k hk)))
  have HREST := hid (fun (k : Nat) (hk : k < es.length) (W : World) (hW : Keeps NoB w W) => grest_calls base gb n (repN es) c p (gn es k).num W (hg.st.kept hW) (hwf _ (gn_mem es k hk)) (by have := hg.small; omega))
  have HIN := hid (fun (k : Nat) (hk : k < es.length) => (show (repN es (gn es k).num).isSome = true by rw [repN_some hgood (gn_mem es k hk)]; rfl))
  have HKY := hid (fun (k : Nat) (hk : k < es.length) (l : List Int) (hl : KeysOf (hasF (repN es) (gn es k).num) l) => keys_rest hgood (gn_mem es k hk) hl)
  have HEQ := hid (fun (W : World) (hW : Keeps NoB w W) => gequations_calls base gb n (repN es) c p W (hg.st.kept hW) (nums es) hgood.one (fun x => by rw [repN_isSome, decide_eq_true_iff]))
  have HED := hid (fun (W : World) (hW : Keeps NoB w W) => gedges_calls base gb n (repN es) c p W (hg.st.kept hW))
  have HMO := hid (fun (W : World) (hW : Keeps NoB w W) => gmost_calls base gb n (repN es) c p W (hg.st.kept hW))
  have HRE := hid (fun (W : World) (hW : Keeps NoB w W) => edges19_calls es A ca R W (h.kept hW) hm hr)
  have hnl : (nums es).length = es.length := by unfold nums; rw [List.length_map]
  rw [hnl] at HEQ
  clear hg hgood h hr hwf hnl
  obtain ⟨m, hm1⟩ : ∃ m, es.length = m := ⟨_, rfl⟩
  rw [hm1] at hm HEQ HRE ⊢
  have HM := hid hm1
  clear hm1
  rw [hc] at HED
  clear hc
  generalize edgesN es = ed at *
  go_enter Try.func26, Try.ntmps26
  go_wp2_with fail
  go_loopw [8, 11] (fun _ v11 wr => ∃ k : Nat, k ≤ m ∧ v11 = .int .i64 (k : Int) ∧ Hid (Keeps NoB w wr)) (fun _ v11 _ => m - (intOf v11).toNat)
  case atStart => exact ⟨0, Nat.zero_le _, rfl, hid (Keeps.refl _ _)⟩
  case round =>
    obtain ⟨k, hk, rfl, HK⟩ := hrel
    by_cases hlt : k < m
    · obtain ⟨b, off, rfl, _, hcc⟩ := HE.out.2 (by rw [HM.out]; omega)
      obtain ⟨u1, u2, c1, c2, rfl, A2, d2, rfl, hd2, hz2, hat2⟩ := hcc k (by rw [HM.out]; exact hlt)
      have c1 := HK.out.cell c1 (fun h => h)
      have c2 := HK.out.cell c2 (fun h => h)
      have p0 : (0 : Int) ≤ (k : Int) := by omega
      have p1 : (k : Int) < (m : Int) := by omega
      have HH := hid (HHAS.out k (by rw [HM.out]; exact hlt))
      have HR1 := hid (HREST.out k (by rw [HM.out]; exact hlt))
      have HKK := hid (HKY.out k (by rw [HM.out]; exact hlt))
      have hin := HIN.out k (by rw [HM.out]; exact hlt)
      have HAT := hid (hat2.1.kept HK.out)
      rw [hin] at HH
      clear hcc hin hat2 hz2 hd2
      obtain ⟨rs, hrs⟩ : ∃ rs, (gn es k).rest = rs := ⟨_, rfl⟩
      rw [hrs] at c2 HKK HAT
      clear hrs
      obtain ⟨lr, hlr⟩ : ∃ lr, rs.length = lr := ⟨_, rfl⟩
      have HSL := hid hlr
      rw [hlr] at c2
      clear hlr
      generalize (gn es k).num = x at *
      go_wp2_with fail
      have HBX := hid (heap_alloc_new wr (.cells #[.int .i64 x, .slice A2 lr d2] 79))
      have HKB := hid (HK.out.alloc (.cells #[.int .i64 x, .slice A2 lr d2] 79))
      have HATB := hid (HAT.out.kept ((Keeps.refl NoB wr).alloc (.cells #[.int .i64 x, .slice A2 lr d2] 79)))
      generalize hwb : wr.alloc (.cells #[.int .i64 x, .slice A2 lr d2] 79) = wb at *
      clear hwb c1 c2 HAT
      have HKr := hid (Keeps.refl NoB wb)
      have HCC := hid (fun (W : World) (hW : Keeps NoB wb W) => cells2 (hW.heap HBX.out (fun h => h)))
      have hsm := hid (show sameN rs rs = 1 from if_pos rfl)
      go_region_held3 (fun w' => w'.cell? ⟨wr.heap.size, 0, none⟩ = some (.int .i64 x) ∧ w'.cell? ⟨wr.heap.size, 1, none⟩ = some (.slice A2 lr d2)) (first | (exact HCC.out _ HKr.out) | (exact HCC.out _ HKr.out.drew) | go_keep) (first
        | (go_at_call 27; refine (HH.out _ (HKB.out.fresh (by first | exact HKr.out | exact HKr.out.drew))).mono ?_; rintro e w3 ⟨rfl, hk3⟩; have HKr := hid (show Keeps NoB wb w3 by first | exact HKr.out.fresh hk3 | exact HKr.out.drew.fresh hk3); clear hk3)
        | (go_at_call 15; refine (HR1.out _ (HKB.out.fresh (by first | exact HKr.out | exact HKr.out.drew))).mono ?_; rintro e w4 ⟨v4, l4, rfl, ho4, hl4, hk4⟩; obtain rfl := HKK.out l4 hl4; obtain ⟨A4, d4, hv4, _, hat4⟩ := ho4.reads; rw [HSL.out] at hv4; subst hv4; have HAT4 := hid (fun (W : World) (hW : Keeps NoB w4 W) => hat4.kept hW); have HKr := hid (show Keeps NoB wb w4 by first | exact HKr.out.fresh hk4 | exact HKr.out.drew.fresh hk4); clear hk4 ho4 hl4 hat4)
        | (go_at_call 22; refine (show Calls Try.prog _ _ _ _ from by have := same_calls l4 l4 A4 A2 d4 d2 _ (HAT4.out _ (by first | exact Keeps.refl NoB _ | exact (Keeps.refl NoB _).drew)) (HATB.out.kept (by first | exact HKr.out | exact HKr.out.drew)); rw [HSL.out, hsm.out] at this; exact this).mono ?_; rintro e w5 ⟨rfl, hk5⟩; have HKr := hid (show Keeps NoB wb w5 by first | exact HKr.out.fresh hk5 | exact HKr.out.drew.fresh hk5); clear hk5))
      all_goals go_wp2_with fail
      all_goals go_roundw
      case rel => exact ⟨k + 1, by omega, by go_num, hid (HKB.out.fresh HKr.out)⟩
      case measure => simp [intOf]; omega
    · obtain rfl : k = m := by omega
      go_wp2_with fail
      refine (HEQ.out wr HK.out).mono ?_
      rintro e w3 ⟨rfl, hk3⟩
      have HK3 := hid (HK.out.fresh hk3)
      clear hk3
      go_wp2_with fail
      refine (HED.out w3 HK3.out).mono ?_
      rintro e w4 ⟨rfl, hk4⟩
      have HK4 := hid (HK3.out.fresh hk4)
      clear hk4
      go_wp2_with fail
      refine (HRE.out w4 HK4.out).mono ?_
      rintro e w5 ⟨rfl, rfl⟩
      go_wp2_with fail
      refine (HMO.out w5 HK4.out).mono ?_
      rintro e w6 ⟨rfl, hk6⟩
      have HK6 := hid (HK4.out.fresh hk6)
      clear hk6
      go_wp2_with fail
      go_ret
      exact ⟨rfl, HK6.out⟩
end Go.Proofs.Ytnoooeeciebhfaa
