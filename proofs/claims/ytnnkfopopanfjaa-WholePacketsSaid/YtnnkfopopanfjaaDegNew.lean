/- How the degrees' table is laid: the walk of degree.New. Conditions: numbers are of their kinds. -/
import Derived.Test.YtnnkfopopanfjaaDegree
set_option linter.unusedVariables false
namespace Go.Proofs.Ytnnkfopopanfjaa
open Go.RowKit

theorem info_u64 : (Try.prog.info? 24).map (fun i => (i.zero, i.size, i.bytes)) = some (some (.int .u64 0), 1, 8) := by kernel_rfl
/-- The first k shares. -/
noncomputable def tabN (f e k : Nat) : List Int := (List.range k).map fun j : Nat => ((degN f e (j + 1) : Nat) : Int)
theorem tabN_length (f e k : Nat) : (tabN f e k).length = k := by simp [tabN]
theorem tabN_succ (f e k : Nat) : tabN f e (k + 1) = tabN f e k ++ [((degN f e (k + 1) : Nat) : Int)] := by unfold tabN; rw [List.range_succ, List.map_append]; rfl
theorem tabN_gi (f e k j : Nat) (h : j < k) : gi (tabN f e k) j = ((degN f e (j + 1) : Nat) : Int) := by simp [gi, tabN, h]
/-- A table of degrees. -/
def TabAt (w : World) (t : Nat) (l : List Int) : Prop := ∃ A c, w.heap[t]? = some (.cells #[.slice A l.length c] 142 (0, 0)) ∧ l.length ≤ c ∧ IntsAt w .u64 A l
theorem TabAt.kept {w w' : World} {t : Nat} {l : List Int} (h : TabAt w t l) (hk : Keeps NoB w w') : TabAt w' t l := by
  obtain ⟨A, c, h1, h2, h3⟩ := h
  exact ⟨A, c, hk.heap h1 (fun h => h), h2, h3.kept hk⟩
set_option maxHeartbeats 800000 in
set_option maxRecDepth 20000 in
theorem dnew_no (p : Par) (w : World) (hm : ¬ p.may) :
    Calls Try.prog 56 #[p.val] w fun e w' => e = .returned (.tuple #[.pointer none, .int .i64 1]) ∧ Keeps NoB w w' := by
  have hu := Try.underlying23
  have hc := hid (show checkN p = 1 by unfold checkN; rw [mayB_false hm]; rfl)
  clear hm
  unfold Par.val
  go_enter Try.func56, Try.ntmps56
  go_wp2_with fail
  refine (check_calls p _).mono ?_
  rintro e w1 ⟨rfl, HK1⟩
  rw [hc.out]
  have HK1 := hid (((Keeps.refl NoB w).alloc _).fresh HK1)
  go_wp2_with fail
  go_ret2
  exact ⟨rfl, HK1.out⟩
set_option maxHeartbeats 2000000 in
set_option maxRecDepth 20000 in
theorem dnew_core (p : Par) (w : World) (hm : p.may) :
    Calls Try.prog 56 #[p.val] w fun e' w' => ∃ t, e' = .returned (.tuple #[.pointer (some ⟨t, 0, none⟩), .int .i64 0]) ∧ (∀ W, Keeps (fun k => k < w.heap.size) w' W → TabAt W t (tabN p.f.toNat p.eps.toNat (p.f.toNat - 1))) ∧ Keeps NoB w w' := by
  have hu := Try.underlying23
  have hui := Try.underlying37
  have hc := hid (show checkN p = 0 by unfold checkN; rw [mayB_true hm]; rfl)
  obtain ⟨f, e, hpf, hpe, hpf2, hpe2, f2, f4, e3, hfe⟩ := par_nats hm
  rw [hpf2, hpe2]
  have HPF := hid hpf
  have HPE := hid hpe
  have HFE := hid hfe
  clear hpf hpe hpf2 hpe2 hfe hm
  unfold Par.val
  go_enter Try.func56, Try.ntmps56
  go_wp2_with fail
  refine (check_calls p _).mono ?_
  rintro e' w1 ⟨rfl, HK1⟩
  rw [hc.out]
  have hbox := hid (HK1.heap (heap_alloc_new w (.cells #[.int .i64 p.n, .int .i64 p.b, .int .i64 p.q, .int .i64 p.eps, .int .i64 p.f] 23)) (fun h => h))
  have HK2 := hid (((Keeps.refl NoB w).alloc _).fresh HK1)
  clear HK1
  have hbx := hbox.out
  rw [HPE.out, HPF.out] at hbx
  obtain ⟨b0, b1, b2, b3, b4⟩ := cells5 hbx
  have hwf : IntKind.u64.wrap (f : Int) = (f : Int) := wrap_nat f (by omega)
  have hwe : IntKind.u64.wrap (e : Int) = (e : Int) := wrap_nat e (by omega)
  clear hbx
  go_wp2_with fail
  go_quiet (fail)
  go_wp2_with fail
  have HT0 := hid (heap_alloc_new (w1.drewN nq) (.cells #[.slice none 0 0] 142))
  have HK0 := hid ((HK2.out.drewN nq).alloc (.cells #[.slice none 0 0] 142))
  obtain ⟨tb, htb⟩ : ∃ tb, tb = w1.heap.size := ⟨_, rfl⟩
  have hsz : ((w1.drewN nq).alloc (.cells #[.slice none 0 0] 142)).heap.size = tb + 1 := by rw [htb]; simp
  have hwt : w.heap.size ≤ tb := by rw [htb]; exact HK2.out.size
  have HT0' := hid (show _ from (by have := HT0.out; rw [show (w1.drewN nq).heap.size = tb from htb.symm] at this; exact this : ((w1.drewN nq).alloc (.cells #[.slice none 0 0] 142)).heap[tb]? = some (.cells #[.slice none 0 0] 142 (0, 0))))
  rw [← htb]
  clear HT0 b0 b1 b2 b3 b4
  generalize (w1.drewN nq).alloc (.cells #[.slice none 0 0] 142) = w2 at *
  have HSZ := hid hsz
  clear htb hsz
  go_loopw [8] (fun v8 wr => ∃ (i : Nat) (A : Option Addr) (c : Nat), 1 ≤ i ∧ i ≤ f ∧ v8 = .int .u64 (i : Int) ∧ Hid (wr.heap[tb]? = some (.cells #[.slice A (i - 1) c] 142 (0, 0))) ∧ Hid (OwnInts wr tb .u64 24 (.slice A (i - 1) c) (tabN f e (i - 1))) ∧ Hid (Keeps NoB w wr)) (fun v8 _ => f - (intOf v8).toNat)
  case atStart => exact ⟨1, none, 0, Nat.le_refl _, by omega, rfl, HT0', OwnInts.nil _ _ _ _, HK0⟩
  case round =>
    obtain ⟨i, A, c, hi1, hi2, rfl, HT, HO, HK⟩ := hrel
    by_cases hlt : i < f
    · obtain ⟨FE, X, Xi, B, Bi, C, D, L, s1, s1a, s1b, s2, s3, s4, s5, s6, s7, s8, s9, s10, s11, s12, s13⟩ := deg_steps f e i HFE.out f4 e3 hi1 hlt
      have hdeg := hid (show shareN (highN f e i) (lowN f e i) = degN f e (i - 1 + 1) by rw [Nat.sub_add_cancel hi1]; rfl)
      rw [← s9, ← s10] at s12 hdeg
      rw [← s10] at s13
      rw [← s9] at s11
      clear s9 s10
      have htl := lt_of_heap HT.out
      have hne := hid (own_ne HO.out HT.out (by decide))
      have hcell : wr.cell? ⟨tb, 0, none⟩ = some (.slice A (i - 1) c) := by simp [World.cell?, HT.out]
      go_wp2_with fail
      rw [show (Xi : Int) + (Bi : Int) = ((Xi + Bi : Nat) : Int) by omega]
      refine (div64_calls (Xi + Bi) L _ s11 s12 (by omega)).mono ?_
      rintro e' w3 ⟨r, rfl, rfl⟩
      rw [hdeg.out]
      clear hdeg s1 s2 s3 s4 s5 s6 s7 s8 s11 s12 s13 s1a s1b
      have hsu := hid ((congrArg (tabN f e) (Nat.sub_add_cancel hi1)).symm.trans (tabN_succ f e (i - 1)))
      have hl := hid (tabN_length f e (i - 1))
      generalize degN f e (i - 1 + 1) = d at *
      go_wp2_with (at_builtin; go_must (refine wpList_app1V _ rfl _ _ 37 rfl tb 24 (.int .u64 0) 8 hui info_u64 rfl (.slice A (i - 1) c) (i - 1) _ rfl (by have := OwnInts.alloc HO.out (.cells #[.int .u64 (d : Int)] 24); unfold OwnInts at this; rw [hl.out] at this; exact this) _ _ _ rfl rfl (cell_one _ _ _) (by omega) (by omega) (by simp; omega) ?_); intro g cap w4 hown4 hgr4 hat4; have hT4 := hid ((Keeps.ofGrown hgr4).heap (((Keeps.refl NoB _).alloc _).heap HT.out (fun h => h)) (fun e => hne.out e.symm)); have hc4 := (show w4.cell? ⟨tb, 0, none⟩ = some (.slice A (i - 1) c) from by simp [World.cell?, hT4.out]); have hf4 := free5 hT4.out 0)
      have hO4 : OwnInts w4 tb .u64 24 (.slice (some ⟨g, 0, none⟩) i cap) (tabN f e i) := by
        unfold OwnInts
        rw [tabN_length, hsu.out, List.map_append]
        rw [Nat.sub_add_cancel hi1] at hown4
        exact hown4
      have hne4 := own_ne hO4 hT4.out (by decide)
      go_roundw
      case rel => exact ⟨i + 1, some ⟨g, 0, none⟩, cap, by omega, by omega, by go_num, hid (by rw [Nat.add_sub_cancel]; exact heap_set_same hT4.out _), hid (by rw [Nat.add_sub_cancel]; exact hO4.keeps (Keeps.one w4 tb 0 _) (fun b hb e => hne4 (by rw [hb, e]))), hid (((HK.out.alloc _).own (OwnInts.alloc HO.out _) hgr4 hwt).setCell (fun hq => absurd hwt (Nat.not_le.2 hq)) _)⟩
      case measure => simp [intOf]; omega
    · obtain rfl : i = f := by omega
      go_wp2_with fail
      go_ret2
      refine ⟨tb, rfl, fun W hW => ?_, HK.out⟩
      have hOW := OwnInts.keeps HO.out hW (fun b hb e => by have h1 := (OwnInts.base_le HO.out b hb).1; have e : b < w.heap.size := e; omega)
      obtain ⟨A', c', e1, h2, h3⟩ := hOW.reads
      injection e1 with e1 e2 e3
      subst e1 e3
      exact ⟨A, c, by rw [tabN_length]; exact hW.heap HT.out (fun e => by have e : tb < w.heap.size := e; omega), h2, h3⟩
theorem dnew_yes (p : Par) (w : World) (hm : p.may) :
    Calls Try.prog 56 #[p.val] w fun e' w' => ∃ t, e' = .returned (.tuple #[.pointer (some ⟨t, 0, none⟩), .int .i64 0]) ∧ TabAt w' t (tabN p.f.toNat p.eps.toNat (p.f.toNat - 1)) ∧ Keeps NoB w w' :=
  (dnew_core p w hm).mono (fun e w' ⟨t, h1, h2, h3⟩ => ⟨t, h1, h2 w' (Keeps.refl _ _), h3⟩)
end Go.Proofs.Ytnnkfopopanfjaa
