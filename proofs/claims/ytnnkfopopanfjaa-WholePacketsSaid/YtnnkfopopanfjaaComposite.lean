/- A composite block of an object: the walk of emit.Composite. Conditions: numbers are of their kinds. -/
import Derived.Test.YtnnkfopopanfjaaEmitNew
set_option linter.unusedVariables false
set_option linter.unusedSimpArgs false
namespace Go.Proofs.Ytnnkfopopanfjaa
open Go.RowKit

/-- A composite block, none where there is none. -/
noncomputable def cmpN (ls : List (List UInt8)) (i : Int) : List UInt8 := if 0 ≤ i then gr ls i.toNat else []
theorem cmpN_none (ls : List (List UInt8)) (i : Int) (h : ¬ (0 ≤ i ∧ i < (ls.length : Int))) : cmpN ls i = [] := by
  unfold cmpN
  by_cases h0 : 0 ≤ i
  · rw [if_pos h0]
    unfold gr
    rw [List.getD_eq_getElem?_getD, List.getElem?_eq_none (by omega)]; rfl
  · rw [if_neg h0]
set_option maxHeartbeats 2000000 in
set_option maxRecDepth 20000 in
theorem composite_calls (c : Nat) (p : Par) (session : Nat) (obj : List UInt8) (i : Int) (w : World) (h : EncAt w c p session obj) (hm : p.may) :
    Calls Try.prog 20 #[.pointer (some ⟨c, 0, none⟩), .int .i64 i] w fun e w' => ∃ v, e = .returned v ∧ OwnB w' w.heap.size v (cmpN (compN p session obj) i) ∧ Keeps NoB w w' := by
  have hui := Try.underlying25
  obtain ⟨s, k, Ab, cap, h1, h2, h3, h4, h5, h6⟩ := h
  have hno := hid (cmpN_none (compN p session obj) i)
  have hyes := hid (fun (j : Nat) (e : i = (j : Int)) => (show cmpN (compN p session obj) i = gr (compN p session obj) j by subst e; unfold cmpN; rw [if_pos (by omega)]; rfl))
  have hfit := hid (fun (j : Nat) (hj : j < (compN p session obj).length) => comp_fit hm session obj (auxN p).toNat (gr (compN p session obj) j) (gr_mem _ _ hj))
  have hB : p.b.toNat ≤ 65535 := by have := hm.2.2.2.1; omega
  generalize compN p session obj = ls at *
  obtain ⟨m, hmm⟩ : ∃ m, ls.length = m := ⟨_, rfl⟩
  rw [hmm] at h1 h5 hno hfit
  have hml := h4.len
  rw [hmm] at hml
  have HM := hid hmm
  have HR := hid h4
  have c0 : w.cell? ⟨c, 10, none⟩ = some (.slice Ab m cap) := by simp [World.cell?, h1]
  have hcl := hid (lt_of_heap h1)
  clear h1 h2 h3 h4 h5 h6 hm hmm
  by_cases h0 : i < 0
  · have d0 : decide (i < 0) = true := decide_eq_true h0
    have hr := hid (hno.out (by omega))
    clear h0
    go_enter Try.func20, Try.ntmps20
    go_wp2_with fail
    go_ret
    exact ⟨_, rfl, by rw [hr.out]; exact OwnInts.nil _ _ _ _, Keeps.refl _ _⟩
  · have d0 : decide (i < 0) = false := decide_eq_false h0
    by_cases h1 : (m : Int) ≤ i
    · have d1 : decide ((m : Int) ≤ i) = true := decide_eq_true h1
      have hr := hid (hno.out (by omega))
      clear h0 h1
      go_enter Try.func20, Try.ntmps20
      go_wp2_with fail
      go_ret
      exact ⟨_, rfl, by rw [hr.out]; exact OwnInts.nil _ _ _ _, Keeps.refl _ _⟩
    · obtain ⟨j, rfl⟩ : ∃ j : Nat, i = (j : Int) := ⟨i.toNat, by omega⟩
      have d1 : decide ((m : Int) ≤ (j : Int)) = false := decide_eq_false h1
      have d1n : decide (m ≤ j) = false := decide_eq_false (by omega)
      have hr := hid (hyes.out j rfl)
      have hjm : j < m := by omega
      obtain ⟨b1, o1, rfl, _, hc⟩ := HR.out.2 (by rw [HM.out]; omega)
      obtain ⟨u1, g1, B1, e1, rfl, g2, g3, g4⟩ := hc j (by rw [HM.out]; exact hjm)
      have hf := hfit.out j hjm
      have G4 := hid g4
      have G3 := hid g3
      generalize gr ls j = l at *
      obtain ⟨n, hn⟩ : ∃ n, l.length = n := ⟨_, rfl⟩
      rw [hn] at g1 g2 hf
      have HN := hid hn
      have hnB : n ≤ 65535 := by omega
      have q0 : (0 : Int) ≤ (j : Int) := by omega
      have q1 : (j : Int) < (m : Int) := by omega
      have HKA := hid ((Keeps.refl NoB w).alloc (.cells #[] 5))
      have c0' := HKA.out.cell c0 (fun h => h)
      have g1' := HKA.out.cell g1 (fun h => h)
      have hOE := hid (OwnInts.empty w w.heap.size .u8 5 (Nat.le_refl _))
      clear h0 h1 hc hyes hno hfit g4 g3 hn hf
      go_enter Try.func20, Try.ntmps20
      go_wp2_with (at_builtin; go_must (refine wpList_appB _ rfl _ _ 25 rfl w.heap.size hui _ [] rfl hOE.out B1 n e1 l rfl HN.out G3.out (G4.out.kept HKA.out) 0 rfl (by omega) (by simp) ?_); intro v4 w4 hown4 hgr4)
      go_ret
      exact ⟨_, rfl, by rw [hr.out]; exact hown4, HKA.out.grown hgr4 (fun i e hlt => by have e : some i = some w.heap.size := e; have e := Option.some.inj e; omega)⟩
end Go.Proofs.Ytnnkfopopanfjaa
