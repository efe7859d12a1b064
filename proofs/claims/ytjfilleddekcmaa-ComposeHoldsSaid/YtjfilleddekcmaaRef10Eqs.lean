/- All equations, by the document: the walk of almonryref10.Equations. Conditions: numbers are of their kinds; parameters that may be. -/
import Derived.Test.YtjfilleddekcmaaRef10Has
set_option linter.unusedVariables false
namespace Go.Proofs.Ytjfilleddekcmaa
open Go.RowKit
attribute [local go_sem ↓] Go.wp_at_zero Go.wp_at_succ

/-- 'append(v, u)' of one cell of whatever kind, at a step of a region that draws its order. -/
theorem step_app1V {P : Program} {w : World} {ops : Array Oper} {o : Oper} {a : Act} {K : Act → World → Prop} {Q : Exit → Act → World → Prop} {E : Prop} (hgd : o.guard = none) (s x : Operand) (t : TypeId)
    (ho : o.op = .call { callee := .builtin .append, args := #[s, x], argTypes := #[t, t] }) (base : Nat) (e : TypeId) (z : Value) (bytes : Nat) (ht : P.underlying t = some (.slice e))
    (hi : (P.info? e).map (fun i => (i.zero, i.size, i.bytes)) = some (some z, 1, bytes)) (hz : z.cells.size = 1) (v : Value) (n : Nat) (xs : List Value) (hs : a.eval s = v) (hown : w.ownsRow base e 1 v n xs) (bx c : Nat) (y : Value) (hy : y.oneCell' = true)
    (hx : a.eval x = .slice (some ⟨bx, 0, none⟩) 1 c) (hcell : w.cell? ⟨bx, 0, none⟩ = some y) (hb : (n + 1) * bytes ≤ 140737488355328) (hm : n + 1 ≤ 140737488355328) (hbase : base ≤ w.heap.size)
    (h : ∀ g cap w', w'.ownsRow base e 1 (.slice (some ⟨g, 0, none⟩) (n + 1) cap) (n + 1) (xs ++ [y]) → w.grownBy w' v.ownBlock → (v.ownBlock = some g ∨ g = w.heap.size) → K (a.put o.dst (.slice (some ⟨g, 0, none⟩) (n + 1) cap)) w') :
    if Region.wanted o (yielded ops a.tmps) = true then Oper.wp P o a w K Q else E := by
  obtain ⟨i, i1, i2, i3, i4⟩ := info_parts hi
  refine step_append_lies (H := w.heap.size) (hH := rfl) (w := w) hgd s x t ho base e i z 1 bytes ht i1 i2 i3 i4 hz (by decide) v n xs hs hown ⟨bx, 0, none⟩ 1 c [y] hx rfl ?_ ?_ (by omega) (by unfold maxLen; omega) hb hbase ?_
  · intro j u hu
    cases j with
    | zero => simp at hu; subst hu; exact hcell
    | succ j => simp at hu
  · intro u hu; simp at hu; subst hu; exact hy
  · intro g cap w' h1 h2 h3 _
    exact h g cap w' h1 h2 h3
/-- The first k equations. -/
def eqsN (has : List (List Int)) (n : Int) (k : Nat) : List (List Int) := (List.range k).map (fun j : Nat => gl has j ++ [n + (j : Int)])
theorem eqsN_length (has : List (List Int)) (n : Int) (k : Nat) : (eqsN has n k).length = k := by simp [eqsN]
theorem eqsN_succ (has : List (List Int)) (n : Int) (k : Nat) : eqsN has n (k + 1) = eqsN has n k ++ [gl has k ++ [n + (k : Int)]] := by unfold eqsN; rw [List.range_succ, List.map_append]; rfl
theorem eqsN_gl (has : List (List Int)) (n : Int) (k j : Nat) (h : j < k) : gl (eqsN has n k) j = gl has j ++ [n + (j : Int)] := by
  rw [gl_eq _ _ (by rw [eqsN_length]; exact h)]; simp [eqsN]
/-- A row more in a row of rows that is the call's own. -/
theorem rows_snoc {w w1 : World} {B g j c : Nat} {us : List Value} {ls : List (List Int)} {u : Value} {l : List Int} {o : Obj} (ho : w.ownsRow B 25 1 (.slice (some ⟨g, 0, none⟩) j c) j us) (hall : OwnAll w B us ls) (hu : OwnInts w B .i64 3 u l)
    (hf : ∀ (k : Nat) (v : Value) (b : Nat), us[k]? = some v → v.ownBlock = some b → u.ownBlock ≠ some b) (hg : (w.alloc o).grownBy w1 (some g)) : OwnAll w1 B (us ++ [u]) (ls ++ [l]) := by
  obtain ⟨c0, hc⟩ := own_block ho g (by simp [Value.ownBlock])
  have hk : Keeps (fun k => some k = some g) w w1 := ((Keeps.refl NoB w).alloc o).trans (Keeps.ofGrown hg) (fun _ _ h => h.elim) (fun _ _ h => h)
  refine (hall.snoc hu hf).keeps hk (fun k v b hv hb e => ?_)
  cases e
  exact own_ne ((hall.snoc hu hf).own k v hv) hc (by decide) hb

set_option maxHeartbeats 8000000 in
set_option maxRecDepth 20000 in
theorem rEqs_calls (p : Par) (session : Nat) (w : World) (hm : p.may) (hs : session < 18446744073709551616) :
    Calls Try.prog 42 #[p.val, .int .u64 (session : Int)] w fun e w' => ∃ A c, e = .returned (.slice A (eqsN (hasN p session p.n.toNat) p.n (auxN p).toNat).length c) ∧ RowsAt w' A (eqsN (hasN p session p.n.toNat) p.n (auxN p).toNat) ∧ Keeps NoB w w' := by
  have hu := Try.underlying50
  have HM := hid hm
  have hab := auxN_bounds hm
  have hpn : 1 ≤ p.n ∧ p.n ≤ 1048576 := ⟨hm.1, hm.2.1⟩
  obtain ⟨a, ha⟩ : ∃ a : Nat, auxN p = (a : Int) := ⟨(auxN p).toNat, by omega⟩
  have ha1 : 1 ≤ a := by omega
  have ha2 : a ≤ 4613735 := by omega
  have hln := hid (show (hasN p session p.n.toNat).length = a by rw [hasN_length, ha]; rfl)
  have hbd := hid (fun j => Nat.le_trans (hasN_bound p session hm p.n.toNat j) (show 8 * p.n.toNat ≤ 8388608 by omega))
  have HA := hid ha
  clear hm hab ha
  have hus := Try.underlying38
  have hui := Try.underlying25
  have hbA := hid (heap_alloc_new w (.cells #[.int .i64 p.n, .int .i64 p.b, .int .i64 p.q, .int .i64 p.eps, .int .i64 p.f] 50))
  obtain ⟨a0, a1, a2, a3, a4⟩ := cells5 hbA.out
  unfold Par.val
  go_enter Try.func42, Try.ntmps42
  go_wp2_with fail
  refine (rHas_calls p session _ HM.out hs).mono ?_
  rintro e w2 ⟨A5, c5, rfl, hrows, HK2⟩
  have hrows := hid hrows
  have hbox2 := hid (HK2.heap hbA.out (fun h => h))
  have HK2 := hid (((Keeps.refl NoB w).alloc _).fresh HK2)
  clear a0 a1 a2 a3 a4
  generalize hgen : hasN p session p.n.toNat = has at *
  replace hgen := hid hgen
  rw [hln.out]
  go_wp2_with fail
  go_loopw [6, 7] (fun v6 v7 wr => ∃ (j g c : Nat) (us : List Value), j ≤ a ∧ v7 = .int .i64 j ∧ v6 = .slice (some ⟨g, 0, none⟩) j c ∧ Hid (wr.ownsRow w2.heap.size 25 1 (.slice (some ⟨g, 0, none⟩) j c) j us) ∧ Hid (OwnAll wr w2.heap.size us (eqsN has p.n j)) ∧ Hid (Keeps NoB w2 wr)) (fun _ v7 _ => a - (intOf v7).toNat)
  case atStart =>
    exact ⟨0, _, _, [], Nat.zero_le _, rfl, rfl, World.ownsRow_made w2 #[] 0 (Nat.le_refl _) (Nat.zero_le _) rfl, OwnAll.nils _ _ 0, (Keeps.refl NoB w2).alloc _⟩
  case round =>
    obtain ⟨j, g, c, us, hj, rfl, rfl, HO, HL, HK⟩ := hrel
    obtain ⟨b0, b1, b2, b3, b4⟩ := cells5 (HK.out.heap hbox2.out (fun h => h))
    by_cases hlt : j < a
    · obtain ⟨b5, o5, rfl, hc5⟩ := (hrows.out.kept HK.out).2 (by rw [hln.out]; omega)
      obtain ⟨u, hcu, A1, c1, rfl, hlc, hA1, hat1⟩ := hc5 j (by rw [hln.out]; exact hlt)
      have hat1 := hid hat1
      have hA1 := hid hA1
      have ch := hcu
      have hbl := hbd.out j
      have hwk : IntKind.i64.wrap (p.n + (j : Int)) = p.n + (j : Int) := IntWalk.i64_in (p.n + (j : Int)) (by omega)
      have hsucc := hid (eqsN_succ has p.n j)
      have hszr := HK.out.size
      have hul := hid (show us.length = j by simpa using HO.out.1)
      clear hc5 hcu
      generalize gl has j = lj at *
      have q1 := ((Keeps.refl NoB wr).alloc (.cells #[] 3)).cell ch (fun h => h)
      have q2 := ((Keeps.refl NoB wr).alloc (.cells #[.int .i64 (p.n + (j : Int))] 3)).cell ch (fun h => h)
      have q3 := (((Keeps.refl NoB wr).alloc (.cells #[] 3)).alloc (.cells #[.int .i64 (p.n + (j : Int))] 3)).cell ch (fun h => h)
      have q4 := (((Keeps.refl NoB wr).alloc (.cells #[.int .i64 (p.n + (j : Int))] 3)).alloc (.cells #[] 3)).cell ch (fun h => h)
      have q5 := ((Keeps.refl NoB wr).alloc (.cells #[] 3)).cell b0 (fun h => h)
      go_wp2_with fail
      go_region_law (first
            | (clear tk10; have hO10 := hid (World.ownsRow.alloc (own_keeps HO.out HK10.out (fun _ _ h => h)) (.cells #[.slice (some ⟨g10, 0, none⟩) (lj.length + 1) cap10] 25)); refine step_app1V rfl _ _ 38 rfl w2.heap.size 25 (.slice none 0 0) 24 hus info_ints rfl (.slice (some ⟨g, 0, none⟩) j c) j us rfl hO10.out _ _ _ rfl rfl (cell_one w10 _ _) (by omega) (by omega) (by have h1 := HK10.out.size; have h2 := HK.out.size; simp; omega) ?_; intro g11 cap11 w11 hown11 hgr11 hat11)
            | (refine step_app1 rfl _ _ 25 rfl wr.heap.size 3 .i64 8 hui info_int (.slice A9 lj.length c9) lj rfl hown9 _ _ _ rfl hE.out (by omega) (by omega) HK9.out.size ?_; intro g10 cap10 w10 hown10 hgr10 hat10; have HK10 := hid (HK9.out.own hown9 hgr10 (Nat.le_refl _)); have tk10 := hid trivial)
            | (refine step_app1 rfl _ _ 25 rfl wr.heap.size 3 .i64 8 hui info_int (.slice A9 lj.length c9) lj rfl (OwnInts.alloc hown9 _) _ _ _ rfl (cell_one w9 _ _) (by omega) (by omega) (by have := HK9.out.size; simp; omega) ?_; intro g10 cap10 w10 hown10 hgr10 hat10; have HK10 := hid ((HK9.out.alloc _).own (OwnInts.alloc hown9 _) hgr10 (Nat.le_refl _)); have tk10 := hid trivial)
            | (have HKp := hid (show Keeps NoB wr ((wr.alloc (.cells #[.int .i64 (p.n + (j : Int))] 3)).alloc (.cells #[] 3)).drew from (((Keeps.refl NoB wr).alloc _).alloc _).drew); have hOW := hid (show OwnInts ((wr.alloc (.cells #[.int .i64 (p.n + (j : Int))] 3)).alloc (.cells #[] 3)).drew wr.heap.size .i64 3 (.slice (some ⟨(wr.heap.size + 1), 0, none⟩) 0 0) [] from emptyAt _ _ _ _ (Nat.le_refl _)); refine step_copy ((wr.alloc (.cells #[.int .i64 (p.n + (j : Int))] 3)).alloc (.cells #[] 3)).drew rfl _ _ 25 rfl wr.heap.size 3 .i64 8 hui info_int (.slice (some ⟨(wr.heap.size + 1), 0, none⟩) 0 0) rfl hOW.out A1 c1 lj rfl hA1.out (hat1.out.kept HKp.out) (by omega) (by omega) HKp.out.size ?_; intro A9 c9 w9 hown9 hgr9; have HK9 := hid (HKp.out.own hOW.out hgr9 (Nat.le_refl _)); have cj9 := HK9.out.cell b0 (fun h => h); have hE := hid ((Keeps.ofGrown hgr9).cell (a := ⟨wr.heap.size, 0, none⟩) (one1 (w := wr) (.cells #[] 3) (.int .i64 (p.n + (j : Int))) 3) (fun e => by simp [Value.ownBlock] at e)))
            | (have HKp := hid (show Keeps NoB wr ((wr.alloc (.cells #[] 3)).alloc (.cells #[.int .i64 (p.n + (j : Int))] 3)).drew from (((Keeps.refl NoB wr).alloc _).alloc _).drew); have hOW := hid (show OwnInts ((wr.alloc (.cells #[] 3)).alloc (.cells #[.int .i64 (p.n + (j : Int))] 3)).drew wr.heap.size .i64 3 (.slice (some ⟨wr.heap.size, 0, none⟩) 0 0) [] from OwnInts.alloc (OwnInts.empty wr _ _ _ (Nat.le_refl _)) _); refine step_copy ((wr.alloc (.cells #[] 3)).alloc (.cells #[.int .i64 (p.n + (j : Int))] 3)).drew rfl _ _ 25 rfl wr.heap.size 3 .i64 8 hui info_int (.slice (some ⟨wr.heap.size, 0, none⟩) 0 0) rfl hOW.out A1 c1 lj rfl hA1.out (hat1.out.kept HKp.out) (by omega) (by omega) HKp.out.size ?_; intro A9 c9 w9 hown9 hgr9; have HK9 := hid (HKp.out.own hOW.out hgr9 (Nat.le_refl _)); have cj9 := HK9.out.cell b0 (fun h => h); have hE := hid ((Keeps.ofGrown hgr9).cell (a := ⟨wr.heap.size + 1, 0, none⟩) (one2 (w := wr) (.cells #[] 3) (.int .i64 (p.n + (j : Int))) 3) (fun e => by simp [Value.ownBlock] at e)))
            | (have HKp := hid (show Keeps NoB wr (wr.alloc (.cells #[] 3)).drew from ((Keeps.refl NoB wr).alloc _).drew); have hOW := hid (show OwnInts (wr.alloc (.cells #[] 3)).drew wr.heap.size .i64 3 (.slice (some ⟨wr.heap.size, 0, none⟩) 0 0) [] from OwnInts.empty wr _ _ _ (Nat.le_refl _)); refine step_copy (wr.alloc (.cells #[] 3)).drew rfl _ _ 25 rfl wr.heap.size 3 .i64 8 hui info_int (.slice (some ⟨wr.heap.size, 0, none⟩) 0 0) rfl hOW.out A1 c1 lj rfl hA1.out (hat1.out.kept HKp.out) (by omega) (by omega) HKp.out.size ?_; intro A9 c9 w9 hown9 hgr9; have HK9 := hid (HKp.out.own hOW.out hgr9 (Nat.le_refl _)); have cj9 := HK9.out.cell b0 (fun h => h)))
      all_goals (go_wp2_with fail; go_roundw)
      all_goals first
        | (case measure => simp [intOf]; omega)
        | (case rel =>
            have hf := hid (show ∀ (k : Nat) (v : Value) (b : Nat), us[k]? = some v → v.ownBlock = some b → (Value.slice (some ⟨g10, 0, none⟩) (lj.length + 1) cap10).ownBlock ≠ some b from fun k v b hv hb hb2 => by
              have h1 := (HL.out.lt k v b hv hb).2
              have h2 := (hown10.base_le b hb2).1
              omega)
            have hL := hid (rows_snoc (own_keeps HO.out HK10.out (fun _ _ h => h)) (HL.out.kept HK10.out) (OwnInts.lower hown10 hszr) hf.out hgr11)
            exact ⟨j + 1, g11, cap11, _, by omega, by go_num, rfl, hid hown11, hid (by rw [hsucc.out]; exact hL.out), hid (HK.out.then ((HK10.out.alloc _).trans (Keeps.ofGrown hgr11) (fun _ _ h => h.elim) (fun _ _ h => h) : Keeps (fun q => some q = (Value.slice (some ⟨g, 0, none⟩) j c).ownBlock) wr w11) (fun q e hq => absurd (World.ownsRow.lt HO.out q e.symm).1 (Nat.not_le.2 hq)))⟩)
    · obtain rfl : j = a := by omega
      have hla := hid (eqsN_length has p.n j)
      go_wp2_with fail
      go_ret
      have e1 : (auxN p).toNat = j := by rw [HA.out]; simp
      have hul : us.length = j := by simpa using HO.out.1
      rw [e1, hgen.out]
      refine ⟨some ⟨g, 0, none⟩, c, congrArg (fun x : Nat => Ending.returned (.slice (some ⟨g, 0, none⟩) x c)) hla.out.symm, HL.out.rows (g := g) (c := c) (n := j) (base := w2.heap.size) (e := 25) (by rw [hul]; exact HO.out) (by rw [hla.out]; omega), HK2.out.fresh HK.out⟩
end Go.Proofs.Ytjfilleddekcmaa
