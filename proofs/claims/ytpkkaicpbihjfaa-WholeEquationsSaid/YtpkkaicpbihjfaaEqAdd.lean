/- Equations, put upon each other: the program's walk. Conditions: lengths are small; what is read lies below. -/
import Derived.Test.YtpkkaicpbihjfaaEqHolds
import Derived.Test.YtpkkaicpbihjfaaOdd
import Derived.Laws.Rows
set_option linter.unusedVariables false
namespace Go.Proofs.Ytpkkaicpbihjfaa
open Go.RowKit

/-- An equation's parts. -/
structure EqV where
  of : List Int
  val : List UInt8
/-- Numbers that are read at an address, in a block of some. -/
def IntsIn (R : Nat → Prop) (w : World) (A : Option Addr) (l : List Int) : Prop := IntsAt w .i64 A l ∧ ∀ b off, A = some ⟨b, off, none⟩ → 0 < l.length → R b
theorem IntsIn.keeps {R S : Nat → Prop} {w w1 : World} {A : Option Addr} {l : List Int} (h : IntsIn R w A l) (hk : Keeps S w w1) (hn : ∀ b, R b → ¬ S b) : IntsIn R w1 A l :=
  ⟨h.1.keeps hk (fun b off e h0 => hn b (h.2 b off e h0)), h.2⟩
theorem IntsIn.mono {R R' : Nat → Prop} {w : World} {A : Option Addr} {l : List Int} (h : IntsIn R w A l) (hr : ∀ b, b < w.heap.size → R b → R' b) : IntsIn R' w A l :=
  ⟨h.1, fun b off e h0 => hr b (h.1.lt b off e h0) (h.2 b off e h0)⟩
def NumsIn (R : Nat → Prop) (w : World) (u : Value) (l : List Int) : Prop := ∃ A c, u = .slice A l.length c ∧ l.length ≤ c ∧ (A = none → c = 0) ∧ IntsIn R w A l
theorem NumsIn.keeps {R S : Nat → Prop} {w w1 : World} {u : Value} {l : List Int} (h : NumsIn R w u l) (hk : Keeps S w w1) (hn : ∀ b, R b → ¬ S b) : NumsIn R w1 u l := by
  obtain ⟨A, c, h1, h2, h3, h4⟩ := h
  exact ⟨A, c, h1, h2, h3, h4.keeps hk hn⟩
theorem NumsIn.mono {R R' : Nat → Prop} {w : World} {u : Value} {l : List Int} (h : NumsIn R w u l) (hr : ∀ b, b < w.heap.size → R b → R' b) : NumsIn R' w u l := by
  obtain ⟨A, c, h1, h2, h3, h4⟩ := h
  exact ⟨A, c, h1, h2, h3, h4.mono hr⟩
def ge (es : List EqV) (j : Nat) : EqV := es.getD j ⟨[], []⟩
theorem ge_eq (es : List EqV) (j : Nat) (h : j < es.length) : ge es j = es[j] := by simp [ge, h]
theorem ge_mem (es : List EqV) (j : Nat) (h : j < es.length) : ge es j ∈ es := by rw [ge_eq es j h]; exact List.getElem_mem h
/-- Equations that are read at an address, all in blocks of some. -/
def EqsIn (R : Nat → Prop) (w : World) (A : Option Addr) (es : List EqV) : Prop :=
  es.length ≤ 4611686018427387903 ∧ (0 < es.length → ∃ b off, A = some ⟨b, off, none⟩ ∧ R b ∧ ∀ j, j < es.length → ∃ u1 u2, w.cell? ⟨b, off + j * 2, none⟩ = some u1 ∧ w.cell? ⟨b, off + j * 2 + 1, none⟩ = some u2 ∧ NumsIn R w u1 (ge es j).of ∧ RowIn R w u2 (ge es j).val)
theorem EqsIn.keeps {R S : Nat → Prop} {w w1 : World} {A : Option Addr} {es : List EqV} (h : EqsIn R w A es) (hk : Keeps S w w1) (hn : ∀ b, R b → ¬ S b) : EqsIn R w1 A es :=
  ⟨h.1, fun h0 => by
    obtain ⟨b, off, e, hb, hc⟩ := h.2 h0
    refine ⟨b, off, e, hb, fun j hj => ?_⟩
    obtain ⟨u1, u2, h1, h2, h3, h4⟩ := hc j hj
    exact ⟨u1, u2, hk.cell h1 (hn b hb), hk.cell h2 (hn b hb), h3.keeps hk hn, h4.keeps hk hn⟩⟩
theorem EqsIn.mono {R R' : Nat → Prop} {w : World} {A : Option Addr} {es : List EqV} (h : EqsIn R w A es) (hr : ∀ b, b < w.heap.size → R b → R' b) : EqsIn R' w A es :=
  ⟨h.1, fun h0 => by
    obtain ⟨b, off, e, hb, hc⟩ := h.2 h0
    obtain ⟨u1, u2, h1, _⟩ := hc 0 h0
    refine ⟨b, off, e, hr b (World.block_lt_of_cell? w _ h1) hb, fun j hj => ?_⟩
    obtain ⟨u1, u2, h1, h2, h3, h4⟩ := hc j hj
    exact ⟨u1, u2, h1, h2, h3.mono hr, h4.mono hr⟩⟩
theorem EqsIn.lt {R : Nat → Prop} {w : World} {A : Option Addr} {es : List EqV} (h : EqsIn R w A es) : EqsIn (fun b => R b ∧ b < w.heap.size) w A es := h.mono (fun b h1 h2 => ⟨h2, h1⟩)
/-- All numbers of some equations, one behind the other. -/
def ofsE (es : List EqV) : List Int := es.flatMap EqV.of
def valsE (es : List EqV) : List (List UInt8) := es.map EqV.val
theorem ofsE_snoc (es : List EqV) (e : EqV) : ofsE (es ++ [e]) = ofsE es ++ e.of := by simp [ofsE]
theorem valsE_snoc (es : List EqV) (e : EqV) : valsE (es ++ [e]) = valsE es ++ [e.val] := by simp [valsE]
theorem take_ge (es : List EqV) (k : Nat) (h : k < es.length) : es.take (k + 1) = es.take k ++ [ge es k] := by rw [List.take_succ_eq_append_getElem h, ge_eq es k h]
theorem ofsE_take_le (es : List EqV) (k : Nat) : (ofsE (es.take k)).length ≤ (ofsE es).length := by
  have : ofsE es = ofsE (es.take k) ++ ofsE (es.drop k) := by rw [ofsE, ofsE, ofsE, ← List.flatMap_append, List.take_append_drop]
  rw [this, List.length_append]; omega
/-- Two results, the first in a cell of its own. -/
theorem results_cell_then {P : Program} {fn : Func} {p q : Tmp} {ty : TypeId} (h : fn.results = #[.cell p ty, .tmp q]) (tmps : Array Value) (w : World) (g : Nat) (t : TypeId) (cs : Array Value) (fr : Nat × Nat) (d : TypeDesc)
    (hp : tmps.getD p undef = .pointer (some ⟨g, 0, none⟩)) (hg : w.heap[g]? = some (.cells cs t fr))
    (hu : P.underlying ty = some d) (hd : (match d with | .struct _ | .array _ _ => true | _ => false) = true) (hi : (P.info? ty).map (·.size) = some cs.size) :
    (results fn tmps).run P w = .ok (.tuple #[.agg cs, tmps.getD q undef]) w := by
  have hp' : tmps[p]?.getD undef = .pointer (some ⟨g, 0, none⟩) := by simpa using hp
  simp [results, h, hp', asAddr, run_loadVar_row w g t ty cs fr d hg hu hd hi]
theorem OwnRows.row {R : Nat → Prop} {w : World} {base : Nat} {v : Value} {ls : List (List UInt8)} (h : OwnRows R w base v ls) : ∃ us, w.ownsRow base 25 1 v ls.length us := by
  obtain ⟨us, _, h2, _⟩ := h
  exact ⟨us, h2⟩
theorem heap_put {w : World} {g o : Nat} {cells : Array Value} {T : TypeId} {fr : Nat × Nat} (h : w.heap[g]? = some (.cells cells T fr)) (u : Value) : (w.setCell ⟨g, o, none⟩ u).heap[g]? = some (.cells (cells.setIfInBounds o u) T fr) := by
  show (w.heap.modify g _)[g]? = _
  rw [Array.getElem?_modify, if_pos rfl, h]; rfl
theorem put_two {w : World} {b : Nat} {a0 a1 : Value} {T : TypeId} {fr : Nat × Nat} (h : w.heap[b]? = some (.cells #[a0, a1] T fr)) (x y : Value) : ((w.setCell ⟨b, 0, none⟩ x).setCell ⟨b, 1, none⟩ y).heap[b]? = some (.cells #[x, y] T fr) := heap_put (heap_put h x) y
theorem cells2 {w : World} {b : Nat} {x y : Value} {T : TypeId} {fr : Nat × Nat} (h : w.heap[b]? = some (.cells #[x, y] T fr)) : w.cell? ⟨b, 0, none⟩ = some x ∧ w.cell? ⟨b, 1, none⟩ = some y := by simp [World.cell?, h]
/-- Two rows of unlike kinds lie in two blocks. -/
theorem own_apart {w : World} {base base' : Nat} {e e' : TypeId} {v v' : Value} {n n' : Nat} {xs xs' : List Value} (h : w.ownsRow base e 1 v n xs) (h' : w.ownsRow base' e' 1 v' n' xs') (he : e ≠ e') : ∀ b, v.ownBlock = some b → v'.ownBlock ≠ some b := by
  intro b hb hb'
  rcases h.2 with ⟨rfl, _⟩ | ⟨g, cap, cur, rfl, _, hg, _⟩
  · simp [Value.ownBlock] at hb
  · rcases h'.2 with ⟨rfl, _⟩ | ⟨g', cap', cur', rfl, _, hg', _⟩
    · simp [Value.ownBlock] at hb'
    · have e1 : g = b := by simpa [Value.ownBlock] using hb
      have e2 : g' = b := by simpa [Value.ownBlock] using hb'
      subst e1; subst e2
      rw [hg] at hg'
      injection hg' with h1
      injection h1 with _ h2
      exact he h2
set_option maxHeartbeats 1600000 in
set_option maxRecDepth 20000 in
theorem eadd_yes (n : Nat) (es : List EqV) (A : Option Addr) (c : Nat) (R : Nat → Prop) (w : World) (hn : n ≤ 1073741824) (he : EqsIn R w A es) (hl1 : es.length ≤ 1073741824) (hl2 : (ofsE es).length ≤ 1073741824) (hfit : fitB n (valsE es) = true) :
    Calls Try.prog 35 #[.int .i64 (n : Int), .slice A es.length c] w fun e w' => ∃ v1 v2, e = .returned (.tuple #[.agg #[v1, v2], .bool true]) ∧ OwnInts w' w.heap.size .i64 3 v1 (oddN (ofsE es)) ∧ OwnB w' w.heap.size v2 (sumB n (valsE es)) ∧ Keeps NoB w w' := by
  have HE := hid he.lt
  have HF := hid hfit
  have HT := hid (take_ge es)
  have HLE := hid (fun k => Nat.le_trans (ofsE_take_le es k) hl2)
  have hl2 := hid hl2
  have hu := Try.underlying62
  have hub := Try.underlying32
  clear he hfit
  obtain ⟨m, hm⟩ : ∃ m, es.length = m := ⟨_, rfl⟩
  rw [hm] at hl1 ⊢
  have hmm := hid hm
  clear hm
  go_enter Try.func35, Try.ntmps35
  go_wp2_with fail
  obtain ⟨w0, hw0⟩ : ∃ w0, w.alloc (.cells #[.slice none 0 0, .slice none 0 0] 75) = w0 := ⟨_, rfl⟩
  rw [hw0]
  have hs0 : w0.heap.size = w.heap.size + 1 := by rw [← hw0]; simp
  have hres := hid (show w0.heap[w.heap.size]? = some (.cells #[.slice none 0 0, .slice none 0 0] 75 (0, 0)) by rw [← hw0]; exact heap_alloc_new w _)
  have HK0 := hid (show Keeps NoB w w0 by rw [← hw0]; exact (Keeps.refl NoB w).alloc _)
  have HE := hid (HE.out.keeps HK0.out (fun _ _ h => h))
  clear hw0
  go_loopw [6, 7, 14] (fun v6 v7 v14 wr => ∃ k : Nat, k ≤ m ∧ v14 = .int .i64 (k : Int) ∧ Hid (OwnInts wr w0.heap.size .i64 3 v6 (ofsE (es.take k))) ∧ Hid (OwnRows (fun b => R b ∧ b < w.heap.size) wr w0.heap.size v7 (valsE (es.take k))) ∧ Hid (Keeps NoB w0 wr)) (fun _ _ v14 _ => m - (intOf v14).toNat)
  case atStart => exact ⟨0, Nat.zero_le _, rfl, OwnInts.nil _ _ _ _, OwnRows.nil _ _ _, hid (Keeps.refl NoB w0)⟩
  case round =>
    obtain ⟨k, hk, rfl, HO, HR, HK⟩ := hrel
    by_cases hlt : k < m
    · obtain ⟨b, off, rfl, hbR, hc⟩ := HE.out.2 (by rw [hmm.out]; omega)
      obtain ⟨u1, u2, h1, h2, h3, h4⟩ := hc k (by rw [hmm.out]; exact hlt)
      have e1 := HK.out.cell h1 (fun h => h)
      have e2 := HK.out.cell h2 (fun h => h)
      have H3 := hid (h3.keeps HK.out (fun _ _ h => h))
      have H4 := hid (h4.keeps HK.out (fun _ _ h => h))
      have p0 : (0 : Int) ≤ (k : Int) := by omega
      have p1 : (k : Int) < (m : Int) := by omega
      clear hc h1 h2 h3 h4 hbR
      obtain ⟨A1, c1, rfl, hlc1, hA1, hat1⟩ := H3.out
      obtain ⟨A2, c2, rfl, hlc2, hA2, hat2⟩ := H4.out
      have HT1 := hid (hat1.1)
      have HA1 := hid hA1
      have hvl := hid (show (valsE (es.take k)).length = k by rw [valsE, List.length_map, List.length_take, hmm.out]; omega)
      obtain ⟨us0, Av, cv, rfl, _⟩ := HR.out.parts hvl.out
      have ht := hid (HT.out k (by rw [hmm.out]; exact hlt))
      have hle := hid (by have h9 := HLE.out (k + 1); rw [ht.out, ofsE_snoc, List.length_append] at h9; exact h9 : (ofsE (es.take k)).length + (ge es k).of.length ≤ 1073741824)
      clear hlc1 hA1 hat1 hlc2 hA2 hat2
      have HK2 := hid ((Keeps.refl NoB wr).alloc (.cells #[.slice A1 (ge es k).of.length c1, .slice A2 (ge es k).val.length c2] 75))
      have hb2 := hid (heap_alloc_new wr (.cells #[.slice A1 (ge es k).of.length c1, .slice A2 (ge es k).val.length c2] 75))
      generalize hge : ge es k = ek at *
      obtain ⟨eof, evl⟩ := ek
      dsimp only at *
      have tk1 : True := trivial
      go_wp2_with (first
        | (at_builtin; clear tk1; go_must (refine wpList_appInts _ rfl _ _ 62 rfl w0.heap.size 3 .i64 8 hu info_int _ (ofsE (es.take k)) rfl (HO.out.kept HK2.out) A1 c1 eof rfl HA1.out (HT1.out.kept HK2.out) (by have := hle.out; omega) (by have := hle.out; omega) (by have := HK.out.size; have := HK2.out.size; omega) ?_); intro v3 w3 hown3 hgr3; have hx3 := (Keeps.ofGrown hgr3).heap hb2.out (fun e => by have := (HO.out.base_le _ e.symm).2; omega); have hy3 := (cells2 hx3).2; have HO3 := hid hown3; have HKS := hid (HK2.out.trans (U := fun b => some b = u6.ownBlock) (Keeps.ofGrown hgr3) (fun _ _ h => h.elim) (fun _ _ h => h)); have HR3 := hid (HR.out.keeps HKS.out (fun b hb e => by have := (HO.out.base_le b e.symm).1; omega) (fun b hb e => own_apart HR.out.row.choose_spec HO.out (by decide) b hb e.symm)); have HK3 := hid ((HK.out.fresh HK2.out).own (HO.out.kept HK2.out) hgr3 (Nat.le_refl _)); have H43 := hid (H4.out.keeps HKS.out (fun b hb e => by have := (HO.out.base_le b e.symm).1; omega)); obtain ⟨us, Av', cv', hv', hus1, hus2, hus3⟩ := HR3.out.parts hvl.out; injection hv' with hv1 _ hv2; subst hv1 hv2; have HUS1 := hid hus1; have HUS2 := hid hus2; have HUS3 := hid hus3; clear hus1 hus2 hus3 hown3 hgr3)
        | (at_builtin; go_must (refine wpList_app1V _ rfl _ _ 32 rfl w0.heap.size 25 (.slice none 0 0) 24 hub info_bytes rfl (.slice Av k cv) k us rfl (World.ownsRow.alloc HUS2.out _) _ _ (.slice A2 evl.length c2) rfl rfl (cell_one _ _ _) (by omega) (by omega) (by have := HK3.out.size; simp; omega) ?_); intro g4 cap4 w4 hown4 hgr4 hat4))
      have HROW := hid (H43.out.mono (R' := fun b => (R b ∧ b < w.heap.size) ∧ (Value.slice Av k cv).ownBlock ≠ some b) (fun b hlt hb => ⟨hb, fun e => by have := (HR3.out.base_le b e).1; omega⟩))
      have HO4 := hid ((OwnInts.alloc HO3.out (.cells #[.slice A2 evl.length c2] 25)).keeps (Keeps.ofGrown hgr4) (fun b hb e => own_apart HO3.out HUS2.out (by decide) b hb e.symm))
      have ho4 := hid (show ofsE (es.take (k + 1)) = ofsE (es.take k) ++ eof by rw [ht.out, ofsE_snoc])
      have hv4 := hid (show valsE (es.take (k + 1)) = valsE (es.take k) ++ [evl] by rw [ht.out, valsE_snoc])
      go_roundw
      case rel => exact ⟨k + 1, by omega, by go_num, hid (by rw [ho4.out]; exact HO4.out), hid (by rw [hv4.out]; exact HR3.out.snocN hvl.out HROW.out HUS1.out HUS2.out HUS3.out hown4 hgr4 hat4), hid ((HK3.out.alloc _).grown hgr4 (fun i e hlt => by have := (HR3.out.base_le i e.symm).1; omega))⟩
      case measure => simp [intOf]; omega
    · obtain rfl : k = m := by omega
      have hall : es.take k = es := by rw [← hmm.out, List.take_length]
      rw [hall] at HO HR
      have hvl := hid (show (valsE es).length = k by rw [valsE, List.length_map, hmm.out])
      obtain ⟨Av, cv, rfl, _, _, hrows⟩ := HR.out.reads
      have HROWS := hid hrows
      rw [hvl.out]
      have HSUM := hid (bsum_yes n (valsE es) Av cv _ wr hn HROWS.out HF.out)
      rw [hvl.out] at HSUM
      clear hall hrows
      go_wp2_with fail
      refine HSUM.out.mono ?_
      rintro e w5 ⟨v2, rfl, hO5, HK5⟩
      have hO5 := hid hO5
      have HK5 := hid HK5
      have HO5 := hid (HO.out.kept HK5.out)
      have HK05 := hid (HK.out.fresh HK5.out)
      obtain ⟨Ao, co, rfl, _, hat⟩ := HO5.out.reads
      have HAT := hid hat
      clear hat
      go_wp2_with fail
      refine (odd_calls (ofsE es) Ao co w5 HAT.out hl2.out).mono ?_
      rintro e w6 ⟨v1, rfl, hO6, HK6⟩
      have HK06 := hid (HK05.out.fresh HK6)
      have hr6 := hid (HK06.out.heap hres.out (fun h => h))
      have hO26 := hid (OwnInts.kept hO5.out HK6)
      have hsz := hid (Nat.le_trans HK.out.size HK5.out.size)
      have hO6 := hid hO6
      have e0 := (cells2 hr6.out).1
      have e1 := (cells2 hr6.out).2
      have f0 : w6.frozen? ⟨w.heap.size, 0, none⟩ = false := by simp [World.frozen?, hr6.out]
      have f1 : w6.frozen? ⟨w.heap.size, 1, none⟩ = false := by simp [World.frozen?, hr6.out]
      obtain ⟨A1, c1, rfl, _, _⟩ := hO6.out.reads
      obtain ⟨A2, c2, rfl, _, _⟩ := hO26.out.reads
      clear HK6
      have hu29 := Try.underlying75
      go_wp2_with fail
      have hfin := put_two hr6.out (.slice A1 (oddN (ofsE es)).length c1) (.slice A2 (enc8 (sumB n (valsE es))).length c2)
      have hkf := (((Keeps.refl (fun b => b = w.heap.size) w6).setCell (p := ⟨w.heap.size, 0, none⟩) (fun _ => rfl) (.slice A1 (oddN (ofsE es)).length c1)).setCell (p := ⟨w.heap.size, 1, none⟩) (fun _ => rfl) (.slice A2 (enc8 (sumB n (valsE es))).length c2))
      have hz5 := hsz.out
      refine bodyPost_ret (results_cell_then rfl _ _ w.heap.size 75 _ (0, 0) _ rfl hfin hu29 rfl (by kernel_rfl)) rfl ?_
      refine ⟨_, _, rfl, (hO6.out.keeps hkf (fun b hb e => by have := (hO6.out.base_le b hb).1; omega)).lower (by omega), ?_, (((HK0.out.fresh HK06.out).setCell (p := ⟨w.heap.size, 0, none⟩) (fun h => absurd h (Nat.lt_irrefl _)) _).setCell (p := ⟨w.heap.size, 1, none⟩) (fun h => absurd h (Nat.lt_irrefl _)) _)⟩
      have h9 := OwnInts.lower (OwnInts.keeps hO26.out hkf (fun b hb e => by have := (OwnInts.base_le hO26.out b hb).1; have := HK.out.size; omega)) (base' := w.heap.size) (by have := HK.out.size; omega)
      exact h9
theorem bsum_no (n : Int) (ls : List (List UInt8)) (A : Option Addr) (c : Nat) (R : Nat → Prop) (w : World) (hn0 : -9223372036854775808 ≤ n) (hn : n ≤ 1073741824) (hb : RowsIn R w A ls) (hfit : fitN n ls = false) :
    Calls Try.prog 33 #[.int .i64 n, .slice A ls.length c] w fun e w' => e = .returned (.tuple #[.slice none 0 0, .bool false]) ∧ Keeps NoB w w' := by
  by_cases h0 : n < 0
  · exact bsum_neg n ls.length A c w h0 hn0
  · obtain ⟨m, rfl⟩ : ∃ m : Nat, n = (m : Int) := ⟨n.toNat, by omega⟩
    refine bsum_unfit m ls A c R w (by omega) hb ?_
    unfold fitN at hfit
    rw [decide_eq_true (by omega : (0 : Int) ≤ (m : Int)), Bool.true_and] at hfit
    exact hfit
set_option maxHeartbeats 1600000 in
set_option maxRecDepth 20000 in
theorem eadd_no (n : Int) (es : List EqV) (A : Option Addr) (c : Nat) (R : Nat → Prop) (w : World) (hn0 : -9223372036854775808 ≤ n) (hn : n ≤ 1073741824) (he : EqsIn R w A es) (hl1 : es.length ≤ 1073741824) (hl2 : (ofsE es).length ≤ 1073741824) (hfit : fitN n (valsE es) = false) :
    Calls Try.prog 35 #[.int .i64 n, .slice A es.length c] w fun e w' => e = .returned (.tuple #[.agg #[.slice none 0 0, .slice none 0 0], .bool false]) ∧ Keeps NoB w w' := by
  have HE := hid he.lt
  have HF := hid hfit
  have HT := hid (take_ge es)
  have HLE := hid (fun k => Nat.le_trans (ofsE_take_le es k) hl2)
  have hl2 := hid hl2
  have hu := Try.underlying62
  have hub := Try.underlying32
  clear he hfit
  obtain ⟨m, hm⟩ : ∃ m, es.length = m := ⟨_, rfl⟩
  rw [hm] at hl1 ⊢
  have hmm := hid hm
  clear hm
  go_enter Try.func35, Try.ntmps35
  go_wp2_with fail
  obtain ⟨w0, hw0⟩ : ∃ w0, w.alloc (.cells #[.slice none 0 0, .slice none 0 0] 75) = w0 := ⟨_, rfl⟩
  rw [hw0]
  have hs0 : w0.heap.size = w.heap.size + 1 := by rw [← hw0]; simp
  have hres := hid (show w0.heap[w.heap.size]? = some (.cells #[.slice none 0 0, .slice none 0 0] 75 (0, 0)) by rw [← hw0]; exact heap_alloc_new w _)
  have HK0 := hid (show Keeps NoB w w0 by rw [← hw0]; exact (Keeps.refl NoB w).alloc _)
  have HE := hid (HE.out.keeps HK0.out (fun _ _ h => h))
  clear hw0
  go_loopw [6, 7, 14] (fun v6 v7 v14 wr => ∃ k : Nat, k ≤ m ∧ v14 = .int .i64 (k : Int) ∧ Hid (OwnInts wr w0.heap.size .i64 3 v6 (ofsE (es.take k))) ∧ Hid (OwnRows (fun b => R b ∧ b < w.heap.size) wr w0.heap.size v7 (valsE (es.take k))) ∧ Hid (Keeps NoB w0 wr)) (fun _ _ v14 _ => m - (intOf v14).toNat)
  case atStart => exact ⟨0, Nat.zero_le _, rfl, OwnInts.nil _ _ _ _, OwnRows.nil _ _ _, hid (Keeps.refl NoB w0)⟩
  case round =>
    obtain ⟨k, hk, rfl, HO, HR, HK⟩ := hrel
    by_cases hlt : k < m
    · obtain ⟨b, off, rfl, hbR, hc⟩ := HE.out.2 (by rw [hmm.out]; omega)
      obtain ⟨u1, u2, h1, h2, h3, h4⟩ := hc k (by rw [hmm.out]; exact hlt)
      have e1 := HK.out.cell h1 (fun h => h)
      have e2 := HK.out.cell h2 (fun h => h)
      have H3 := hid (h3.keeps HK.out (fun _ _ h => h))
      have H4 := hid (h4.keeps HK.out (fun _ _ h => h))
      have p0 : (0 : Int) ≤ (k : Int) := by omega
      have p1 : (k : Int) < (m : Int) := by omega
      clear hc h1 h2 h3 h4 hbR
      obtain ⟨A1, c1, rfl, hlc1, hA1, hat1⟩ := H3.out
      obtain ⟨A2, c2, rfl, hlc2, hA2, hat2⟩ := H4.out
      have HT1 := hid (hat1.1)
      have HA1 := hid hA1
      have hvl := hid (show (valsE (es.take k)).length = k by rw [valsE, List.length_map, List.length_take, hmm.out]; omega)
      obtain ⟨us0, Av, cv, rfl, _⟩ := HR.out.parts hvl.out
      have ht := hid (HT.out k (by rw [hmm.out]; exact hlt))
      have hle := hid (by have h9 := HLE.out (k + 1); rw [ht.out, ofsE_snoc, List.length_append] at h9; exact h9 : (ofsE (es.take k)).length + (ge es k).of.length ≤ 1073741824)
      clear hlc1 hA1 hat1 hlc2 hA2 hat2
      have HK2 := hid ((Keeps.refl NoB wr).alloc (.cells #[.slice A1 (ge es k).of.length c1, .slice A2 (ge es k).val.length c2] 75))
      have hb2 := hid (heap_alloc_new wr (.cells #[.slice A1 (ge es k).of.length c1, .slice A2 (ge es k).val.length c2] 75))
      generalize hge : ge es k = ek at *
      obtain ⟨eof, evl⟩ := ek
      dsimp only at *
      have tk1 : True := trivial
      go_wp2_with (first
        | (at_builtin; clear tk1; go_must (refine wpList_appInts _ rfl _ _ 62 rfl w0.heap.size 3 .i64 8 hu info_int _ (ofsE (es.take k)) rfl (HO.out.kept HK2.out) A1 c1 eof rfl HA1.out (HT1.out.kept HK2.out) (by have := hle.out; omega) (by have := hle.out; omega) (by have := HK.out.size; have := HK2.out.size; omega) ?_); intro v3 w3 hown3 hgr3; have hx3 := (Keeps.ofGrown hgr3).heap hb2.out (fun e => by have := (HO.out.base_le _ e.symm).2; omega); have hy3 := (cells2 hx3).2; have HO3 := hid hown3; have HKS := hid (HK2.out.trans (U := fun b => some b = u6.ownBlock) (Keeps.ofGrown hgr3) (fun _ _ h => h.elim) (fun _ _ h => h)); have HR3 := hid (HR.out.keeps HKS.out (fun b hb e => by have := (HO.out.base_le b e.symm).1; omega) (fun b hb e => own_apart HR.out.row.choose_spec HO.out (by decide) b hb e.symm)); have HK3 := hid ((HK.out.fresh HK2.out).own (HO.out.kept HK2.out) hgr3 (Nat.le_refl _)); have H43 := hid (H4.out.keeps HKS.out (fun b hb e => by have := (HO.out.base_le b e.symm).1; omega)); obtain ⟨us, Av', cv', hv', hus1, hus2, hus3⟩ := HR3.out.parts hvl.out; injection hv' with hv1 _ hv2; subst hv1 hv2; have HUS1 := hid hus1; have HUS2 := hid hus2; have HUS3 := hid hus3; clear hus1 hus2 hus3 hown3 hgr3)
        | (at_builtin; go_must (refine wpList_app1V _ rfl _ _ 32 rfl w0.heap.size 25 (.slice none 0 0) 24 hub info_bytes rfl (.slice Av k cv) k us rfl (World.ownsRow.alloc HUS2.out _) _ _ (.slice A2 evl.length c2) rfl rfl (cell_one _ _ _) (by omega) (by omega) (by have := HK3.out.size; simp; omega) ?_); intro g4 cap4 w4 hown4 hgr4 hat4))
      have HROW := hid (H43.out.mono (R' := fun b => (R b ∧ b < w.heap.size) ∧ (Value.slice Av k cv).ownBlock ≠ some b) (fun b hlt hb => ⟨hb, fun e => by have := (HR3.out.base_le b e).1; omega⟩))
      have HO4 := hid ((OwnInts.alloc HO3.out (.cells #[.slice A2 evl.length c2] 25)).keeps (Keeps.ofGrown hgr4) (fun b hb e => own_apart HO3.out HUS2.out (by decide) b hb e.symm))
      have ho4 := hid (show ofsE (es.take (k + 1)) = ofsE (es.take k) ++ eof by rw [ht.out, ofsE_snoc])
      have hv4 := hid (show valsE (es.take (k + 1)) = valsE (es.take k) ++ [evl] by rw [ht.out, valsE_snoc])
      go_roundw
      case rel => exact ⟨k + 1, by omega, by go_num, hid (by rw [ho4.out]; exact HO4.out), hid (by rw [hv4.out]; exact HR3.out.snocN hvl.out HROW.out HUS1.out HUS2.out HUS3.out hown4 hgr4 hat4), hid ((HK3.out.alloc _).grown hgr4 (fun i e hlt => by have := (HR3.out.base_le i e.symm).1; omega))⟩
      case measure => simp [intOf]; omega
    · obtain rfl : k = m := by omega
      have hall : es.take k = es := by rw [← hmm.out, List.take_length]
      rw [hall] at HO HR
      have hvl := hid (show (valsE es).length = k by rw [valsE, List.length_map, hmm.out])
      obtain ⟨Av, cv, rfl, _, _, hrows⟩ := HR.out.reads
      have HROWS := hid hrows
      rw [hvl.out]
      have HSUM := hid (bsum_no n (valsE es) Av cv _ wr hn0 hn HROWS.out HF.out)
      rw [hvl.out] at HSUM
      clear hall hrows
      go_wp2_with fail
      refine HSUM.out.mono ?_
      rintro e w5 ⟨rfl, HK5⟩
      have HK05 := hid (HK.out.fresh HK5)
      have hr6 := hid (HK05.out.heap hres.out (fun h => h))
      have e0 := (cells2 hr6.out).1
      have e1 := (cells2 hr6.out).2
      have f0 : w5.frozen? ⟨w.heap.size, 0, none⟩ = false := by simp [World.frozen?, hr6.out]
      have f1 : w5.frozen? ⟨w.heap.size, 1, none⟩ = false := by simp [World.frozen?, hr6.out]
      have hu29 := Try.underlying75
      clear HK5
      go_wp2_with fail
      have hfin := put_two hr6.out (.slice none 0 0) (.slice none 0 0)
      refine bodyPost_ret (results_cell_then rfl _ _ w.heap.size 75 _ (0, 0) _ rfl hfin hu29 rfl (by kernel_rfl)) rfl ?_
      exact ⟨rfl, (((HK0.out.fresh HK05.out).setCell (p := ⟨w.heap.size, 0, none⟩) (fun h => absurd h (Nat.lt_irrefl _)) _).setCell (p := ⟨w.heap.size, 1, none⟩) (fun h => absurd h (Nat.lt_irrefl _)) _)⟩
end Go.Proofs.Ytpkkaicpbihjfaa
