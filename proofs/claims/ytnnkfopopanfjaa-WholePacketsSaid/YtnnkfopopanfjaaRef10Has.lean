/- What each auxiliary block has, by the document: the walk of almonryref10.Has. Conditions: numbers are of their kinds; parameters that may be. -/
import Derived.Test.YtnnkfopopanfjaaRef10
set_option linter.unusedVariables false
namespace Go.Proofs.Ytnnkfopopanfjaa
open Go.RowKit
attribute [local go_sem ↓] Go.wp_at_zero Go.wp_at_succ

/-- 'append(v, xs...)' at a step of a region that draws its order, v the call's own, whatever xs is. -/
theorem step_appInts {P : Program} {w : World} {ops : Array Oper} {o : Oper} {a : Act} {K : Act → World → Prop} {Q : Exit → Act → World → Prop} {E : Prop} (hgd : o.guard = none) (s x : Operand) (t : TypeId)
    (ho : o.op = .call { callee := .builtin .append, args := #[s, x], argTypes := #[t, t] }) (base : Nat) (e : TypeId) (k : IntKind) (bytes : Nat) (ht : P.underlying t = some (.slice e))
    (hi : (P.info? e).map (fun i => (i.zero, i.size, i.bytes)) = some (some (.int k 0), 1, bytes)) (v : Value) (ys : List Int) (hs : a.eval s = v) (hown : OwnInts w base k e v ys) (A : Option Addr) (c : Nat) (xs : List Int)
    (hx : a.eval x = .slice A xs.length c) (hA : A = none → c = 0) (hat : IntsAt w k A xs) (hb : (ys.length + xs.length) * bytes ≤ 140737488355328) (hm : ys.length + xs.length ≤ 140737488355328) (hbase : base ≤ w.heap.size)
    (h : ∀ A' c' w', OwnInts w' base k e (.slice A' (ys ++ xs).length c') (ys ++ xs) → w.grownBy w' v.ownBlock → K (a.put o.dst (.slice A' (ys ++ xs).length c')) w') :
    if Region.wanted o (yielded ops a.tmps) = true then Oper.wp P o a w K Q else E := by
  have hw : Region.wanted o (yielded ops a.tmps) = true := by simp [Region.wanted, hgd]
  rw [if_pos hw]
  obtain ⟨i, i1, i2, i3, i4⟩ := info_parts hi
  cases A with
  | none =>
    have hn : xs = [] := by
      rcases Nat.eq_zero_or_pos xs.length with h0 | h0
      · exact List.length_eq_zero_iff.1 h0
      · obtain ⟨b, off, e, _⟩ := hat.get h0; cases e
    subst hn
    rw [hA rfl] at hx
    have hrun := run_append_owned_none (P := P) (w := w) base t o.type e i 1 ht i1 v ys.length _ hown
    unfold Oper.wp
    simp [execOp, ho, resolve, invoke, builtin, hs, hx, hrun, Result.andThen]
    obtain ⟨A', c', e', _⟩ := hown.reads
    have := h A' c' w (by rw [List.append_nil, ← e']; exact hown) ⟨rfl, rfl, rfl, Nat.le_refl _, fun _ _ _ => rfl⟩
    rw [List.append_nil, ← e'] at this
    exact this
  | some ad =>
    refine wp_append_own w s x t ho base e i (.int k 0) 1 bytes ht i1 i2 i3 i4 rfl (by decide) v ys.length (ys.map (Value.int k)) hs hown ad xs.length c (xs.map (Value.int k)) hx (by simp) ?_ (ints_oneCell k xs) (by unfold maxLen; omega) hb hbase ?_
    · intro j u hu
      rw [List.getElem?_map] at hu
      obtain ⟨y, hy, rfl⟩ := Option.map_eq_some_iff.1 hu
      obtain ⟨hj, hyj⟩ := List.getElem?_eq_some_iff.1 hy
      obtain ⟨b, off, e, hc⟩ := hat.get (by omega)
      cases e
      have := hc j hj
      rw [gi_eq xs j hj, hyj] at this
      unfold Addr.add
      split
      · rename_i e0; subst e0; simpa using this
      · exact this
    · intro v' w' h1 h2 h3
      have hO : OwnInts w' base k e v' (ys ++ xs) := by unfold OwnInts; simpa using h1
      obtain ⟨A', c', e', _⟩ := hO.reads
      subst e'
      exact h A' c' w' hO h2
theorem step_copy {P : Program} {ops : Array Oper} {o : Oper} {a : Act} {K : Act → World → Prop} {Q : Exit → Act → World → Prop} {E : Prop} (w : World) (hgd : o.guard = none) (s x : Operand) (t : TypeId)
    (ho : o.op = .call { callee := .builtin .append, args := #[s, x], argTypes := #[t, t] }) (base : Nat) (e : TypeId) (k : IntKind) (bytes : Nat) (ht : P.underlying t = some (.slice e))
    (hi : (P.info? e).map (fun i => (i.zero, i.size, i.bytes)) = some (some (.int k 0), 1, bytes)) (v : Value) (hs : a.eval s = v) (hown : OwnInts w base k e v []) (A : Option Addr) (c : Nat) (xs : List Int)
    (hx : a.eval x = .slice A xs.length c) (hA : A = none → c = 0) (hat : IntsAt w k A xs) (hb : xs.length * bytes ≤ 140737488355328) (hm : xs.length ≤ 140737488355328) (hbase : base ≤ w.heap.size)
    (h : ∀ A' c' w', OwnInts w' base k e (.slice A' xs.length c') xs → w.grownBy w' v.ownBlock → K (a.put o.dst (.slice A' xs.length c')) w') :
    if Region.wanted o (yielded ops a.tmps) = true then Oper.wp P o a w K Q else E :=
  step_appInts hgd s x t ho base e k bytes ht hi v [] hs hown A c xs hx hA hat (by simpa using hb) (by simpa using hm) hbase (fun A' c' w' h1 h2 => h A' c' w' h1 h2)
theorem emptyAt {w : World} (o : Obj) (base : Nat) (k : IntKind) (e : TypeId) (hb : base ≤ w.heap.size) : OwnInts ((w.alloc o).alloc (.cells #[] e)) base k e (.slice (some ⟨w.heap.size + 1, 0, none⟩) 0 0) [] := by
  have := OwnInts.empty (w.alloc o) base k e (by simp; omega)
  rw [World.size_alloc] at this
  exact this
theorem one2 {w : World} (o : Obj) (u : Value) (e : TypeId) : ((w.alloc o).alloc (.cells #[u] e)).cell? ⟨w.heap.size + 1, 0, none⟩ = some u := by
  have := cell_one (w.alloc o) u e
  rw [World.size_alloc] at this
  exact this
theorem one1 {w : World} (o : Obj) (u : Value) (e : TypeId) : ((w.alloc (.cells #[u] e)).alloc o).cell? ⟨w.heap.size, 0, none⟩ = some u :=
  ((Keeps.refl NoB _).alloc o).cell (cell_one w u e) (fun h => h)

/-- What has been made so far. -/
structure RInv (pb : Nat) (bc : Array Value) (B : Nat) (w : World) (hb a : Nat) (has : List (List Int)) (hs : List Value) : Prop where
  bx : w.heap[pb]? = some (.cells bc 23 (0, 0))
  hB : B ≤ hb
  h : w.ownsRow B 76 1 (.slice (some ⟨hb, 0, none⟩) a a) a hs
  all : OwnAll w B hs has
  la : has.length = a
theorem RInv.lhs {pb : Nat} {bc : Array Value} {B : Nat} {w : World} {hb a : Nat} {has : List (List Int)} {hs : List Value} (I : RInv pb bc B w hb a has hs) : hs.length = a := by simpa using I.h.1
theorem RInv.kept {pb : Nat} {bc : Array Value} {B : Nat} {w w1 : World} {hb a : Nat} {has : List (List Int)} {hs : List Value} (I : RInv pb bc B w hb a has hs) (hk : Keeps NoB w w1) : RInv pb bc B w1 hb a has hs :=
  ⟨hk.heap I.bx (fun h => h), I.hB, own_keeps I.h hk (fun _ _ h => h), I.all.kept hk, I.la⟩
theorem RInv.blk {pb : Nat} {bc : Array Value} {B : Nat} {w : World} {hb a : Nat} {has : List (List Int)} {hs : List Value} (I : RInv pb bc B w hb a has hs) : ∃ cells, w.heap[hb]? = some (.cells cells 76 (0, 0)) := own_block I.h hb (by simp [Value.ownBlock])
theorem RInv.b_ne {pb : Nat} {bc : Array Value} {B : Nat} {w : World} {hb a : Nat} {has : List (List Int)} {hs : List Value} (I : RInv pb bc B w hb a has hs) : pb ≠ hb := by
  obtain ⟨c1, h2⟩ := I.blk
  intro e; subst e
  have := I.bx
  rw [h2] at this
  injection this with this
  injection this with _ this
  exact absurd this (by decide)
/-- No cell of the rows' own row holds a number. -/
theorem RInv.int_ne {pb : Nat} {bc : Array Value} {B : Nat} {w : World} {hb a : Nat} {has : List (List Int)} {hs : List Value} (I : RInv pb bc B w hb a has hs) {b off : Nat} {x : Int} (hc : w.cell? ⟨b, off, none⟩ = some (.int .i64 x)) : b ≠ hb := by
  intro e; subst e
  rcases I.h.2 with ⟨h1, _⟩ | ⟨g', cap, cur, h1, hg, hh, h2, h3, h4, h5⟩
  · cases h1
  · cases h1
    have hsz : cur.size = a := by simpa using h4
    have hcl : cur.toList = hs := by rw [← h5]; rw [List.take_of_length_le (by simp [hsz])]
    have hc2 : cur.toList[off]? = some (.int .i64 x) := by
      simp [World.cell?, hh] at hc
      simpa using hc
    rw [hcl] at hc2
    obtain ⟨A, c, e, _⟩ := (I.all.own off _ hc2).reads
    cases e
theorem RInv.put {pb : Nat} {bc : Array Value} {B : Nat} {w w1 : World} {hb a j : Nat} {has : List (List Int)} {hs : List Value} {u u' : Value} {l : List Int} (I : RInv pb bc B w hb a has hs) (hj : hs[j]? = some u)
    (hk : Keeps NoB w w1) (hown : OwnInts w1 B .i64 3 u' l) (hat : ∀ b, u'.ownBlock = some b → w.heap.size ≤ b) :
    RInv pb bc B (w1.setCell ⟨hb, j, none⟩ u') hb a (has.set j l) (hs.set j u') := by
  have hk2 : Keeps (fun k => k = hb) w1 (w1.setCell ⟨hb, j, none⟩ u') := Keeps.one w1 hb j _
  obtain ⟨c, hc⟩ := I.blk
  have hc1 := hk.heap hc (fun h => h)
  have hall : OwnAll w1 B (hs.set j u') (has.set j l) := I.all.set hj (hk.mono (fun _ h => h.elim)) hown (fun b hb2 => .inr (hat b hb2))
  refine ⟨hk2.heap (hk.heap I.bx (fun h => h)) I.b_ne, I.hB, own_set (own_keeps I.h hk (fun _ _ h => h)) _, hall.keeps hk2 (fun k v b hv hb2 e => ?_), by rw [List.length_set]; exact I.la⟩
  subst e
  exact own_ne (hall.own k v hv) hc1 (by decide) hb2

set_option maxHeartbeats 8000000 in
set_option maxRecDepth 20000 in
theorem rHas_calls (p : Par) (session : Nat) (w : World) (hm : p.may) (hs : session < 18446744073709551616) :
    Calls Try.prog 31 #[p.val, .int .u64 (session : Int)] w fun e w' => ∃ A c, e = .returned (.slice A (hasN p session p.n.toNat).length c) ∧ RowsAt w' A (hasN p session p.n.toNat) ∧ Keeps NoB w w' := by
  have hu := Try.underlying23
  have HM := hid hm
  have hab := auxN_bounds hm
  have hpn : 1 ≤ p.n ∧ p.n ≤ 1048576 := ⟨hm.1, hm.2.1⟩
  obtain ⟨a, ha⟩ : ∃ a : Nat, auxN p = (a : Int) := ⟨(auxN p).toNat, by omega⟩
  obtain ⟨n, hn⟩ : ∃ n : Nat, p.n = (n : Int) := ⟨p.n.toNat, by omega⟩
  have ha1 : 1 ≤ a := by omega
  have ha2 : a ≤ 4613735 := by omega
  have hn1 : 1 ≤ n := by omega
  have hn2 : n ≤ 1048576 := by omega
  have HA := hid ha
  have HN := hid hn
  clear hm hab hpn ha hn
  obtain ⟨i0, hi, hz0, hz1, hz2⟩ := info_parts info_ints
  have hus := Try.underlying72
  have hui := Try.underlying76
  have hbA := hid (heap_alloc_new w (.cells #[.int .i64 p.n, .int .i64 p.b, .int .i64 p.q, .int .i64 p.eps, .int .i64 p.f] 23))
  obtain ⟨a0, a1, a2, a3, a4⟩ := cells5 hbA.out
  unfold Par.val
  go_enter Try.func31, Try.ntmps31
  go_wp2_with fail
  refine (raux_calls p _ HM.out).mono ?_
  rintro e w2 ⟨rfl, HK2⟩
  rw [HA.out]
  have hbox2 := hid (HK2.heap hbA.out (fun h => h))
  have HK2 := hid (((Keeps.refl NoB w).alloc _).fresh HK2)
  clear a0 a1 a2 a3 a4
  go_wp2_with (at_make; go_must (refine wpList_make_full _ rfl _ _ _ rfl w.heap.size 76 i0 (.slice none 0 0) 1 hus hi hz0 hz1 .i64 .i64 _ _ a rfl rfl rfl rfl (by rw [hz2]; omega) (by unfold maxLen; omega) HK2.out.size ?_); intro w3 hown3 hgr3)
  have I0 := hid (show RInv w.heap.size #[.int .i64 p.n, .int .i64 p.b, .int .i64 p.q, .int .i64 p.eps, .int .i64 p.f] w.heap.size w3 w2.heap.size a (hasN p session 0) (List.replicate a (.slice none 0 0)) by
    have e0 : (madeCells (Value.slice none 0 0).cells (a * 1)).toList = List.replicate a (Value.slice none 0 0) := by
      rw [Nat.mul_one]
      apply List.ext_getElem
      · simp [madeCells]
      · intro i h1 h2; simp [madeCells, Value.cells, Nat.mod_one]
    rw [e0] at hown3
    refine ⟨(Keeps.ofGrown hgr3).heap hbox2.out (fun e => by cases e), HK2.out.size, hown3, ?_, ?_⟩
    · have := OwnAll.nils w3 w.heap.size a
      have e1 : hasN p session 0 = List.replicate a [] := by show List.replicate (auxN p).toNat [] = _; rw [HA.out]; rfl
      rw [e1]
      exact this
    · rw [hasN_length, HA.out]; rfl)
  have HK3 := hid (HK2.out.grown hgr3 (fun i e => by cases e))
  clear hown3 hgr3 hbox2 HK2
  generalize w2.heap.size = hb at *
  go_loopw [6] (fun v6 wr => ∃ (k : Nat) (hs : List Value), k ≤ n ∧ v6 = .int .i64 k ∧ Hid (RInv w.heap.size #[.int .i64 p.n, .int .i64 p.b, .int .i64 p.q, .int .i64 p.eps, .int .i64 p.f] w.heap.size wr hb a (hasN p session k) hs) ∧ Hid (Keeps NoB w wr)) (fun v6 _ => n - (intOf v6).toNat)
  case atStart => exact ⟨0, _, Nat.zero_le _, rfl, I0.out, HK3.out⟩
  case round =>
    obtain ⟨k, hs, hk, rfl, HI, HK⟩ := hrel
    obtain ⟨b0, b1, b2, b3, b4⟩ := cells5 HI.out.bx
    by_cases hlt : k < n
    · have d0 : decide ((k : Int) < p.n) = true := decide_eq_true (by rw [HN.out]; omega)
      go_wp2_with fail
      refine (rOf_calls p session k _ HM.out (by omega) (by omega)).mono ?_
      rintro e w5 ⟨A6, c6, rfl, hat6, HK5⟩
      have I5 := hid (HI.out.kept HK5)
      have HK5 := hid (HK.out.fresh HK5)
      have hat6 := hid hat6
      have hl8 := ofN_length p session k HM.out
      have hin := hid (ofN_in p session k HM.out)
      have hhas := hid (show hasN p session (k + 1) = putAll (hasN p session k) k (ofN p session k) from rfl)
      have hbd0 := hid (hasN_bound p session HM.out k)
      clear b0 b1 b2 b3 b4 HI HK
      generalize ofN p session k = l at *
      generalize hasN p session k = has at *
      go_wp2_with fail
      go_loopw [8] (fun v8 wr => ∃ (m : Nat) (hs' : List Value), m ≤ l.length ∧ v8 = .int .i64 m ∧ Hid (RInv w.heap.size #[.int .i64 p.n, .int .i64 p.b, .int .i64 p.q, .int .i64 p.eps, .int .i64 p.f] w.heap.size wr hb a (putAll has k (l.take m)) hs') ∧ Hid (IntsAt wr .i64 A6 l) ∧ Hid (Keeps NoB w wr)) (fun v8 _ => l.length - (intOf v8).toNat)
      case atStart => exact ⟨0, _, Nat.zero_le _, rfl, I5.out, hid hat6.out, HK5.out⟩
      case round =>
        obtain ⟨m, hs', hm', rfl, HI, HO, HK⟩ := hrel
        by_cases hlt2 : m < l.length
        · obtain ⟨b6, o6, rfl, hc6⟩ := HO.out.get (by omega)
          have hjm := hin.out (gi l m) (gi_mem l m hlt2)
          obtain ⟨j, hj⟩ : ∃ j : Nat, gi l m = (j : Int) := ⟨(gi l m).toNat, by omega⟩
          have cj : wr.cell? ⟨b6, o6 + m, none⟩ = some (.int .i64 (j : Int)) := by rw [← hj]; exact hc6 m hlt2
          have hja : j < a := by have := hjm.2; rw [HA.out] at this; omega
          have hjs : j < hs'.length := by rw [HI.out.lhs]; exact hja
          obtain ⟨u, hu⟩ : ∃ u, hs'[j]? = some u := ⟨hs'[j], List.getElem?_eq_getElem hjs⟩
          have hown := hid (HI.out.all.own j u hu)
          have hbl := putAll_bound (k : Int) (l.take m) has (8 * k) hbd0.out j
          have hbl2 : (l.take m).length ≤ m := by rw [List.length_take]; omega
          have hnext := hid (show putAll has k (l.take (m + 1)) = (putAll has k (l.take m)).set j (gl (putAll has k (l.take m)) j ++ [(k : Int)]) by
            rw [List.take_succ_eq_append_getElem hlt2, putAll_snoc, ← gi_eq l m hlt2, hj]; rfl)
          have hbne := hid (HI.out.int_ne cj)
          have hu := hid hu
          have hj := hid hj
          obtain ⟨A1, c1, rfl, hA1, hat1⟩ : ∃ A c, u = .slice A (gl (putAll has k (l.take m)) j).length c ∧ (A = none → c = 0) ∧ IntsAt wr .i64 A (gl (putAll has k (l.take m)) j) := by
            obtain ⟨A, c, e, _, h0, h1⟩ := hown.out.row
            exact ⟨A, c, e, h0, h1⟩
          have hat1 := hid hat1
          have hA1 := hid hA1
          have ch : wr.cell? ⟨hb, j, none⟩ = some (.slice A1 (gl (putAll has k (l.take m)) j).length c1) := own_cell HI.out.h hu.out
          have fh : wr.frozen? ⟨hb, j, none⟩ = false := own_free HI.out.h j
          have hj0 : (0 : Int) ≤ (j : Int) := by omega
          have hj1 : (j : Int) < (a : Int) := by omega
          have hszr := HK.out.size
          clear hjs hc6 hjm
          generalize gl (putAll has k (l.take m)) j = lj at *
          go_wp2_with fail
          have q1 := ((Keeps.refl NoB wr).alloc (.cells #[] 3)).cell cj (fun h => h)
          have q2 := ((Keeps.refl NoB wr).alloc (.cells #[] 3)).cell ch (fun h => h)
          have q3 := ((Keeps.refl NoB wr).alloc (.cells #[.int .i64 (k : Int)] 3)).cell cj (fun h => h)
          have q4 := ((Keeps.refl NoB wr).alloc (.cells #[.int .i64 (k : Int)] 3)).cell ch (fun h => h)
          have q5 := (((Keeps.refl NoB wr).alloc (.cells #[] 3)).alloc (.cells #[.int .i64 (k : Int)] 3)).cell cj (fun h => h)
          have q6 := (((Keeps.refl NoB wr).alloc (.cells #[] 3)).alloc (.cells #[.int .i64 (k : Int)] 3)).cell ch (fun h => h)
          have q7 := (((Keeps.refl NoB wr).alloc (.cells #[.int .i64 (k : Int)] 3)).alloc (.cells #[] 3)).cell cj (fun h => h)
          have q8 := (((Keeps.refl NoB wr).alloc (.cells #[.int .i64 (k : Int)] 3)).alloc (.cells #[] 3)).cell ch (fun h => h)
          go_region_law (first
            | (refine step_app1 rfl _ _ 76 rfl wr.heap.size 3 .i64 8 hui info_int (.slice A9 lj.length c9) lj rfl hown9 _ _ _ rfl hE.out (by omega) (by omega) HK9.out.size ?_; intro g10 cap10 w10 hown10 hgr10 hat10; have HK10 := hid (HK9.out.own hown9 hgr10 (Nat.le_refl _)); have cj10 := HK10.out.cell cj (fun h => h); have ch10 := HK10.out.cell ch (fun h => h); have fh10 : w10.frozen? ⟨hb, j, none⟩ = false := own_free (own_keeps HI.out.h HK10.out (fun _ _ h => h)) j)
            | (refine step_app1 rfl _ _ 76 rfl wr.heap.size 3 .i64 8 hui info_int (.slice A9 lj.length c9) lj rfl (OwnInts.alloc hown9 _) _ _ _ rfl (cell_one w9 _ _) (by omega) (by omega) (by have := HK9.out.size; simp; omega) ?_; intro g10 cap10 w10 hown10 hgr10 hat10; have HK10 := hid ((HK9.out.alloc _).own (OwnInts.alloc hown9 _) hgr10 (Nat.le_refl _)); have cj10 := HK10.out.cell cj (fun h => h); have ch10 := HK10.out.cell ch (fun h => h); have fh10 : w10.frozen? ⟨hb, j, none⟩ = false := own_free (own_keeps HI.out.h HK10.out (fun _ _ h => h)) j)
            | (have HKp := hid (show Keeps NoB wr ((wr.alloc (.cells #[.int .i64 (k : Int)] 3)).alloc (.cells #[] 3)).drew from (((Keeps.refl NoB wr).alloc _).alloc _).drew); have hOW := hid (show OwnInts ((wr.alloc (.cells #[.int .i64 (k : Int)] 3)).alloc (.cells #[] 3)).drew wr.heap.size .i64 3 (.slice (some ⟨(wr.heap.size + 1), 0, none⟩) 0 0) [] from emptyAt _ _ _ _ (Nat.le_refl _)); refine step_copy ((wr.alloc (.cells #[.int .i64 (k : Int)] 3)).alloc (.cells #[] 3)).drew rfl _ _ 76 rfl wr.heap.size 3 .i64 8 hui info_int (.slice (some ⟨(wr.heap.size + 1), 0, none⟩) 0 0) rfl hOW.out A1 c1 lj rfl hA1.out (hat1.out.kept HKp.out) (by omega) (by omega) HKp.out.size ?_; intro A9 c9 w9 hown9 hgr9; have HK9 := hid (HKp.out.own hOW.out hgr9 (Nat.le_refl _)); have cj9 := HK9.out.cell cj (fun h => h); have cj9' := (HK9.out.alloc (.cells #[.int .i64 (k : Int)] 3)).cell cj (fun h => h); have hE := hid ((Keeps.ofGrown hgr9).cell (a := ⟨wr.heap.size, 0, none⟩) (one1 (w := wr) (.cells #[] 3) (.int .i64 (k : Int)) 3) (fun e => by simp [Value.ownBlock] at e)))
            | (have HKp := hid (show Keeps NoB wr ((wr.alloc (.cells #[] 3)).alloc (.cells #[.int .i64 (k : Int)] 3)).drew from (((Keeps.refl NoB wr).alloc _).alloc _).drew); have hOW := hid (show OwnInts ((wr.alloc (.cells #[] 3)).alloc (.cells #[.int .i64 (k : Int)] 3)).drew wr.heap.size .i64 3 (.slice (some ⟨wr.heap.size, 0, none⟩) 0 0) [] from OwnInts.alloc (OwnInts.empty wr _ _ _ (Nat.le_refl _)) _); refine step_copy ((wr.alloc (.cells #[] 3)).alloc (.cells #[.int .i64 (k : Int)] 3)).drew rfl _ _ 76 rfl wr.heap.size 3 .i64 8 hui info_int (.slice (some ⟨wr.heap.size, 0, none⟩) 0 0) rfl hOW.out A1 c1 lj rfl hA1.out (hat1.out.kept HKp.out) (by omega) (by omega) HKp.out.size ?_; intro A9 c9 w9 hown9 hgr9; have HK9 := hid (HKp.out.own hOW.out hgr9 (Nat.le_refl _)); have cj9 := HK9.out.cell cj (fun h => h); have cj9' := (HK9.out.alloc (.cells #[.int .i64 (k : Int)] 3)).cell cj (fun h => h); have hE := hid ((Keeps.ofGrown hgr9).cell (a := ⟨wr.heap.size + 1, 0, none⟩) (one2 (w := wr) (.cells #[] 3) (.int .i64 (k : Int)) 3) (fun e => by simp [Value.ownBlock] at e)))
            | (have HKp := hid (show Keeps NoB wr (wr.alloc (.cells #[] 3)).drew from ((Keeps.refl NoB wr).alloc _).drew); have hOW := hid (show OwnInts (wr.alloc (.cells #[] 3)).drew wr.heap.size .i64 3 (.slice (some ⟨wr.heap.size, 0, none⟩) 0 0) [] from OwnInts.empty wr _ _ _ (Nat.le_refl _)); refine step_copy (wr.alloc (.cells #[] 3)).drew rfl _ _ 76 rfl wr.heap.size 3 .i64 8 hui info_int (.slice (some ⟨wr.heap.size, 0, none⟩) 0 0) rfl hOW.out A1 c1 lj rfl hA1.out (hat1.out.kept HKp.out) (by omega) (by omega) HKp.out.size ?_; intro A9 c9 w9 hown9 hgr9; have HK9 := hid (HKp.out.own hOW.out hgr9 (Nat.le_refl _)); have cj9 := HK9.out.cell cj (fun h => h); have cj9' := (HK9.out.alloc (.cells #[.int .i64 (k : Int)] 3)).cell cj (fun h => h)))
          all_goals (go_wp2_with fail; go_roundw)
          all_goals first
            | (case measure => simp [intOf]; omega)
            | (case rel =>
                have I9 := hid (HI.out.put hu.out HK10.out (OwnInts.lower hown10 hszr) (fun b hb2 => (hown10.base_le b hb2).1))
                exact ⟨m + 1, _, by omega, by go_num, hid (by rw [hnext.out]; exact I9.out), hid ((HO.out.kept HK10.out).keeps (Keeps.one w10 hb j _) (fun b off e _ e2 => hbne.out (by cases e; exact e2))), hid ((HK.out.fresh HK10.out).setCell (p := ⟨hb, j, none⟩) (fun hq => absurd HI.out.hB (Nat.not_le.2 hq)) _)⟩)
        · obtain rfl : m = l.length := by omega
          have hta := hid (show putAll has k (l.take l.length) = hasN p session (k + 1) by rw [List.take_length, hhas.out])
          rw [hta.out] at HI
          go_wp2_with fail
          go_roundw
          case rel => exact ⟨k + 1, _, by omega, by go_num, hid HI.out, hid HK.out⟩
          case measure => simp [intOf]; omega
    · obtain rfl : k = n := by omega
      have d0 : decide ((k : Int) < p.n) = false := decide_eq_false (by rw [HN.out]; omega)
      go_wp2_with fail
      go_ret
      have e1 : p.n.toNat = k := by rw [HN.out]; simp
      have e2 : (hasN p session k).length = a := HI.out.la
      rw [e1]
      refine ⟨some ⟨hb, 0, none⟩, a, congrArg (fun x : Nat => Ending.returned (.slice (some ⟨hb, 0, none⟩) x a)) e2.symm, HI.out.all.rows (g := hb) (c := a) (n := a) (base := w.heap.size) (e := 76) (by rw [HI.out.lhs]; exact HI.out.h) (by omega), HK.out⟩
end Go.Proofs.Ytnnkfopopanfjaa
