/- How a graph is made: the walk of outer.New. Conditions: numbers are of their kinds. -/
import Derived.Test.YtnnkfopopanfjaaOuter
import Derived.Test.YtnnkfopopanfjaaG2
import Derived.Deep.RegionLaw
set_option linter.unusedVariables false
namespace Go.Proofs.Ytnnkfopopanfjaa
open Go.RowKit
attribute [local go_sem ↓] Go.wp_at_zero Go.wp_at_succ

/-- The auxiliary blocks that message block i is in. -/
noncomputable def ofN (p : Par) (session i : Nat) : List Int := someN (seedN [session, 1, i]) (auxN p) p.q
def putAt (h : List (List Int)) (i j : Int) : List (List Int) := h.set j.toNat (gl h j.toNat ++ [i])
def putAll (h : List (List Int)) (i : Int) (l : List Int) : List (List Int) := l.foldl (fun h j => putAt h i j) h
theorem putAll_snoc (h : List (List Int)) (i : Int) (l : List Int) (j : Int) : putAll h i (l ++ [j]) = putAt (putAll h i l) i j := by unfold putAll; rw [List.foldl_append]; rfl
theorem putAt_length (h : List (List Int)) (i j : Int) : (putAt h i j).length = h.length := by simp [putAt]
theorem putAll_length (i : Int) (l : List Int) : ∀ h : List (List Int), (putAll h i l).length = h.length := by
  induction l with
  | nil => intro h; rfl
  | cons j r ih => intro h; show (putAll (putAt h i j) i r).length = _; rw [ih, putAt_length]
/-- What each auxiliary block has, behind k message blocks. -/
noncomputable def hasN (p : Par) (session : Nat) : Nat → List (List Int)
  | 0 => List.replicate (auxN p).toNat []
  | k + 1 => putAll (hasN p session k) k (ofN p session k)
noncomputable def ofsN (p : Par) (session k : Nat) : List (List Int) := (List.range k).map (ofN p session)
theorem hasN_length (p : Par) (session k : Nat) : (hasN p session k).length = (auxN p).toNat := by
  induction k with
  | zero => simp [hasN]
  | succ k ih => show (putAll _ _ _).length = _; rw [putAll_length, ih]
theorem ofsN_length (p : Par) (session k : Nat) : (ofsN p session k).length = k := by simp [ofsN]
theorem ofsN_succ (p : Par) (session k : Nat) : ofsN p session (k + 1) = ofsN p session k ++ [ofN p session k] := by unfold ofsN; rw [List.range_succ, List.map_append]; rfl
theorem putAt_bound {h : List (List Int)} {B : Nat} (hb : ∀ j, (gl h j).length ≤ B) (i j : Int) : ∀ k, (gl (putAt h i j) k).length ≤ B + 1 := by
  intro k
  unfold putAt
  rw [gl_set]
  split
  · rw [List.length_append]; have := hb j.toNat; simp; omega
  · have := hb k; omega
theorem putAll_bound (i : Int) (l : List Int) : ∀ (h : List (List Int)) (B : Nat), (∀ j, (gl h j).length ≤ B) → ∀ k, (gl (putAll h i l) k).length ≤ B + l.length := by
  induction l with
  | nil => intro h B hb k; exact hb k
  | cons j r ih =>
    intro h B hb k
    have := ih (putAt h i j) (B + 1) (putAt_bound hb i j) k
    show (gl (putAll (putAt h i j) i r) k).length ≤ _
    rw [List.length_cons]; omega
theorem ofN_length (p : Par) (session i : Nat) (hp : p.may) : (ofN p session i).length ≤ 8 := by
  unfold ofN
  rw [someN_length]
  obtain ⟨h1, h2, h3, h4, h5, h6, h7, h8, _⟩ := hp
  unfold cntN; split <;> omega
theorem ofN_in (p : Par) (session i : Nat) (hp : p.may) : ∀ j ∈ ofN p session i, 0 ≤ j ∧ j.toNat < (auxN p).toNat := by
  intro j hj
  have := someN_below _ _ _ j hj
  have := auxN_bounds hp
  omega
theorem hasN_bound (p : Par) (session : Nat) (hp : p.may) (k : Nat) : ∀ j, (gl (hasN p session k) j).length ≤ 8 * k := by
  induction k with
  | zero =>
    intro j
    have : gl (hasN p session 0) j = [] := by unfold gl hasN; rw [List.getD_eq_getElem?_getD, List.getElem?_replicate]; split <;> rfl
    rw [this]; simp
  | succ k ih =>
    intro j
    have := putAll_bound (k : Int) (ofN p session k) (hasN p session k) (8 * k) ih j
    have := ofN_length p session k hp
    show (gl (putAll _ _ _) j).length ≤ _
    omega
theorem info_ints : (Try.prog.info? 76).map (fun i => (i.zero, i.size, i.bytes)) = some (some (.slice none 0 0), 1, 24) := by kernel_rfl

/-- What has been made so far. -/
structure NewInv (pb : Nat) (bc : Array Value) (B : Nat) (w : World) (gb hb a : Nat) (ofs has : List (List Int)) (vo : Value) (os hs : List Value) : Prop where
  bx : w.heap[pb]? = some (.cells bc 23 (0, 0))
  g : w.heap[gb]? = some (.cells #[vo, .slice (some ⟨hb, 0, none⟩) a a] 123 (0, 0))
  gB : B ≤ gb
  hB : B ≤ hb
  o : w.ownsRow B 76 1 vo ofs.length os
  h : w.ownsRow B 76 1 (.slice (some ⟨hb, 0, none⟩) a a) a hs
  ne : vo.ownBlock ≠ some hb
  all : OwnAll w B (hs ++ os) (has ++ ofs)
  la : has.length = a
theorem NewInv.lhs {pb : Nat} {bc : Array Value} {B : Nat} {w : World} {gb hb a : Nat} {ofs has : List (List Int)} {vo : Value} {os hs : List Value} (I : NewInv pb bc B w gb hb a ofs has vo os hs) : hs.length = a := by simpa using I.h.1
theorem NewInv.los {pb : Nat} {bc : Array Value} {B : Nat} {w : World} {gb hb a : Nat} {ofs has : List (List Int)} {vo : Value} {os hs : List Value} (I : NewInv pb bc B w gb hb a ofs has vo os hs) : os.length = ofs.length := by simpa using I.o.1
theorem NewInv.kept {pb : Nat} {bc : Array Value} {B : Nat} {w w1 : World} {gb hb a : Nat} {ofs has : List (List Int)} {vo : Value} {os hs : List Value} (I : NewInv pb bc B w gb hb a ofs has vo os hs) (hk : Keeps NoB w w1) : NewInv pb bc B w1 gb hb a ofs has vo os hs :=
  ⟨hk.heap I.bx (fun h => h), hk.heap I.g (fun h => h), I.gB, I.hB, own_keeps I.o hk (fun _ _ h => h), own_keeps I.h hk (fun _ _ h => h), I.ne, I.all.kept hk, I.la⟩
theorem NewInv.below {pb : Nat} {bc : Array Value} {B : Nat} {w w1 : World} {gb hb a : Nat} {ofs has : List (List Int)} {vo : Value} {os hs : List Value} (I : NewInv pb bc B w gb hb a ofs has vo os hs) (hpb : B ≤ pb) (hk : Keeps (fun k => k < B) w w1) : NewInv pb bc B w1 gb hb a ofs has vo os hs :=
  ⟨hk.heap I.bx (Nat.not_lt.2 hpb), hk.heap I.g (Nat.not_lt.2 I.gB), I.gB, I.hB, own_keeps I.o hk (fun b hb2 => Nat.not_lt.2 (World.ownsRow.lt I.o b hb2).1), own_keeps I.h hk (fun b hb2 => Nat.not_lt.2 (World.ownsRow.lt I.h b hb2).1), I.ne, I.all.keeps hk (fun j u b hu hb2 => Nat.not_lt.2 (I.all.lt j u b hu hb2).1), I.la⟩
theorem NewInv.hblk {pb : Nat} {bc : Array Value} {B : Nat} {w : World} {gb hb a : Nat} {ofs has : List (List Int)} {vo : Value} {os hs : List Value} (I : NewInv pb bc B w gb hb a ofs has vo os hs) : ∃ cells, w.heap[hb]? = some (.cells cells 76 (0, 0)) := own_block I.h hb (by simp [Value.ownBlock])
/-- Which blocks the rows are not. -/
theorem NewInv.row_ne {pb : Nat} {bc : Array Value} {B : Nat} {w : World} {gb hb a : Nat} {ofs has : List (List Int)} {vo : Value} {os hs : List Value} (I : NewInv pb bc B w gb hb a ofs has vo os hs) (j : Nat) (u : Value) (hu : (hs ++ os)[j]? = some u) : u.ownBlock ≠ some gb ∧ u.ownBlock ≠ some hb ∧ ∀ k, vo.ownBlock = some k → u.ownBlock ≠ some k := by
  have h1 := I.all.own j u hu
  obtain ⟨c1, h2⟩ := I.hblk
  refine ⟨own_ne h1 I.g (by decide), own_ne h1 h2 (by decide), fun k hk => ?_⟩
  obtain ⟨c2, h3⟩ := own_block I.o k hk
  exact own_ne h1 h3 (by decide)
theorem NewInv.g_ne {pb : Nat} {bc : Array Value} {B : Nat} {w : World} {gb hb a : Nat} {ofs has : List (List Int)} {vo : Value} {os hs : List Value} (I : NewInv pb bc B w gb hb a ofs has vo os hs) : gb ≠ hb ∧ vo.ownBlock ≠ some gb := by
  obtain ⟨c1, h2⟩ := I.hblk
  refine ⟨fun e => ?_, own_ne I.o I.g (by decide)⟩
  subst e
  have := I.g
  rw [h2] at this
  injection this with this
  injection this with _ this
  exact absurd this (by decide)
theorem NewInv.b_ne {pb : Nat} {bc : Array Value} {B : Nat} {w : World} {gb hb a : Nat} {ofs has : List (List Int)} {vo : Value} {os hs : List Value} (I : NewInv pb bc B w gb hb a ofs has vo os hs) : pb ≠ gb ∧ pb ≠ hb ∧ vo.ownBlock ≠ some pb ∧ ∀ (j : Nat) (u : Value), (hs ++ os)[j]? = some u → u.ownBlock ≠ some pb := by
  obtain ⟨c1, h2⟩ := I.hblk
  refine ⟨fun e => ?_, fun e => ?_, own_ne I.o I.bx (by decide), fun j u hu => own_ne (I.all.own j u hu) I.bx (by decide)⟩
  · subst e
    have := I.g
    rw [I.bx] at this
    injection this with this
    injection this with _ this
    exact absurd this (by decide)
  · subst e
    have := I.bx
    rw [h2] at this
    injection this with this
    injection this with _ this
    exact absurd this (by decide)
theorem heap_set_same {w : World} {g o : Nat} {cells : Array Value} {T : TypeId} {fr : Nat × Nat} (h : w.heap[g]? = some (.cells cells T fr)) (u : Value) : (w.setCell ⟨g, o, none⟩ u).heap[g]? = some (.cells (cells.setIfInBounds o u) T fr) := by
  show (w.heap.modify g _)[g]? = _
  rw [Array.getElem?_modify, if_pos rfl, h]; rfl
theorem NewInv.snoc {pb : Nat} {bc : Array Value} {B : Nat} {w w1 : World} {gb hb a g cap : Nat} {ofs has : List (List Int)} {vo v : Value} {os hs : List Value} {l : List Int} {ob : Obj} (I : NewInv pb bc B w gb hb a ofs has vo os hs) (hv : OwnInts w B .i64 3 v l)
    (hf : ∀ (j : Nat) (u : Value) (b : Nat), (hs ++ os)[j]? = some u → u.ownBlock = some b → v.ownBlock ≠ some b) (h1 : w1.ownsRow B 76 1 (.slice (some ⟨g, 0, none⟩) (ofs.length + 1) cap) (ofs.length + 1) (os ++ [v]))
    (hg : (w.alloc ob).grownBy w1 vo.ownBlock) (hat : vo.ownBlock = some g ∨ g = w.heap.size + 1) :
    NewInv pb bc B (w1.setCell ⟨gb, 0, none⟩ (.slice (some ⟨g, 0, none⟩) (ofs.length + 1) cap)) gb hb a (ofs ++ [l]) has (.slice (some ⟨g, 0, none⟩) (ofs.length + 1) cap) (os ++ [v]) hs := by
  have hk : Keeps (fun k => some k = vo.ownBlock) w w1 := ((Keeps.refl NoB w).alloc ob).trans (Keeps.ofGrown hg) (fun _ _ h => h.elim) (fun _ _ h => h)
  have hk2 : Keeps (fun k => k = gb) w1 (w1.setCell ⟨gb, 0, none⟩ (.slice (some ⟨g, 0, none⟩) (ofs.length + 1) cap)) := Keeps.one w1 gb 0 _
  have ha : OwnAll w B (hs ++ (os ++ [v])) (has ++ (ofs ++ [l])) := by
    rw [← List.append_assoc, ← List.append_assoc]
    exact I.all.snoc hv hf
  have hvne : v.ownBlock ≠ some gb ∧ ∀ k, vo.ownBlock = some k → v.ownBlock ≠ some k := by
    refine ⟨own_ne hv I.g (by decide), fun k hk => ?_⟩
    obtain ⟨c2, h3⟩ := own_block I.o k hk
    exact own_ne hv h3 (by decide)
  have hrow : ∀ (j : Nat) (u : Value), (hs ++ (os ++ [v]))[j]? = some u → u.ownBlock ≠ some gb ∧ ∀ k, vo.ownBlock = some k → u.ownBlock ≠ some k := by
    intro j u hu
    rw [← List.append_assoc, List.getElem?_append] at hu
    split at hu
    · have := I.row_ne j u hu; exact ⟨this.1, this.2.2⟩
    · have : u = v := by
        rcases Nat.lt_or_ge (j - (hs ++ os).length) 1 with h3 | h3
        · rw [show j - (hs ++ os).length = 0 by omega] at hu; simpa using hu.symm
        · rw [List.getElem?_eq_none (by simpa using h3)] at hu; cases hu
      subst this; exact hvne
  have hgb1 : w1.heap[gb]? = some (.cells #[vo, .slice (some ⟨hb, 0, none⟩) a a] 123 (0, 0)) := hk.heap I.g (fun e => I.g_ne.2 e.symm)
  refine ⟨hk2.heap (hk.heap I.bx (fun e => I.b_ne.2.2.1 e.symm)) I.b_ne.1, heap_set_same hgb1 _, I.gB, I.hB, ?_, ?_, ?_, ?_, I.la⟩
  · rw [List.length_append]
    exact own_keeps h1 hk2 (fun b hb2 e => by subst e; exact own_ne h1 hgb1 (by decide) hb2)
  · refine own_keeps (own_keeps I.h hk (fun b hb2 e => ?_)) hk2 (fun b hb2 e => ?_)
    · have : hb = b := by simpa [Value.ownBlock] using hb2
      subst this; exact I.ne e.symm
    · have : hb = b := by simpa [Value.ownBlock] using hb2
      subst this; exact I.g_ne.1 e.symm
  · intro e
    have : g = hb := by simpa [Value.ownBlock] using e
    subst this
    rcases hat with h | h
    · exact I.ne h
    · obtain ⟨c, hc⟩ := I.hblk
      have := lt_of_heap hc; omega
  · exact (ha.keeps hk (fun j u b hu hb2 e => (hrow j u hu).2 b e.symm hb2)).keeps hk2 (fun j u b hu hb2 e => by subst e; exact (hrow j u hu).1 hb2)
theorem NewInv.put {pb : Nat} {bc : Array Value} {B : Nat} {w wa w1 : World} {gb hb a g n cap j : Nat} {ofs has : List (List Int)} {vo u : Value} {os hs : List Value} {l : List Int} (I : NewInv pb bc B w gb hb a ofs has vo os hs) (hj : hs[j]? = some u)
    (hka : Keeps NoB w wa) (hg : wa.grownBy w1 u.ownBlock) (hown : OwnInts w1 B .i64 3 (.slice (some ⟨g, 0, none⟩) n cap) l) (hat : u.ownBlock = some g ∨ w.heap.size ≤ g) :
    NewInv pb bc B (w1.setCell ⟨hb, j, none⟩ (.slice (some ⟨g, 0, none⟩) n cap)) gb hb a ofs (has.set j l) vo os (hs.set j (.slice (some ⟨g, 0, none⟩) n cap)) := by
  have hk : Keeps (fun k => some k = u.ownBlock) w w1 := hka.trans (Keeps.ofGrown hg) (fun _ _ h => h.elim) (fun _ _ h => h)
  have hk2 : Keeps (fun k => k = hb) w1 (w1.setCell ⟨hb, j, none⟩ (.slice (some ⟨g, 0, none⟩) n cap)) := Keeps.one w1 hb j _
  have hjl : j < hs.length := (List.getElem?_eq_some_iff.1 hj).1
  have hj' : (hs ++ os)[j]? = some u := by rw [List.getElem?_append_left hjl]; exact hj
  obtain ⟨n1, n2, n3⟩ := I.row_ne j u hj'
  obtain ⟨c, hc⟩ := I.hblk
  have hc1 : w1.heap[hb]? = some (.cells c 76 (0, 0)) := hk.heap hc (fun e => n2 e.symm)
  have hall : OwnAll w1 B ((hs ++ os).set j (.slice (some ⟨g, 0, none⟩) n cap)) ((has ++ ofs).set j l) := I.all.set hj' hk hown (fun b hb2 => by
    have : g = b := by simpa [Value.ownBlock] using hb2
    subst this; exact hat)
  have e1 : (hs ++ os).set j (.slice (some ⟨g, 0, none⟩) n cap) = hs.set j (.slice (some ⟨g, 0, none⟩) n cap) ++ os := by rw [List.set_append]; rw [if_pos hjl]
  have e2 : (has ++ ofs).set j l = has.set j l ++ ofs := by rw [List.set_append]; rw [if_pos (by rw [I.la, ← I.lhs]; exact hjl)]
  rw [e1, e2] at hall
  refine ⟨hk2.heap (hk.heap I.bx (fun e => I.b_ne.2.2.2 j u hj' e.symm)) I.b_ne.2.1, ?_, I.gB, I.hB, ?_, ?_, I.ne, ?_, by rw [List.length_set]; exact I.la⟩
  · exact hk2.heap (hk.heap I.g (fun e => n1 e.symm)) (fun e => I.g_ne.1 e)
  · exact own_keeps (own_keeps I.o hk (fun b hb2 e => n3 b hb2 e.symm)) hk2 (fun b hb2 e => by subst e; exact I.ne hb2)
  · refine own_set (own_keeps I.h hk (fun b hb2 e => ?_)) _
    have : hb = b := by simpa [Value.ownBlock] using hb2
    subst this; exact n2 e.symm
  · refine hall.keeps hk2 (fun k v b hv hb2 e => ?_)
    subst e
    exact own_ne (hall.own k v hv) hc1 (by decide) hb2
theorem OwnAll.part {w : World} {B : Nat} {us vs : List Value} {ls ms : List (List Int)} (h : OwnAll w B (us ++ vs) (ls ++ ms)) (hl : ls.length = us.length) : OwnAll w B us ls ∧ OwnAll w B vs ms := by
  have hlen := h.len
  simp only [List.length_append] at hlen
  constructor
  · refine ⟨hl.symm, fun j u hu => ?_, fun j k x y b hx hy => ?_⟩
    · have hj := (List.getElem?_eq_some_iff.1 hu).1
      have := h.own j u (by rw [List.getElem?_append_left hj]; exact hu)
      have e : gl (ls ++ ms) j = gl ls j := by unfold gl; rw [List.getD_eq_getElem?_getD, List.getD_eq_getElem?_getD, List.getElem?_append_left (by omega)]
      rw [e] at this; exact this
    · have hj := (List.getElem?_eq_some_iff.1 hx).1
      have hk := (List.getElem?_eq_some_iff.1 hy).1
      exact h.apart j k x y b (by rw [List.getElem?_append_left hj]; exact hx) (by rw [List.getElem?_append_left hk]; exact hy)
  · have sh : ∀ j, (us ++ vs)[us.length + j]? = vs[j]? := fun j => by rw [List.getElem?_append_right (by omega), Nat.add_sub_cancel_left]
    refine ⟨by omega, fun j u hu => ?_, fun j k x y b hx hy hjk => ?_⟩
    · have := h.own (us.length + j) u (by rw [sh]; exact hu)
      have e : gl (ls ++ ms) (us.length + j) = gl ms j := by unfold gl; rw [List.getD_eq_getElem?_getD, List.getD_eq_getElem?_getD, List.getElem?_append_right (by omega), hl, Nat.add_sub_cancel_left]
      rw [e] at this; exact this
    · exact h.apart (us.length + j) (us.length + k) x y b (by rw [sh]; exact hx) (by rw [sh]; exact hy) (by omega)
theorem NewInv.graph {pb : Nat} {bc : Array Value} {B : Nat} {w : World} {gb hb a n : Nat} {ofs has : List (List Int)} {vo : Value} {os hs : List Value} (I : NewInv pb bc B w gb hb a ofs has vo os hs) (hn : ofs.length = n) (h1 : 1 ≤ n) (h2 : n ≤ 1048576) (ha : a ≤ 4613735)
    (ho : ∀ l ∈ ofs, l.length ≤ 1073741824) (hh : ∀ j, (gl has j).length ≤ 1073741824) : GraphAt w gb ofs has := by
  obtain ⟨p1, p2⟩ := I.all.part (by rw [I.la, I.lhs])
  have hlo := I.los
  have hlh := I.lhs
  have hla := I.la
  rcases I.o.2 with ⟨h3, h4⟩ | ⟨g, cap, cur, h3, h4⟩
  · have h5 := I.o.1
    rw [h4] at hlo; simp at hlo; omega
  · subst h3
    refine ⟨_, cap, some ⟨hb, 0, none⟩, a, ?_, p2.rows (g := g) (c := cap) (n := ofs.length) (base := B) (e := 76) (by rw [hlo]; exact I.o) (by omega), p1.rows (g := hb) (c := a) (n := a) (base := B) (e := 76) (by rw [hlh]; exact I.h) (by omega), by omega, by omega, ho, fun l hl => ?_⟩
    · rw [hla]; exact I.g
    · obtain ⟨j, hj, rfl⟩ := List.mem_iff_getElem.1 hl
      rw [← gl_eq has j hj]; exact hh j
set_option maxHeartbeats 800000 in
set_option maxRecDepth 20000 in
theorem onew_no (p : Par) (session : Nat) (w : World) (hm : ¬ p.may) (hs : session < 18446744073709551616) :
    Calls Try.prog 38 #[p.val, .int .u64 (session : Int)] w fun e w' => e = .returned (.tuple #[.pointer none, .int .i64 1]) ∧ Keeps NoB w w' := by
  have hu := Try.underlying23
  have hc := hid (show checkN p = 1 by unfold checkN; rw [mayB_false hm]; rfl)
  clear hm
  unfold Par.val
  go_enter Try.func38, Try.ntmps38
  go_wp2_with fail
  refine (check_calls p _).mono ?_
  rintro e w1 ⟨rfl, HK1⟩
  rw [hc.out]
  have HK1 := hid (((Keeps.refl NoB w).alloc _).fresh HK1)
  go_wp2_with fail
  go_ret2
  exact ⟨rfl, HK1.out⟩
set_option maxHeartbeats 4000000 in
set_option maxRecDepth 20000 in
theorem onew_core (p : Par) (session : Nat) (w : World) (hm : p.may) (hs : session < 18446744073709551616) :
    Calls Try.prog 38 #[p.val, .int .u64 (session : Int)] w fun e w' => ∃ g, e = .returned (.tuple #[.pointer (some ⟨g, 0, none⟩), .int .i64 0]) ∧ (∀ w1, Keeps (fun k => k < w.heap.size) w' w1 → GraphAt w1 g (ofsN p session p.n.toNat) (hasN p session p.n.toNat)) ∧ Keeps NoB w w' := by
  have hu := Try.underlying23
  have hc := hid (show checkN p = 0 by unfold checkN; rw [mayB_true hm]; rfl)
  have HM := hid hm
  have hab := auxN_bounds hm
  have hpn : 1 ≤ p.n ∧ p.n ≤ 1048576 := ⟨hm.1, hm.2.1⟩
  obtain ⟨a, ha⟩ : ∃ a : Nat, auxN p = (a : Int) := ⟨(auxN p).toNat, by omega⟩
  obtain ⟨n, hn⟩ : ∃ n : Nat, p.n = (n : Int) := ⟨p.n.toNat, by omega⟩
  have ha1 : 1 ≤ a := by omega
  have ha2 : a ≤ 4613735 := by omega
  have hn1 : 1 ≤ n := by omega
  have hn2 : n ≤ 1048576 := by omega
  have HA := hid ha
  have HN := hid hn
  clear hm hab hpn ha hn
  obtain ⟨i0, hi, hz0, hz1, hz2⟩ := info_parts info_ints
  have hus := Try.underlying72
  have hui := Try.underlying76
  unfold Par.val
  go_enter Try.func38, Try.ntmps38
  go_wp2_with fail
  refine (check_calls p _).mono ?_
  rintro e w1 ⟨rfl, HK1⟩
  rw [hc.out]
  have hbox := HK1.heap (heap_alloc_new w (.cells #[.int .i64 p.n, .int .i64 p.b, .int .i64 p.q, .int .i64 p.eps, .int .i64 p.f] 23)) (fun h => h)
  have HK1 := hid (((Keeps.refl NoB w).alloc _).fresh HK1)
  have b0 : w1.cell? ⟨w.heap.size, 0, none⟩ = some (.int .i64 p.n) := by simp [World.cell?, hbox]
  have b1 : w1.cell? ⟨w.heap.size, 1, none⟩ = some (.int .i64 p.b) := by simp [World.cell?, hbox]
  have b2 : w1.cell? ⟨w.heap.size, 2, none⟩ = some (.int .i64 p.q) := by simp [World.cell?, hbox]
  have b3 : w1.cell? ⟨w.heap.size, 3, none⟩ = some (.int .i64 p.eps) := by simp [World.cell?, hbox]
  have b4 : w1.cell? ⟨w.heap.size, 4, none⟩ = some (.int .i64 p.f) := by simp [World.cell?, hbox]
  have hbox := hid hbox
  go_wp2_with fail
  refine (aux_calls p _ HM.out).mono ?_
  rintro e w2 ⟨rfl, HK2⟩
  rw [HA.out]
  have hbox2 := hid (HK2.heap hbox.out (fun h => h))
  have b0 : w2.cell? ⟨w.heap.size, 0, none⟩ = some (.int .i64 (n : Int)) := by rw [← HN.out]; simp [World.cell?, hbox2.out]
  have HK2 := hid (HK1.out.fresh HK2)
  clear b1 b2 b3 b4 hbox HK1
  go_wp2_with (at_make; go_must (refine wpList_make_full _ rfl _ _ _ rfl w.heap.size 76 i0 (.slice none 0 0) 1 hus hi hz0 hz1 .i64 .i64 _ _ a rfl rfl rfl rfl (by rw [hz2]; omega) (by unfold maxLen; omega) HK2.out.size ?_); intro w3 hown3 hgr3; have b0' : w3.cell? ⟨w.heap.size, 0, none⟩ = some (.int .i64 (n : Int)) := (Keeps.ofGrown hgr3).cell b0 (fun e => by cases e); have hsz3 : w.heap.size < w3.heap.size := World.block_lt_of_cell? w3 _ b0')
  have hHB := hid (show w.heap.size ≤ w2.heap.size from HK2.out.size)
  have I0 := hid (show NewInv w.heap.size #[.int .i64 p.n, .int .i64 p.b, .int .i64 p.q, .int .i64 p.eps, .int .i64 p.f] w.heap.size (w3.alloc (.cells #[.slice none 0 0, .slice (some ⟨w2.heap.size, 0, none⟩) a a] 123)) w3.heap.size w2.heap.size a (ofsN p session 0) (hasN p session 0) (.slice none 0 0) [] (List.replicate a (.slice none 0 0)) by
    have e0 : (madeCells (Value.slice none 0 0).cells (a * 1)).toList = List.replicate a (Value.slice none 0 0) := by
      rw [Nat.mul_one]
      apply List.ext_getElem
      · simp [madeCells]
      · intro i h1 h2; simp [madeCells, Value.cells, Nat.mod_one]
    rw [e0] at hown3
    have hlt3 : w2.heap.size < w3.heap.size := by
      obtain ⟨c, hc⟩ := own_block hown3 w2.heap.size rfl
      exact lt_of_heap hc
    refine ⟨((Keeps.refl NoB w3).alloc _).heap ((Keeps.ofGrown hgr3).heap hbox2.out (fun e => by cases e)) (fun h => h), heap_alloc_new w3 _, by omega, hHB.out, World.ownsRow_nil _ _ _ _, World.ownsRow.alloc hown3 _, by simp [Value.ownBlock], ?_, ?_⟩
    · have := OwnAll.nils (w3.alloc (.cells #[.slice none 0 0, .slice (some ⟨w2.heap.size, 0, none⟩) a a] 123)) w.heap.size a
      have e1 : hasN p session 0 = List.replicate a [] := by show List.replicate (auxN p).toNat [] = _; rw [HA.out]; rfl
      rw [e1, show ofsN p session 0 = [] from rfl, List.append_nil, List.append_nil]
      exact this
    · rw [hasN_length, HA.out]; rfl)
  have HK3 := hid ((HK2.out.grown hgr3 (fun i e => by cases e)).alloc (.cells #[.slice none 0 0, .slice (some ⟨w2.heap.size, 0, none⟩) a a] 123))
  clear hown3 hgr3 b0 b0' hbox2
  generalize w3.heap.size = gb at *
  generalize w2.heap.size = hb at *
  go_loopw [26] (fun v26 wr => ∃ (k : Nat) (vo : Value) (os hs : List Value), k ≤ n ∧ v26 = .int .i64 k ∧ Hid (NewInv w.heap.size #[.int .i64 p.n, .int .i64 p.b, .int .i64 p.q, .int .i64 p.eps, .int .i64 p.f] w.heap.size wr gb hb a (ofsN p session k) (hasN p session k) vo os hs) ∧ Hid (Keeps NoB w wr)) (fun v26 _ => n - (intOf v26).toNat)
  case atStart => exact ⟨0, _, _, _, Nat.zero_le _, rfl, I0.out, HK3.out⟩
  case round =>
    obtain ⟨k, vo, os, hs, hk, rfl, HI, HK⟩ := hrel
    by_cases hlt : k < n
    · have c2 : wr.cell? ⟨w.heap.size, 2, none⟩ = some (.int .i64 p.q) := by simp [World.cell?, HI.out.bx]
      have hx5 := hid (show ∀ x ∈ [session, 1, k], x < 18446744073709551616 by simp; omega)
      have hwk : IntKind.u64.wrap (k : Int) = (k : Int) := by rw [IntKind.wrap_u64]; omega
      go_wp2_with fail
      go_region_held3 (fun w' => w'.cell? ⟨w.heap.size, 2, none⟩ = some (.int .i64 p.q)) (first | go_keep | (exact HKx.out.cell c2 (fun h => h))) (first
        | (go_at_call 64; refine (new_calls [session, 1, k] _ 3 _ (by exact NatsAt.ofBlock [session, 1, k] (heap_alloc_new wr _) (by simp) hx5.out)).mono ?_; rintro e w5 ⟨g5, rfl, hg5, hr5, HK5⟩; have HKx := hid (((Keeps.refl NoB wr).alloc (.cells #[.int .u64 (session : Int), .int .u64 1, .int .u64 (k : Int)] 24)).drew.fresh HK5))
        | (go_at_call 63; refine (some_calls g5 _ a p.q _ hr5 (by omega) (by omega) (by have := HM.out.2.2.2.2.1; omega) (by have := HM.out.2.2.2.2.2.1; omega)).mono ?_; rintro e w6 ⟨v6, rfl, hown6, hr6, HK6⟩; have HKx := hid (HKx.out.then HK6 (fun i (e : i = g5) hi => by simp at hg5; omega))))
      clear hwk c2
      have I6 := hid (HI.out.kept HKx.out)
      have HK6 := hid (HK.out.fresh HKx.out)
      have hof := hid (show someN (seedN [session, 1, k]) (a : Int) p.q = ofN p session k by unfold ofN; rw [HA.out])
      rw [hof.out] at hown6
      have hl8 := ofN_length p session k HM.out
      have hin := hid (ofN_in p session k HM.out)
      have hfresh := hid (show ∀ (j : Nat) (u : Value) (b : Nat), (hs ++ os)[j]? = some u → u.ownBlock = some b → v6.ownBlock ≠ some b by
        intro j u b hu hb2 hb3
        have h1 := (HI.out.all.lt j u b hu hb2).2
        have h2 := (hown6.base_le b hb3).1
        have h3 := HK5.size
        simp at h3
        omega)
      have hown6 := hid (OwnInts.lower (base' := w.heap.size) hown6 (by have h3 := HK5.size; have h4 := HK.out.size; simp at h3; omega))
      have hofs := hid (ofsN_succ p session k)
      have hhas := hid (show hasN p session (k + 1) = putAll (hasN p session k) k (ofN p session k) from rfl)
      have hbd := hid (putAll_bound (k : Int) (ofN p session k) (hasN p session k) (8 * k) (hasN_bound p session HM.out k))
      have hbd0 := hid (hasN_bound p session HM.out k)
      have hol := hid (ofsN_length p session k)
      clear HKx hr6 HK5 hr5 hg5 hof
      generalize ofN p session k = l at *
      generalize hasN p session k = has at *
      obtain ⟨A6, c6, rfl, hc6, hat6⟩ := hown6.out.reads
      clear hat6 hc6
      have hosl := hid (show os.length = k by rw [I6.out.los, hol.out])
      have ho1 := hid (own_keeps (World.ownsRow.alloc I6.out.o (.cells #[.slice A6 l.length c6] 76)) (Keeps.refl NoB _) (fun _ _ h => h))
      have cg0 : w6.cell? ⟨gb, 0, none⟩ = some vo := by simp [World.cell?, I6.out.g]
      have hsz6 := HK6.out.size
      go_wp2_with (at_builtin; go_must (refine wpList_app1V _ rfl _ _ 72 rfl w.heap.size 76 (.slice none 0 0) 24 hus info_ints rfl _ _ _ rfl ho1.out _ _ _ rfl rfl (cell_one _ _ _) (by rw [hol.out]; omega) (by rw [hol.out]; omega) (by simp; omega) ?_); intro g7 cap7 w7 hown7 hgr7 hat7; have hk7 := hid ((((Keeps.refl NoB w6).alloc (.cells #[.slice A6 l.length c6] 76)).trans (Keeps.ofGrown hgr7) (fun _ _ h => h.elim) (fun _ _ h => h) : Keeps (fun q => some q = vo.ownBlock) w6 w7)); have hg7 := hid (hk7.out.heap I6.out.g (fun e => I6.out.g_ne.2 e.symm)); have cg7 : w7.cell? ⟨gb, 0, none⟩ = some vo := (by simp [World.cell?, hg7.out]); have fg7 : w7.frozen? ⟨gb, 0, none⟩ = false := (by simp [World.frozen?, hg7.out]))
      have I7 := hid (I6.out.snoc hown6.out (fun j u b hu hb2 => hfresh.out j u b hu hb2) (by rw [hol.out]; rw [hol.out] at hown7; exact hown7) hgr7 (by rcases hat7 with h | h; exact .inl h; exact .inr (by rw [h]; simp)))
      have HK8 := hid ((HK6.out.then hk7.out (fun q e hq => absurd (World.ownsRow.lt I6.out.o q e.symm).1 (Nat.not_le.2 hq))).setCell (p := ⟨gb, 0, none⟩) (fun hq => absurd I6.out.gB (Nat.not_le.2 hq)) (.slice (some ⟨g7, 0, none⟩) ((ofsN p session k).length + 1) cap7))
      clear hown7 hgr7 hat7 ho1 hg7 cg0 cg7 fg7 hk7 I6 hown6 hfresh HI HK6 HK
      generalize w7.setCell ⟨gb, 0, none⟩ (.slice (some ⟨g7, 0, none⟩) ((ofsN p session k).length + 1) cap7) = w8 at *
      rw [← hofs.out] at I7
      have hok := hid (show (os ++ [Value.slice A6 l.length c6])[k]? = some (.slice A6 l.length c6) by
        have := hosl.out
        rw [← this]; simp)
      go_loopw [50] (fun v50 wi => ∃ (m : Nat) (vo' : Value) (os' hs' : List Value), m ≤ l.length ∧ v50 = .int .i64 m ∧ Hid (NewInv w.heap.size #[.int .i64 p.n, .int .i64 p.b, .int .i64 p.q, .int .i64 p.eps, .int .i64 p.f] w.heap.size wi gb hb a (ofsN p session (k + 1)) (putAll has k (l.take m)) vo' os' hs') ∧ Hid (os'[k]? = some (.slice A6 l.length c6)) ∧ Hid (Keeps NoB w wi)) (fun v50 _ => l.length - (intOf v50).toNat)
      case atStart => exact ⟨0, _, _, _, Nat.zero_le _, rfl, I7.out, hid hok.out, HK8.out⟩
      case round =>
        obtain ⟨m, vo', os', hs', hm', rfl, HI, HO, HK⟩ := hrel
        by_cases hlt2 : m < l.length
        · have hrow := hid (show OwnInts wr w.heap.size .i64 3 (.slice A6 l.length c6) l by
            have h1 := HI.out.all.own (hs'.length + k) (.slice A6 l.length c6) (by rw [List.getElem?_append_right (by omega)]; rw [Nat.add_sub_cancel_left]; exact HO.out)
            have h2 : gl (putAll has k (l.take m) ++ ofsN p session (k + 1)) (hs'.length + k) = l := by
              unfold gl
              rw [List.getD_eq_getElem?_getD, List.getElem?_append_right (by rw [HI.out.la, HI.out.lhs]; omega), HI.out.la, HI.out.lhs, Nat.add_sub_cancel_left, hofs.out]
              simp [hol.out]
            rw [h2] at h1; exact h1)
          obtain ⟨A6', c6', e6, _, hat⟩ := hrow.out.reads
          obtain ⟨rfl, rfl⟩ : A6 = A6' ∧ c6 = c6' := by injection e6 with h1 _ h2; exact ⟨h1, h2⟩
          obtain ⟨b6, o6, rfl, hc6⟩ := hat.get (by omega)
          have hjm := hin.out (gi l m) (gi_mem l m hlt2)
          obtain ⟨j, hj⟩ : ∃ j : Nat, gi l m = (j : Int) := ⟨(gi l m).toNat, by omega⟩
          have cj : wr.cell? ⟨b6, o6 + m, none⟩ = some (.int .i64 (j : Int)) := by rw [← hj]; exact hc6 m hlt2
          have hja : j < a := by have := hjm.2; rw [HA.out] at this; omega
          have hjs : j < hs'.length := by rw [HI.out.lhs]; exact hja
          obtain ⟨u, hu⟩ : ∃ u, hs'[j]? = some u := ⟨hs'[j], List.getElem?_eq_getElem hjs⟩
          have hown := HI.out.all.own j u (by rw [List.getElem?_append_left hjs]; exact hu)
          have hgl : gl (putAll has k (l.take m) ++ ofsN p session (k + 1)) j = gl (putAll has k (l.take m)) j := by
            unfold gl
            rw [List.getD_eq_getElem?_getD, List.getD_eq_getElem?_getD, List.getElem?_append_left (by rw [HI.out.la]; exact hja)]
          rw [hgl] at hown
          have hown := hid hown
          have hbl := putAll_bound (k : Int) (l.take m) has (8 * k) hbd0.out j
          have hbl2 : (l.take m).length ≤ m := by rw [List.length_take]; omega
          have hnext := hid (show putAll has k (l.take (m + 1)) = (putAll has k (l.take m)).set j (gl (putAll has k (l.take m)) j ++ [(k : Int)]) by
            rw [List.take_succ_eq_append_getElem hlt2, putAll_snoc, ← gi_eq l m hlt2, hj]; rfl)
          have hu := hid hu
          have hj := hid hj
          obtain ⟨A1, c1, rfl, _⟩ := hown.out.reads
          have cg : wr.cell? ⟨gb, 1, none⟩ = some (.slice (some ⟨hb, 0, none⟩) a a) := by simp [World.cell?, HI.out.g]
          have ch : wr.cell? ⟨hb, j, none⟩ = some (.slice A1 (gl (putAll has k (l.take m)) j).length c1) := own_cell HI.out.h hu.out
          have fh : wr.frozen? ⟨hb, j, none⟩ = false := own_free HI.out.h j
          have hj0 : (0 : Int) ≤ (j : Int) := by omega
          have hj1 : (j : Int) < (a : Int) := by omega
          clear hgl hjs hat hc6 hjm
          generalize gl (putAll has k (l.take m)) j = lj at *
          have hne := hid (HI.out.row_ne j _ (by rw [List.getElem?_append_left (by rw [HI.out.lhs]; exact hja)]; exact hu.out))
          go_wp2_with fail
          have hka := hid ((Keeps.refl NoB wr).alloc (.cells #[.int .i64 (k : Int)] 3))
          have ka1 := hka.out.cell cg (fun h => h)
          have ka2 := hka.out.cell ch (fun h => h)
          go_region_law ((refine step_app1 rfl _ _ 76 rfl w.heap.size 3 .i64 8 hui info_int (.slice A1 lj.length c1) lj rfl (OwnInts.alloc hown.out _) _ _ _ rfl (cell_one wr _ _) (by omega) (by omega) (by have := HK.out.size; simp; omega) ?_; intro g9 cap9 w9 hown9 hgr9 hat9; have hk9 := hid (((Keeps.refl NoB wr).alloc (.cells #[.int .i64 (k : Int)] 3)).drew.trans (Keeps.ofGrown hgr9) (fun _ _ h => h.elim) (fun _ _ h => h) : Keeps (fun q => some q = (Value.slice A1 lj.length c1).ownBlock) wr w9); obtain ⟨s1, s2, s3⟩ := (show w9.cell? ⟨gb, 1, none⟩ = some (.slice (some ⟨hb, 0, none⟩) a a) ∧ w9.cell? ⟨hb, j, none⟩ = some (.slice A1 lj.length c1) ∧ w9.frozen? ⟨hb, j, none⟩ = false from ⟨hk9.out.cell cg (fun e => hne.out.1 e.symm), hk9.out.cell ch (fun e => hne.out.2.1 e.symm), own_free (own_keeps HI.out.h hk9.out (fun b hb2 e => hne.out.2.1 (e.symm.trans (hb2.symm.trans rfl)))) j⟩)))
          all_goals (go_wp2_with fail; go_roundw)
          all_goals first
            | (case measure => simp [intOf]; omega)
            | (case rel =>
                have I9 := hid (HI.out.put hu.out (hka.out.drew) hgr9 hown9 (by rcases hat9 with h | h; exact .inl h; exact .inr (by rw [h]; simp)))
                exact ⟨m + 1, _, os', _, by omega, by go_num, hid (by rw [hnext.out]; exact I9.out), hid HO.out, hid ((HK.out.then hk9.out (fun q e hq => absurd (hown.out.base_le q e.symm).1 (Nat.not_le.2 hq))).setCell (p := ⟨hb, j, none⟩) (fun hq => absurd HI.out.hB (Nat.not_le.2 hq)) _)⟩)
            | go_outline
        · obtain rfl : m = l.length := by omega
          have hta := hid (show putAll has k (l.take l.length) = hasN p session (k + 1) by rw [List.take_length, hhas.out])
          rw [hta.out] at HI
          go_wp2_with fail
          go_roundw
          case rel => exact ⟨k + 1, _, _, _, by omega, by go_num, hid HI.out, hid HK.out⟩
          case measure => simp [intOf]; omega
    · obtain rfl : k = n := by omega
      go_wp2_with fail
      go_ret2
      refine ⟨gb, rfl, fun w1 hk1 => ?_, HK.out⟩
      have e1 : p.n.toNat = k := by rw [HN.out]; simp
      rw [e1]
      exact (HI.out.below (Nat.le_refl _) hk1).graph (ofsN_length p session k) hn1 hn2 ha2 (fun l hl => by obtain ⟨i, _, rfl⟩ := List.mem_map.1 hl; have := ofN_length p session i HM.out; omega) (fun j => by have := hasN_bound p session HM.out k j; omega)
theorem onew_yes (p : Par) (session : Nat) (w : World) (hm : p.may) (hs : session < 18446744073709551616) :
    Calls Try.prog 38 #[p.val, .int .u64 (session : Int)] w fun e w' => ∃ g, e = .returned (.tuple #[.pointer (some ⟨g, 0, none⟩), .int .i64 0]) ∧ GraphAt w' g (ofsN p session p.n.toNat) (hasN p session p.n.toNat) ∧ Keeps NoB w w' := by
  refine (onew_core p session w hm hs).mono ?_
  rintro e w' ⟨g, h1, h2, h3⟩
  exact ⟨g, h1, h2 w' (Keeps.refl _ w'), h3⟩
end Go.Proofs.Ytnnkfopopanfjaa
