/- Lists of equations of the call's own. No condition. -/
import Derived.Test.YtnnkfopopanfjaaEqAdd
import Derived.Test.YtnnkfopopanfjaaG1
set_option linter.unusedVariables false
namespace Go.Proofs.Ytnnkfopopanfjaa
open Go.RowKit

theorem Keeps.sizeN {w w' : World} (h : Keeps NoB w w') : w.heap.size ≤ w'.heap.size := h.size
theorem EqsIn.kept {R : Nat → Prop} {w w1 : World} {A : Option Addr} {es : List EqV} (h : EqsIn R w A es) (hk : Keeps NoB w w1) : EqsIn R w1 A es := h.keeps hk (fun _ _ h => h)
/-- The two cells of an equation. -/
def PairIn (R : Nat → Prop) (w : World) (u1 u2 : Value) (e : EqV) : Prop := NumsIn R w u1 e.of ∧ RowIn R w u2 e.val
theorem PairIn.keeps {R S : Nat → Prop} {w w1 : World} {u1 u2 : Value} {e : EqV} (h : PairIn R w u1 u2 e) (hk : Keeps S w w1) (hn : ∀ b, R b → ¬ S b) : PairIn R w1 u1 u2 e := ⟨h.1.keeps hk hn, h.2.keeps hk hn⟩
theorem PairIn.kept {R : Nat → Prop} {w w1 : World} {u1 u2 : Value} {e : EqV} (h : PairIn R w u1 u2 e) (hk : Keeps NoB w w1) : PairIn R w1 u1 u2 e := h.keeps hk (fun _ _ h => h)
theorem PairIn.mono {R R' : Nat → Prop} {w : World} {u1 u2 : Value} {e : EqV} (h : PairIn R w u1 u2 e) (hr : ∀ b, b < w.heap.size → R b → R' b) : PairIn R' w u1 u2 e := ⟨h.1.mono hr, h.2.mono hr⟩
theorem PairIn.ones {R : Nat → Prop} {w : World} {u1 u2 : Value} {e : EqV} (h : PairIn R w u1 u2 e) : u1.oneCell' = true ∧ u2.oneCell' = true := by
  obtain ⟨⟨_, _, rfl, _⟩, ⟨_, _, rfl, _⟩⟩ := h
  exact ⟨rfl, rfl⟩
/-- Cells, two for each equation. -/
def PairsIn (R : Nat → Prop) (w : World) (us : List Value) (es : List EqV) : Prop := us.length = es.length * 2 ∧ ∀ j, j < es.length → ∃ u1 u2, us[j * 2]? = some u1 ∧ us[j * 2 + 1]? = some u2 ∧ PairIn R w u1 u2 (ge es j)
theorem PairsIn.keeps {R S : Nat → Prop} {w w1 : World} {us : List Value} {es : List EqV} (h : PairsIn R w us es) (hk : Keeps S w w1) (hn : ∀ b, R b → ¬ S b) : PairsIn R w1 us es := ⟨h.1, fun j hj => by
  obtain ⟨u1, u2, h1, h2, h3⟩ := h.2 j hj
  exact ⟨u1, u2, h1, h2, h3.keeps hk hn⟩⟩
theorem PairsIn.mono {R R' : Nat → Prop} {w : World} {us : List Value} {es : List EqV} (h : PairsIn R w us es) (hr : ∀ b, b < w.heap.size → R b → R' b) : PairsIn R' w us es := ⟨h.1, fun j hj => by
  obtain ⟨u1, u2, h1, h2, h3⟩ := h.2 j hj
  exact ⟨u1, u2, h1, h2, h3.mono hr⟩⟩
theorem ge_append_left (es fs : List EqV) (j : Nat) (h : j < es.length) : ge (es ++ fs) j = ge es j := by unfold ge; rw [List.getD_eq_getElem?_getD, List.getD_eq_getElem?_getD, List.getElem?_append_left h]
theorem ge_append_right (es fs : List EqV) (j : Nat) (h : es.length ≤ j) : ge (es ++ fs) j = ge fs (j - es.length) := by unfold ge; rw [List.getD_eq_getElem?_getD, List.getD_eq_getElem?_getD, List.getElem?_append_right h]
theorem PairsIn.append {R : Nat → Prop} {w : World} {us vs : List Value} {es fs : List EqV} (h : PairsIn R w us es) (k : PairsIn R w vs fs) : PairsIn R w (us ++ vs) (es ++ fs) := by
  refine ⟨by rw [List.length_append, List.length_append, h.1, k.1]; omega, fun j hj => ?_⟩
  rw [List.length_append] at hj
  rcases Nat.lt_or_ge j es.length with h1 | h1
  · obtain ⟨u1, u2, e1, e2, e3⟩ := h.2 j h1
    refine ⟨u1, u2, ?_, ?_, by rw [ge_append_left es fs j h1]; exact e3⟩
    · rw [List.getElem?_append_left (by rw [h.1]; omega)]; exact e1
    · rw [List.getElem?_append_left (by rw [h.1]; omega)]; exact e2
  · obtain ⟨u1, u2, e1, e2, e3⟩ := k.2 (j - es.length) (by omega)
    refine ⟨u1, u2, ?_, ?_, by rw [ge_append_right es fs j h1]; exact e3⟩
    · rw [List.getElem?_append_right (by rw [h.1]; omega), h.1, show j * 2 - es.length * 2 = (j - es.length) * 2 by omega]; exact e1
    · rw [List.getElem?_append_right (by rw [h.1]; omega), h.1, show j * 2 + 1 - es.length * 2 = (j - es.length) * 2 + 1 by omega]; exact e2
theorem PairsIn.one {R : Nat → Prop} {w : World} {u1 u2 : Value} {e : EqV} (h : PairIn R w u1 u2 e) : PairsIn R w [u1, u2] [e] := ⟨rfl, fun j hj => by
  obtain rfl : j = 0 := by simpa using hj
  exact ⟨u1, u2, rfl, rfl, h⟩⟩
/-- The cells of equations that are read. -/
theorem EqsIn.cells {R : Nat → Prop} {w : World} {b off : Nat} {es : List EqV} (h : EqsIn R w (some ⟨b, off, none⟩) es) : ∃ us, PairsIn R w us es ∧ (∀ (j : Nat) (u : Value), us[j]? = some u → w.cell? ⟨b, off + j, none⟩ = some u) ∧ ∀ u ∈ us, u.oneCell' = true := by
  rcases Nat.eq_zero_or_pos es.length with h0 | h0
  · obtain rfl : es = [] := List.length_eq_zero_iff.1 h0
    exact ⟨[], ⟨rfl, fun j hj => by simp at hj⟩, fun j u hj => by simp at hj, fun u hu => by simp at hu⟩
  · obtain ⟨b', off', e, _, hc⟩ := h.2 h0
    injection e with e; injection e with e1 e2 _
    subst e1 e2
    have key : ∀ i, i < es.length * 2 → ∃ u, w.cell? ⟨b, off + i, none⟩ = some u ∧ u.oneCell' = true := by
      intro i hi
      obtain ⟨u1, u2, h1, h2, h3, h4⟩ := hc (i / 2) (by omega)
      have ho := PairIn.ones ⟨h3, h4⟩
      rcases Nat.mod_two_eq_zero_or_one i with hm | hm
      · exact ⟨u1, by rw [show off + i = off + i / 2 * 2 by omega]; exact h1, ho.1⟩
      · exact ⟨u2, by rw [show off + i = off + i / 2 * 2 + 1 by omega]; exact h2, ho.2⟩
    refine ⟨(List.range (es.length * 2)).map fun i => (w.cell? ⟨b, off + i, none⟩).getD undef, ⟨by simp, fun j hj => ?_⟩, fun j u hj => ?_, fun u hu => ?_⟩
    · obtain ⟨u1, u2, h1, h2, h3, h4⟩ := hc j hj
      refine ⟨u1, u2, ?_, ?_, h3, h4⟩
      · rw [List.getElem?_map, List.getElem?_range (by omega)]; simp [h1]
      · rw [List.getElem?_map, List.getElem?_range (by omega)]; simp only [Option.map_some, ← Nat.add_assoc, h2, Option.getD_some]
    · rw [List.getElem?_map] at hj
      obtain ⟨i, hi, rfl⟩ := Option.map_eq_some_iff.1 hj
      obtain ⟨hlt, rfl⟩ := List.getElem?_eq_some_iff.1 hi
      simp only [List.length_range] at hlt
      simp only [List.getElem_range]
      obtain ⟨u, hu, _⟩ := key j hlt
      rw [hu]; rfl
    · obtain ⟨i, hi, rfl⟩ := List.mem_map.1 hu
      obtain ⟨u, hu, ho⟩ := key i (List.mem_range.1 hi)
      rw [hu]; exact ho
/-- Equations that are read at an address, wherever that lies. -/
def CellsE (R : Nat → Prop) (w : World) (A : Option Addr) (es : List EqV) : Prop := es = [] ∨ ∃ b off us, A = some ⟨b, off, none⟩ ∧ PairsIn R w us es ∧ (∀ (j : Nat) (u : Value), us[j]? = some u → w.cell? ⟨b, off + j, none⟩ = some u) ∧ ∀ u ∈ us, u.oneCell' = true
theorem EqsIn.cellsE {R : Nat → Prop} {w : World} {A : Option Addr} {es : List EqV} (h : EqsIn R w A es) : CellsE R w A es := by
  rcases Nat.eq_zero_or_pos es.length with h0 | h0
  · exact .inl (List.length_eq_zero_iff.1 h0)
  · obtain ⟨b, off, e, _, _⟩ := h.2 h0
    subst e
    obtain ⟨us, h1, h2, h3⟩ := h.cells
    exact .inr ⟨b, off, us, rfl, h1, h2, h3⟩
theorem CellsE.one {R : Nat → Prop} {w : World} {u1 u2 : Value} {e : EqV} {T : TypeId} (h : PairIn R w u1 u2 e) : CellsE R (w.alloc (.cells #[u1, u2] T)) (some ⟨w.heap.size, 0, none⟩) [e] := by
  have hb := box_two w u1 u2 T
  refine .inr ⟨w.heap.size, 0, [u1, u2], rfl, PairsIn.one (h.keeps ((Keeps.refl NoB w).alloc _) (fun _ _ h => h)), fun j u hj => ?_, fun u hu => ?_⟩
  · match j, hj with
    | 0, hj => simp at hj; subst hj; exact hb.1
    | 1, hj => simp at hj; subst hj; exact hb.2
  · rcases List.mem_cons.1 hu with e1 | hu
    · rw [e1]; exact h.ones.1
    · rw [List.mem_singleton.1 hu]; exact h.ones.2
theorem CellsE.keeps {R S : Nat → Prop} {w w1 : World} {b off : Nat} {es : List EqV} (h : CellsE R w (some ⟨b, off, none⟩) es) (hk : Keeps S w w1) (hn : ∀ b, R b → ¬ S b) (hb : ¬ S b) : CellsE R w1 (some ⟨b, off, none⟩) es := by
  rcases h with h | ⟨b', off', us, e, h1, h2, h3⟩
  · exact .inl h
  · injection e with e; injection e with e1 e2 _
    subst e1 e2
    exact .inr ⟨b, off, us, rfl, h1.keeps hk hn, fun j u hj => hk.cell (h2 j u hj) hb, h3⟩
theorem CellsE.oneAt {R : Nat → Prop} {w : World} {n : Nat} {u1 u2 : Value} {e : EqV} {T : TypeId} (hn : w.heap.size = n) (h : PairIn R w u1 u2 e) : CellsE R (w.alloc (.cells #[u1, u2] T)) (some ⟨n, 0, none⟩) [e] := by
  subst hn; exact CellsE.one h
theorem CellsE.kept {R : Nat → Prop} {w w1 : World} {b off : Nat} {es : List EqV} (h : CellsE R w (some ⟨b, off, none⟩) es) (hk : Keeps NoB w w1) : CellsE R w1 (some ⟨b, off, none⟩) es := h.keeps hk (fun _ _ h => h) (fun h => h)
theorem wp_append_at {P : Program} {w : World} {o : Oper} {a : Act} {K : Act → World → Prop} {Q : Exit → Act → World → Prop} (s x : Operand) (t : TypeId)
    (ho : o.op = .call { callee := .builtin .append, args := #[s, x], argTypes := #[t, t] })
    (base : Nat) (e : TypeId) (i : TypeInfo) (z : Value) (size bytes : Nat) (ht : P.underlying t = some (.slice e)) (hi : P.info? e = some i) (hz : i.zero = some z)
    (hsize : i.size = size) (hby : i.bytes = bytes) (hzs : z.cells.size = size) (hsz : 0 < size)
    (v : Value) (n : Nat) (xs : List Value) (hs : a.eval s = v) (hown : w.ownsRow base e size v n xs)
    (ad : Addr) (m c : Nat) (news : List Value) (hx : a.eval x = .slice (some ad) m c) (hl : news.length = m * size) (hnews : ∀ j u, news[j]? = some u → w.cell? (ad.add j) = some u) (h1 : ∀ u ∈ news, u.oneCell' = true)
    (h63 : n + m ≤ maxLen) (hbytes : (n + m) * bytes ≤ 140737488355328) (hbase : base ≤ w.heap.size)
    (h : ∀ v' w', w'.ownsRow base e size v' (n + m) (xs ++ news) → w.grownBy w' v.ownBlock → (v'.ownBlock = v.ownBlock ∨ v'.ownBlock = some w.heap.size) → K (a.put o.dst v') w') : o.wp P a w K Q := by
  obtain ⟨v', w', hr, h2, h3, _, h5⟩ := run_append_own_at (P := P) w base t o.type e i z size bytes ht hi hz hsize hby hzs hsz v n xs hown ad m c news hl hnews h1 h63 hbytes hbase
  unfold Oper.wp execOp
  simp only [ho, resolve, invoke, builtin, Sem.run_bind, Sem.run_pure, Result.andThen_ok, List.map_toArray, List.map_cons, List.map_nil, hs, hx, hr]
  exact h v' w' h2 h3 h5
/-- A block that lies by stays, and is none of the list's. -/
theorem zstep {W w' : World} {n : Nat} {o : Obj} {v v' : Value} (h : W.heap[n]? = some o) (hgr : W.grownBy w' v.ownBlock) (hne : ¬ some n = v.ownBlock) (hat : v'.ownBlock = v.ownBlock ∨ v'.ownBlock = some W.heap.size) : w'.heap[n]? = some o ∧ ¬ some n = v'.ownBlock := by
  refine ⟨(Keeps.ofGrown hgr).heap h hne, fun e => ?_⟩
  rcases hat with h1 | h1
  · exact hne (by rw [← h1]; exact e)
  · have h2 := lt_of_heap h
    have e2 := e.trans h1
    injection e2 with e2
    omega
theorem zuse {G : Prop} {W w' : World} {n : Nat} {o : Obj} {v v' : Value} (hgr : W.grownBy w' v.ownBlock) (hat : v'.ownBlock = v.ownBlock ∨ v'.ownBlock = some W.heap.size) (h : W.heap[n]? = some o) (hne : ¬ some n = v.ownBlock) (k : Hid (w'.heap[n]? = some o ∧ ¬ some n = v'.ownBlock) → G) : G := k (hid (zstep h hgr hne hat))
theorem zkeep {G : Prop} {W w' : World} {n : Nat} {o : Obj} (hk : Keeps NoB W w') (h : W.heap[n]? = some o) (k : Hid (w'.heap[n]? = some o) → G) : G := k (hid (hk.heap h (fun h => h)))
theorem free2 {w : World} {b : Nat} {cells : Array Value} {T : TypeId} (h : w.heap[b]? = some (.cells cells T (0, 0))) (j : Nat) : w.frozen? ⟨b, j, none⟩ = false := by simp [World.frozen?, h]
theorem size_two (w : World) (o p : Obj) : ((w.alloc o).alloc p).heap.size = w.heap.size + 2 := by simp
theorem IntsAt.setBox {w : World} {k : IntKind} {A : Option Addr} {xs : List Int} {b : Nat} {A0 A1 : Option Addr} {n0 c0 n1 c1 : Nat} {T : TypeId} {fr : Nat × Nat} (h : IntsAt w k A xs) (hb : w.heap[b]? = some (.cells #[.slice A0 n0 c0, .slice A1 n1 c1] T fr)) (x y : Value) : IntsAt ((w.setCell ⟨b, 0, none⟩ x).setCell ⟨b, 1, none⟩ y) k A xs := by
  refine h.keeps (((Keeps.refl (fun q => q = b) w).setCell (p := ⟨b, 0, none⟩) (fun _ => rfl) x).setCell (p := ⟨b, 1, none⟩) (fun _ => rfl) y) (fun b' off e h0 e1 => ?_)
  subst e1
  obtain ⟨b2, off2, e2, hc⟩ := h.get h0
  rw [e] at e2
  injection e2 with e2; injection e2 with e3 e4 _
  subst e3 e4
  have := hc 0 h0
  simp only [World.cell?, hb] at this
  match off, this with
  | 0, this => simp at this
  | 1, this => simp at this
  | n + 2, this => simp at this
theorem heapAt {w : World} {n : Nat} (hn : w.heap.size = n) (o : Obj) : (w.alloc o).heap[n]? = some o := by subst hn; exact heap_alloc_new w o
theorem heap_kept {w w1 : World} {n : Nat} {o : Obj} (h : w.heap[n]? = some o) (hk : Keeps NoB w w1) : w1.heap[n]? = some o := hk.heap h (fun h => h)
theorem OwnInts.nums {w : World} {base : Nat} {e : TypeId} {v : Value} {xs : List Int} (h : OwnInts w base .i64 e v xs) : NumsIn (fun b => v.ownBlock = some b) w v xs := by
  rcases h.2 with ⟨rfl, h0⟩ | ⟨g, cap, cur, rfl, hb, hg, h1, h2, h3, h4⟩
  · have hl : xs = [] := List.length_eq_zero_iff.1 h0
    subst hl
    exact ⟨none, 0, rfl, Nat.le_refl _, fun _ => rfl, ⟨by simp, fun h => by simp at h⟩, fun b off e => by cases e⟩
  · obtain ⟨A, c, e', hc, hat⟩ := OwnInts.reads h
    injection e' with e1 e2 e3
    subst e1 e3
    exact ⟨_, cap, rfl, hc, (fun e => by cases e), hat, fun b off e h0 => by injection e with e; injection e with e _; subst e; rfl⟩
theorem ge_last (es : List EqV) (e : EqV) (k : Nat) (h : es.length = k) : ge (es ++ [e]) k = e := by
  rw [ge_append_right es [e] k (by omega), h, Nat.sub_self]; rfl
end Go.Proofs.Ytnnkfopopanfjaa
