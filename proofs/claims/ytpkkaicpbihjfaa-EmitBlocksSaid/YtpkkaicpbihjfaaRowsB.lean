/- Lists of lists of bytes, of the call's own; bytes in words; copies. No condition. -/
import Derived.Test.YtpkkaicpbihjfaaBlock
import Derived.Laws.CopyOwn
import Derived.Lib.SlBytesRow
import Derived.Lib.BufferRead
set_option linter.unusedVariables false
namespace Go.Proofs.Ytpkkaicpbihjfaa
open Go.RowKit

theorem info_bytes : (Try.prog.info? 25).map (fun i => (i.zero, i.size, i.bytes)) = some (some (.slice none 0 0), 1, 24) := by kernel_rfl
/-- Lists of bytes: the row that holds them is the call's own. -/
def OwnRows (R : Nat → Prop) (w : World) (base : Nat) (v : Value) (ls : List (List UInt8)) : Prop :=
  ∃ us : List Value, us.length = ls.length ∧ w.ownsRow base 25 1 v ls.length us ∧ ∀ (j : Nat) (u : Value), us[j]? = some u → RowIn (fun b => R b ∧ v.ownBlock ≠ some b) w u (gr ls j)
theorem own_form {w : World} {base : Nat} {e : TypeId} {v : Value} {n : Nat} {us : List Value} (h : w.ownsRow base e 1 v n us) : ∃ A c, v = .slice A n c ∧ n ≤ c ∧ (A = none → c = 0) ∧ n ≤ 9223372036854775807 := by
  rcases h.2 with ⟨rfl, h0⟩ | ⟨g, cap, cur, rfl, hb, hg, h1, h2, h3, h4⟩
  · exact ⟨none, 0, by rw [h0], by omega, fun _ => rfl, by omega⟩
  · exact ⟨_, cap, rfl, h1, fun e => (by cases e), by unfold maxLen at h2; omega⟩
theorem OwnRows.reads {R : Nat → Prop} {w : World} {base : Nat} {v : Value} {ls : List (List UInt8)} (h : OwnRows R w base v ls) : ∃ A c, v = .slice A ls.length c ∧ ls.length ≤ c ∧ (A = none → c = 0) ∧ RowsIn (fun b => R b ∨ v.ownBlock = some b) w A ls := by
  obtain ⟨us, hl, hown, hr⟩ := h
  obtain ⟨A, c, rfl, h1, h2, h3⟩ := own_form hown
  refine ⟨A, c, rfl, h1, h2, h3, fun h0 => ?_⟩
  rcases hown.2 with ⟨e, h4⟩ | ⟨g, cap, cur, e, hb, hg, h5, h6, h7, h8⟩
  · omega
  · injection e with e1 e2 e3
    subst e1 e3
    refine ⟨g, 0, rfl, .inr rfl, fun j hj => ?_⟩
    obtain ⟨u, hu⟩ : ∃ u, us[j]? = some u := ⟨us[j]'(by omega), List.getElem?_eq_getElem _⟩
    have hc := own_cell hown hu
    exact ⟨u, by rw [Nat.zero_add]; exact hc, (hr j u hu).mono (fun b _ hb => .inl hb.1)⟩
theorem OwnRows.base_le {R : Nat → Prop} {w : World} {base : Nat} {v : Value} {ls : List (List UInt8)} (h : OwnRows R w base v ls) (b : Nat) (hb : v.ownBlock = some b) : base ≤ b ∧ b < w.heap.size := by
  obtain ⟨us, hl, hown, hr⟩ := h
  exact World.ownsRow.lt hown b hb
theorem OwnRows.keeps {R S : Nat → Prop} {w w1 : World} {base : Nat} {v : Value} {ls : List (List UInt8)} (h : OwnRows R w base v ls) (hk : Keeps S w w1) (hR : ∀ b, R b → ¬ S b) (hv : ∀ b, v.ownBlock = some b → ¬ S b) : OwnRows R w1 base v ls := by
  obtain ⟨us, hl, hown, hr⟩ := h
  exact ⟨us, hl, own_keeps hown hk hv, fun j u hu => (hr j u hu).keeps hk (fun b hb => hR b hb.1)⟩
theorem OwnRows.kept {R : Nat → Prop} {w w1 : World} {base : Nat} {v : Value} {ls : List (List UInt8)} (h : OwnRows R w base v ls) (hk : Keeps NoB w w1) : OwnRows R w1 base v ls := h.keeps hk (fun _ _ h => h) (fun _ _ h => h)
theorem OwnRows.mono {R R' : Nat → Prop} {w : World} {base : Nat} {v : Value} {ls : List (List UInt8)} (h : OwnRows R w base v ls) (hr : ∀ b, b < w.heap.size → R b → R' b) : OwnRows R' w base v ls := by
  obtain ⟨us, hl, hown, h3⟩ := h
  exact ⟨us, hl, hown, fun j u hu => (h3 j u hu).mono (fun b h1 h2 => ⟨hr b h1 h2.1, h2.2⟩)⟩
theorem OwnRows.lower {R : Nat → Prop} {w : World} {base base' : Nat} {v : Value} {ls : List (List UInt8)} (h : OwnRows R w base v ls) (hb : base' ≤ base) : OwnRows R w base' v ls := by
  obtain ⟨us, hl, hown, h3⟩ := h
  refine ⟨us, hl, ⟨hown.1, ?_⟩, h3⟩
  rcases hown.2 with h2 | ⟨g, cap, cur, rfl, hg, r⟩
  · exact .inl h2
  · exact .inr ⟨g, cap, cur, rfl, Nat.le_trans hb hg, r⟩
theorem OwnRows.nil (R : Nat → Prop) (w : World) (base : Nat) : OwnRows R w base (.slice none 0 0) [] :=
  ⟨[], rfl, World.ownsRow_nil w base _ 1, fun j u hu => by simp at hu⟩
/-- '[][]byte{}'. -/
theorem OwnRows.empty (R : Nat → Prop) (w : World) (base : Nat) (hb : base ≤ w.heap.size) (n : Nat) (cs : Array Value) (h : n = 0) : OwnRows R (w.alloc (.cells #[] 25)) base (.slice (some ⟨w.heap.size, 0, none⟩) 0 0) [] :=
  ⟨[], rfl, World.ownsRow_made w #[] 0 hb (Nat.zero_le _) rfl, fun j u hu => by simp at hu⟩
theorem OwnRows.made {R : Nat → Prop} {w : World} {base n : Nat} {v : Value} (h : w.ownsRow base 25 1 v n (madeCells (Value.slice none 0 0).cells (n * 1)).toList) : OwnRows R w base v (List.replicate n []) := by
  have e0 : (madeCells (Value.slice none 0 0).cells (n * 1)).toList = List.replicate n (Value.slice none 0 0) := by
    apply List.ext_getElem
    · simp [madeCells]
    · intro i h1 h2; simp [madeCells, Value.cells, Nat.mod_one]
  rw [e0] at h
  refine ⟨List.replicate n (Value.slice none 0 0), by simp, by rw [List.length_replicate]; exact h, fun j u hu => ?_⟩
  rw [List.getElem?_replicate] at hu
  split at hu
  · cases hu
    have : gr (List.replicate n ([] : List UInt8)) j = [] := by unfold gr; rw [List.getD_eq_getElem?_getD, List.getElem?_replicate]; split <;> rfl
    rw [this]
    exact ⟨none, 0, rfl, Nat.le_refl _, fun _ => rfl, BytesIn.nil _ _⟩
  · cases hu
/-- One of them is written. -/
theorem OwnRows.set {R : Nat → Prop} {w : World} {base g n c j : Nat} {ls : List (List UInt8)} {u : Value} {l : List UInt8} (h : OwnRows R w base (.slice (some ⟨g, 0, none⟩) n c) ls) (hj : j < ls.length) (hu : RowIn (fun b => R b ∧ b ≠ g) w u l) :
    OwnRows R (w.setCell ⟨g, j, none⟩ u) base (.slice (some ⟨g, 0, none⟩) n c) (ls.set j l) := by
  obtain ⟨us, hl, hown, h3⟩ := h
  have hk := Keeps.one w g j u
  refine ⟨us.set j u, by simp [hl], by rw [List.length_set]; exact own_set hown u, fun i x hx => ?_⟩
  have hgr : gr (ls.set j l) i = if i = j then l else gr ls i := by
    unfold gr
    rw [List.getD_eq_getElem?_getD, List.getElem?_set]
    by_cases e : j = i
    · subst e; simp [hj]
    · rw [if_neg e, if_neg (fun h => e h.symm), List.getD_eq_getElem?_getD]
  rw [List.getElem?_set] at hx
  by_cases e : j = i
  · rw [if_pos e] at hx
    split at hx
    · cases hx
      rw [hgr, if_pos e.symm]
      refine (hu.keeps hk (fun b hb e => hb.2 e)).mono (fun b _ hb => ⟨hb.1, fun e => ?_⟩)
      have : g = b := by simpa [Value.ownBlock] using e
      exact hb.2 this.symm
    · cases hx
  · rw [if_neg e] at hx
    rw [hgr, if_neg (fun h => e h.symm)]
    exact (h3 i x hx).keeps hk (fun b hb e => hb.2 (by rw [e]; rfl))
/-- One more. -/
theorem OwnRows.snoc {R : Nat → Prop} {w w1 : World} {base g cap : Nat} {v u : Value} {ls : List (List UInt8)} {l : List UInt8} {us : List Value} {o : Obj} (h : OwnRows R w base v ls) (hu : RowIn (fun b => R b ∧ v.ownBlock ≠ some b) w u l)
    (hus : us.length = ls.length ∧ w.ownsRow base 25 1 v ls.length us ∧ ∀ (j : Nat) (u : Value), us[j]? = some u → RowIn (fun b => R b ∧ v.ownBlock ≠ some b) w u (gr ls j))
    (hown : w1.ownsRow base 25 1 (.slice (some ⟨g, 0, none⟩) (ls.length + 1) cap) (ls.length + 1) (us ++ [u])) (hgr : (w.alloc o).grownBy w1 v.ownBlock) (hat : v.ownBlock = some g ∨ g = (w.alloc o).heap.size) :
    OwnRows R w1 base (.slice (some ⟨g, 0, none⟩) (ls.length + 1) cap) (ls ++ [l]) := by
  obtain ⟨hl, _, h3⟩ := hus
  have hk : Keeps (fun k => some k = v.ownBlock) w w1 := ((Keeps.refl NoB w).alloc o).trans (Keeps.ofGrown hgr) (fun _ _ h => h.elim) (fun _ _ h => h)
  have key : ∀ (x : Value) (m : List UInt8), RowIn (fun b => R b ∧ v.ownBlock ≠ some b) w x m → RowIn (fun b => R b ∧ (Value.slice (some ⟨g, 0, none⟩) (ls.length + 1) cap).ownBlock ≠ some b) w1 x m := fun x m hx => by
    have hlt : RowIn (fun b => (R b ∧ v.ownBlock ≠ some b) ∧ b < w.heap.size) w x m := hx.mono (fun b h1 h2 => ⟨h2, h1⟩)
    refine (hlt.keeps hk (fun b hb e => hb.1.2 e.symm)).mono (fun b _ hb => ⟨hb.1.1, fun e => ?_⟩)
    have : g = b := by simpa [Value.ownBlock] using e
    subst this
    rcases hat with h | h
    · exact hb.1.2 h
    · rw [World.size_alloc] at h; have := hb.2; omega
  refine ⟨us ++ [u], by simp [hl], by rw [List.length_append]; exact hown, fun j x hx => ?_⟩
  have hgr2 : gr (ls ++ [l]) j = if j = ls.length then l else gr ls j := by
    unfold gr
    rw [List.getD_eq_getElem?_getD, List.getD_eq_getElem?_getD]
    by_cases hj : j < ls.length
    · rw [List.getElem?_append_left hj, if_neg (by omega)]
    · rw [List.getElem?_append_right (by omega)]
      by_cases e : j = ls.length
      · rw [if_pos e, e]; simp
      · rw [if_neg e, List.getElem?_eq_none (by simp; omega), List.getElem?_eq_none (by omega)]
  rw [hgr2]
  by_cases hj : j < us.length
  · rw [List.getElem?_append_left hj] at hx
    rw [if_neg (by omega)]
    exact key x _ (h3 j x hx)
  · rw [List.getElem?_append_right (by omega)] at hx
    have e : j = us.length := by
      refine Nat.le_antisymm (Nat.le_of_not_lt (fun hc => ?_)) (by omega)
      rw [List.getElem?_eq_none (by simp; omega)] at hx; cases hx
    rw [if_pos (by omega)]
    rw [e, Nat.sub_self] at hx
    cases hx
    exact key _ l hu
/-- The same, the number of lists by its name. -/
theorem OwnRows.snocN {R : Nat → Prop} {w w1 : World} {base g cap n : Nat} {v u : Value} {ls : List (List UInt8)} {l : List UInt8} {us : List Value} {o : Obj} (hn : ls.length = n) (h : OwnRows R w base v ls) (hu : RowIn (fun b => R b ∧ v.ownBlock ≠ some b) w u l)
    (hus : us.length = n) (hus2 : w.ownsRow base 25 1 v n us) (hus3 : ∀ (j : Nat) (u : Value), us[j]? = some u → RowIn (fun b => R b ∧ v.ownBlock ≠ some b) w u (gr ls j))
    (hown : w1.ownsRow base 25 1 (.slice (some ⟨g, 0, none⟩) (n + 1) cap) (n + 1) (us ++ [u])) (hgr : (w.alloc o).grownBy w1 v.ownBlock) (hat : v.ownBlock = some g ∨ g = (w.alloc o).heap.size) :
    OwnRows R w1 base (.slice (some ⟨g, 0, none⟩) (n + 1) cap) (ls ++ [l]) := by
  subst hn
  exact h.snoc hu ⟨hus, hus2, hus3⟩ hown hgr hat
/-- Its parts. -/
theorem OwnRows.parts {R : Nat → Prop} {w : World} {base n : Nat} {v : Value} {ls : List (List UInt8)} (h : OwnRows R w base v ls) (hn : ls.length = n) : ∃ us A c, v = .slice A n c ∧ us.length = n ∧ w.ownsRow base 25 1 v n us ∧ ∀ (j : Nat) (u : Value), us[j]? = some u → RowIn (fun b => R b ∧ v.ownBlock ≠ some b) w u (gr ls j) := by
  subst hn
  obtain ⟨us, h1, h2, h3⟩ := h
  obtain ⟨A, c, hv, _⟩ := own_form h2
  exact ⟨us, A, c, hv, h1, h2, h3⟩
/-- Bytes, in words. -/
def strOf (l : List UInt8) : ByteArray := ⟨l.toArray⟩
theorem strOf_inj {a b : List UInt8} (h : strOf a = strOf b) : a = b := by unfold strOf at h; injection h with h; exact List.toArray_inj h
theorem strOf_toList (l : List UInt8) : (strOf l).toList = l := by rw [ByteArray.toList_eq]; rfl
theorem strOf_size (l : List UInt8) : (strOf l).size = l.length := by simp [strOf, ByteArray.size]
theorem conv_run (src dst : TypeId) (hs : Try.prog.underlying src = some (.slice 5)) (hd : Try.prog.underlying dst = some .string) {R : Nat → Prop} {w : World} {A : Option Addr} {l : List UInt8} (h : BytesIn R w A l) (c : Nat) :
    (Go.convert src dst (.slice A l.length c)).run Try.prog w = .ok (.string (strOf l)) w := by
  rcases Nat.eq_zero_or_pos l.length with h0 | h0
  · obtain rfl : l = [] := List.length_eq_zero_iff.1 h0
    show (Go.convert src dst (.slice A 0 c)).run Try.prog w = _
    rw [Go.run_convert_bytes_string w src dst 5 A 0 c hs Try.underlying5 hd]
    have hl : ∀ x, (loadCells x 0).run Try.prog w = .ok #[] w := fun x => by simpa using run_loadCells_list (P := Try.prog) w x [] (by simp)
    cases A with
    | none => rfl
    | some a =>
      simp [Conv.bytesToString, hl]
      rfl
  · obtain ⟨b, off, rfl, _, hc⟩ := h.get h0
    have hb : Go.Lib.Bytes w b off (strOf l) := fun i hi => by
      rw [strOf_size] at hi
      rw [hc i hi, gb_eq l i hi]
      rfl
    have := Go.Lib.run_convert_whole w src 5 dst hs Try.underlying5 hd b off (strOf l) hb c
    rw [strOf_size] at this
    exact this
theorem splice_bytes (to b : List UInt8) (n : Nat) (hn : n = min b.length to.length) (rest : List Value) :
    (((enc8 to).map (Value.int .u8) ++ rest).take 0 ++ (enc8 (b.take n)).map (Value.int .u8) ++ ((enc8 to).map (Value.int .u8) ++ rest).drop (0 + ((enc8 (b.take n)).map (Value.int .u8)).length)) =
      (enc8 (b.take n ++ to.drop n)).map (Value.int .u8) ++ rest := by
  have hl : ((enc8 (b.take n)).map (Value.int .u8)).length = n := by rw [List.length_map, enc8_length, List.length_take]; omega
  rw [hl, List.take_zero, List.nil_append, Nat.zero_add, List.drop_append_of_le_length (by rw [List.length_map, enc8_length]; omega), enc8_append, List.map_append, ← List.append_assoc]
  congr 2
  unfold enc8
  rw [List.map_drop, List.map_drop]
/-- 'copy(to, b)', to whole and the call's own. -/
theorem run_copy_bytes {w : World} {base : Nat} {v : Value} {to b : List UInt8} (dT sT ty : TypeId) (hu : Try.prog.underlying dT = some (.slice 5)) (hown : OwnB w base v to) {R : Nat → Prop} {A : Option Addr} (c : Nat) (hb : BytesIn R w A b) :
    ∃ (n : Nat) (w' : World), (Builtin.copy_ #[dT, sT] ty #[v, .slice A b.length c]).run Try.prog w = .ok (goInt n) w' ∧ n = min b.length to.length ∧ OwnB w' base v (b.take n ++ to.drop n) ∧ Keeps (fun k => v.ownBlock = some k) w w' := by
  have hsz : (Try.prog.info? 5).map (·.size) = some 1 := by kernel_rfl
  obtain ⟨Av, cv, rfl, hcv, _, hbv⟩ := hown.reads
  rcases Nat.eq_zero_or_pos (min b.length to.length) with h0 | h0
  · refine ⟨0, w, run_copy_none w dT sT ty 5 Av A to.length cv b.length c hu hsz h0, h0.symm, ?_, Keeps.refl _ _⟩
    simpa using hown
  · obtain ⟨bs, os, rfl, _, hc⟩ := hb.get (by omega)
    have hown0 := hown
    rcases hown.2 with ⟨e, _⟩ | ⟨g, cap, cur, e, hgb, hg, h1, h2, h3, h4⟩
    · injection e with e1 e2 e3; omega
    · injection e with e1 e2 e3
      subst e1 e3
      rw [enc8_length] at h1 h4
      obtain ⟨n, hn⟩ : ∃ n, n = min b.length to.length := ⟨_, rfl⟩
      have hcl : ((enc8 (b.take n)).map (Value.int .u8)).length = n := by rw [List.length_map, enc8_length, List.length_take]; omega
      have hcur : cur.toList = (enc8 to).map (Value.int .u8) ++ cur.toList.drop (to.length * 1) := by
        rw [← h4, List.take_append_drop]
      have hrun := run_copy_row (P := Try.prog) w dT sT ty 5 g 0 to.length cv ⟨bs, os, none⟩ b.length c cur 5 ((enc8 (b.take n)).map (Value.int .u8)) hu hsz hg (by rw [hcl, hn]) (fun j u hj => by
        have hjn : j < n := by
          have := (List.getElem?_eq_some_iff.1 hj).1
          omega
        have := hc j (by omega)
        simp only [List.getElem?_map, enc8] at hj
        rw [List.getElem?_take_of_lt hjn, List.getElem?_eq_getElem (by omega : j < b.length)] at hj
        simp only [Option.map_some, Option.some.injEq] at hj
        rw [← hj]
        rw [gb_eq b j (by omega)] at this
        unfold Addr.add
        split
        · rename_i e0; subst e0; exact this
        · exact this) (by rw [hcl]; have := h3; simp only [Nat.mul_one] at this; omega) (fun u hu2 => by
        obtain ⟨x, _, rfl⟩ := List.mem_map.1 hu2
        rfl)
      rw [hcl] at hrun
      refine ⟨n, _, hrun, hn, ?_, ⟨rfl, rfl, rfl, by simp [World.setRow], fun k hk hne => setRow_other w g k _ (fun e => hne (by rw [e]; rfl))⟩⟩
      have hll : (b.take n ++ to.drop n).length = to.length := by rw [List.length_append, List.length_take, List.length_drop]; omega
      refine ⟨by simp, .inr ⟨g, cv, _, by rw [enc8_length, hll], hgb, setRow_heap w g cur _ _ _ hg, by rw [enc8_length, hll]; exact h1, h2, ?_, ?_⟩⟩
      · have hs3 := h3
        simp only [Nat.mul_one] at hs3 ⊢
        rw [List.size_toArray, List.take_zero, List.nil_append, Nat.zero_add, List.length_append, hcl, List.length_drop, Array.length_toList]
        omega
      · rw [enc8_length, hll]
        show List.take (to.length * 1) (_ : List Value).toArray.toList = _
        rw [List.toList_toArray, hcur]
        have := splice_bytes to b n hn (cur.toList.drop (to.length * 1))
        rw [hcl] at this
        rw [this, List.take_append_of_le_length (by rw [List.length_map, enc8_length, hll]; omega), List.take_of_length_le (by rw [List.length_map, enc8_length, hll]; omega)]
end Go.Proofs.Ytpkkaicpbihjfaa
