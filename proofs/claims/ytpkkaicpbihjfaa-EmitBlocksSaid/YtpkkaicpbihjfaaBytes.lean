/- Lists of bytes, and lists of such lists: how they are read, and where they lie. No condition. -/
import Derived.Test.YtpkkaicpbihjfaaRows2
import Derived.Laws.BitsAllLaws
set_option linter.unusedVariables false
namespace Go.Proofs.Ytpkkaicpbihjfaa
open Go.RowKit

/-- Bytes, as numbers. -/
def enc8 (l : List UInt8) : List Int := l.map fun x => (x.toNat : Int)
theorem enc8_length (l : List UInt8) : (enc8 l).length = l.length := by simp [enc8]
theorem enc8_append (a b : List UInt8) : enc8 (a ++ b) = enc8 a ++ enc8 b := by simp [enc8]
def gb (l : List UInt8) (j : Nat) : UInt8 := l.getD j 0
theorem gb_eq (l : List UInt8) (j : Nat) (h : j < l.length) : gb l j = l[j] := by simp [gb, h]
theorem gi_enc8 (l : List UInt8) (j : Nat) (h : j < l.length) : gi (enc8 l) j = ((gb l j).toNat : Int) := by simp [gi, enc8, gb, h]
theorem enc8_set (l : List UInt8) (j : Nat) (x : UInt8) : (enc8 l).set j (x.toNat : Int) = enc8 (l.set j x) := by simp [enc8, List.map_set]
theorem enc8_inj {a b : List UInt8} (h : enc8 a = enc8 b) : a = b := by
  induction a generalizing b with
  | nil => cases b with
    | nil => rfl
    | cons y b => simp [enc8] at h
  | cons x a ih => cases b with
    | nil => simp [enc8] at h
    | cons y b =>
      simp only [enc8, List.map_cons, List.cons.injEq] at h
      obtain ⟨h1, h2⟩ := h
      rw [ih (b := b) h2, UInt8.toNat_inj.1 (by omega : x.toNat = y.toNat)]
theorem byte_lt (x : UInt8) : x.toNat < 256 := x.toNat_lt
/-- Bytes that are read at an address, in a block of some. -/
def BytesIn (R : Nat → Prop) (w : World) (A : Option Addr) (l : List UInt8) : Prop := IntsAt w .u8 A (enc8 l) ∧ ∀ b off, A = some ⟨b, off, none⟩ → 0 < l.length → R b
theorem BytesIn.len {R : Nat → Prop} {w : World} {A : Option Addr} {l : List UInt8} (h : BytesIn R w A l) : l.length ≤ 9223372036854775807 := by have := h.1.len; rwa [enc8_length] at this
theorem BytesIn.get {R : Nat → Prop} {w : World} {A : Option Addr} {l : List UInt8} (h : BytesIn R w A l) (h0 : 0 < l.length) : ∃ b off, A = some ⟨b, off, none⟩ ∧ R b ∧ ∀ j, j < l.length → w.cell? ⟨b, off + j, none⟩ = some (.int .u8 ((gb l j).toNat : Int)) := by
  obtain ⟨b, off, e, hc⟩ := h.1.get (by rw [enc8_length]; exact h0)
  exact ⟨b, off, e, h.2 b off e h0, fun j hj => by rw [← gi_enc8 l j hj]; exact hc j (by rw [enc8_length]; exact hj)⟩
theorem BytesIn.keeps {R S : Nat → Prop} {w w1 : World} {A : Option Addr} {l : List UInt8} (h : BytesIn R w A l) (hk : Keeps S w w1) (hn : ∀ b, R b → ¬ S b) : BytesIn R w1 A l :=
  ⟨h.1.keeps hk (fun b off e h0 => hn b (h.2 b off e (by rwa [enc8_length] at h0))), h.2⟩
theorem BytesIn.kept {R : Nat → Prop} {w w1 : World} {A : Option Addr} {l : List UInt8} (h : BytesIn R w A l) (hk : Keeps NoB w w1) : BytesIn R w1 A l := h.keeps hk (fun _ _ h => h)
theorem BytesIn.mono {R R' : Nat → Prop} {w : World} {A : Option Addr} {l : List UInt8} (h : BytesIn R w A l) (hr : ∀ b, b < w.heap.size → R b → R' b) : BytesIn R' w A l :=
  ⟨h.1, fun b off e h0 => hr b (h.1.lt b off e (by rw [enc8_length]; exact h0)) (h.2 b off e h0)⟩
theorem BytesIn.lt {R : Nat → Prop} {w : World} {A : Option Addr} {l : List UInt8} (h : BytesIn R w A l) : BytesIn (fun b => R b ∧ b < w.heap.size) w A l :=
  h.mono (fun b h1 h2 => ⟨h2, h1⟩)
theorem BytesIn.nil (R : Nat → Prop) (w : World) : BytesIn R w none [] := ⟨⟨by simp [enc8], fun h => by simp [enc8] at h⟩, fun b off e => by cases e⟩
def RowIn (R : Nat → Prop) (w : World) (u : Value) (l : List UInt8) : Prop := ∃ A c, u = .slice A l.length c ∧ l.length ≤ c ∧ (A = none → c = 0) ∧ BytesIn R w A l
theorem RowIn.keeps {R S : Nat → Prop} {w w1 : World} {u : Value} {l : List UInt8} (h : RowIn R w u l) (hk : Keeps S w w1) (hn : ∀ b, R b → ¬ S b) : RowIn R w1 u l := by
  obtain ⟨A, c, h1, h2, h3, h4⟩ := h
  exact ⟨A, c, h1, h2, h3, h4.keeps hk hn⟩
theorem RowIn.mono {R R' : Nat → Prop} {w : World} {u : Value} {l : List UInt8} (h : RowIn R w u l) (hr : ∀ b, b < w.heap.size → R b → R' b) : RowIn R' w u l := by
  obtain ⟨A, c, h1, h2, h3, h4⟩ := h
  exact ⟨A, c, h1, h2, h3, h4.mono hr⟩
def gr (ls : List (List UInt8)) (j : Nat) : List UInt8 := ls.getD j []
theorem gr_eq (ls : List (List UInt8)) (j : Nat) (h : j < ls.length) : gr ls j = ls[j] := by simp [gr, h]
theorem gr_mem (ls : List (List UInt8)) (j : Nat) (h : j < ls.length) : gr ls j ∈ ls := by rw [gr_eq ls j h]; exact List.getElem_mem h
/-- Lists of bytes that are read at an address, all in blocks of some. -/
def RowsIn (R : Nat → Prop) (w : World) (A : Option Addr) (ls : List (List UInt8)) : Prop :=
  ls.length ≤ 9223372036854775807 ∧ (0 < ls.length → ∃ b off, A = some ⟨b, off, none⟩ ∧ R b ∧ ∀ j, j < ls.length → ∃ u, w.cell? ⟨b, off + j, none⟩ = some u ∧ RowIn R w u (gr ls j))
theorem RowsIn.len {R : Nat → Prop} {w : World} {A : Option Addr} {ls : List (List UInt8)} (h : RowsIn R w A ls) : ls.length ≤ 9223372036854775807 := h.1
theorem RowsIn.keeps {R S : Nat → Prop} {w w1 : World} {A : Option Addr} {ls : List (List UInt8)} (h : RowsIn R w A ls) (hk : Keeps S w w1) (hn : ∀ b, R b → ¬ S b) : RowsIn R w1 A ls :=
  ⟨h.1, fun h0 => by
    obtain ⟨b, off, e, hb, hc⟩ := h.2 h0
    refine ⟨b, off, e, hb, fun j hj => ?_⟩
    obtain ⟨u, h1, h2⟩ := hc j hj
    exact ⟨u, hk.cell h1 (hn b hb), h2.keeps hk hn⟩⟩
theorem RowsIn.kept {R : Nat → Prop} {w w1 : World} {A : Option Addr} {ls : List (List UInt8)} (h : RowsIn R w A ls) (hk : Keeps NoB w w1) : RowsIn R w1 A ls := h.keeps hk (fun _ _ h => h)
theorem RowsIn.mono {R R' : Nat → Prop} {w : World} {A : Option Addr} {ls : List (List UInt8)} (h : RowsIn R w A ls) (hr : ∀ b, b < w.heap.size → R b → R' b) : RowsIn R' w A ls :=
  ⟨h.1, fun h0 => by
    obtain ⟨b, off, e, hb, hc⟩ := h.2 h0
    obtain ⟨u0, h1, _⟩ := hc 0 h0
    refine ⟨b, off, e, hr b (World.block_lt_of_cell? w _ h1) hb, fun j hj => ?_⟩
    obtain ⟨u, h1, h2⟩ := hc j hj
    exact ⟨u, h1, h2.mono hr⟩⟩
theorem RowsIn.lt {R : Nat → Prop} {w : World} {A : Option Addr} {ls : List (List UInt8)} (h : RowsIn R w A ls) : RowsIn (fun b => R b ∧ b < w.heap.size) w A ls := h.mono (fun b h1 h2 => ⟨h2, h1⟩)
theorem RowsIn.nil (R : Nat → Prop) (w : World) (A : Option Addr) : RowsIn R w A [] := ⟨by simp, fun h => by simp at h⟩
/-- Bytes of the call's own. -/
def OwnB (w : World) (base : Nat) (v : Value) (l : List UInt8) : Prop := OwnInts w base .u8 5 v (enc8 l)
theorem OwnInts.form {w : World} {base : Nat} {k : IntKind} {e : TypeId} {v : Value} {xs : List Int} (h : OwnInts w base k e v xs) (h0 : 0 < xs.length) : ∃ g c, v = .slice (some ⟨g, 0, none⟩) xs.length c := by
  rcases h.2 with ⟨rfl, h1⟩ | ⟨g, cap, cur, rfl, _⟩
  · omega
  · exact ⟨g, cap, rfl⟩
theorem OwnB.reads {w : World} {base : Nat} {v : Value} {l : List UInt8} (h : OwnB w base v l) : ∃ A c, v = .slice A l.length c ∧ l.length ≤ c ∧ (A = none → c = 0) ∧ BytesIn (fun b => v.ownBlock = some b) w A l := by
  rcases h.2 with ⟨rfl, h0⟩ | ⟨g, cap, cur, rfl, hb, hg, h1, h2, h3, h4⟩
  · rw [enc8_length] at h0
    have hl : l = [] := List.length_eq_zero_iff.1 h0
    subst hl
    exact ⟨none, 0, rfl, Nat.le_refl _, fun _ => rfl, BytesIn.nil _ _⟩
  · obtain ⟨A, c, e, hc, hat⟩ := OwnInts.reads h
    injection e with e1 e2 e3
    subst e1 e3
    rw [enc8_length] at *
    refine ⟨_, cap, rfl, hc, fun e => (by cases e), hat, fun b off e h0 => ?_⟩
    injection e with e; injection e with e _
    subst e
    rfl
theorem OwnB.bytes {w : World} {base : Nat} {A : Option Addr} {n c : Nat} {l : List UInt8} (h : OwnB w base (.slice A n c) l) : BytesIn (fun b => base ≤ b) w A l := by
  obtain ⟨A', c', e, h1, h2, h3⟩ := h.reads
  injection e with e1 e2 e3
  subst e1 e3
  refine ⟨h3.1, fun b off e h0 => ?_⟩
  exact (OwnInts.base_le h b (h3.2 b off e h0)).1
theorem OwnB.row {w : World} {base : Nat} {v : Value} {l : List UInt8} (h : OwnB w base v l) : RowIn (fun b => v.ownBlock = some b) w v l := by
  obtain ⟨A, c, h1, h2, h3, h4⟩ := h.reads
  exact ⟨A, c, h1, h2, h3, h4⟩
/-- Blocks, put upon each other. -/
def xorL (a b : List UInt8) : List UInt8 := List.zipWith (· ^^^ ·) a b
theorem xorL_length {a b : List UInt8} (h : b.length = a.length) : (xorL a b).length = a.length := by simp [xorL, h]
theorem gb_xorL {a b : List UInt8} (h : b.length = a.length) (j : Nat) (hj : j < a.length) : gb (xorL a b) j = gb a j ^^^ gb b j := by
  rw [gb_eq _ _ (by rw [xorL_length h]; exact hj), gb_eq _ _ hj, gb_eq _ _ (by omega)]
  simp [xorL]
/-- The first k bytes are put upon each other. -/
def xorTo (a b : List UInt8) (k : Nat) : List UInt8 := xorL (a.take k) (b.take k) ++ a.drop k
theorem xorTo_zero (a b : List UInt8) : xorTo a b 0 = a := by simp [xorTo, xorL]
theorem xorTo_full (a b : List UInt8) (h : b.length = a.length) : xorTo a b a.length = xorL a b := by
  unfold xorTo; rw [List.take_length, List.drop_length, List.append_nil, ← h, List.take_length]
theorem xorTo_length (a b : List UInt8) (h : b.length = a.length) (k : Nat) : (xorTo a b k).length = a.length := by
  unfold xorTo; rw [List.length_append, xorL_length (by simp [h]), List.length_take, List.length_drop]; omega
theorem xorTo_at (a b : List UInt8) (h : b.length = a.length) (k : Nat) (hk : k < a.length) : gb (xorTo a b k) k = gb a k := by
  unfold xorTo gb
  have hl : (xorL (a.take k) (b.take k)).length = k := by rw [xorL_length (by simp [h])]; simp; omega
  rw [List.getD_eq_getElem?_getD, List.getElem?_append_right (by omega), hl, Nat.sub_self, List.getElem?_drop, Nat.add_zero, List.getD_eq_getElem?_getD]
theorem xorTo_set (a b : List UInt8) (h : b.length = a.length) (k : Nat) (hk : k < a.length) : (xorTo a b k).set k (gb a k ^^^ gb b k) = xorTo a b (k + 1) := by
  have hl : (xorL (a.take k) (b.take k)).length = k := by rw [xorL_length (by simp [h])]; simp; omega
  unfold xorTo
  rw [List.set_append_right _ _ (by omega), hl, Nat.sub_self]
  have hd : a.drop k = a[k] :: a.drop (k + 1) := List.drop_eq_getElem_cons hk
  have ht : xorL (a.take (k + 1)) (b.take (k + 1)) = xorL (a.take k) (b.take k) ++ [gb a k ^^^ gb b k] := by
    unfold xorL
    rw [List.take_succ_eq_append_getElem hk, List.take_succ_eq_append_getElem (by omega : k < b.length), List.zipWith_append (by simp; omega), gb_eq a k hk, gb_eq b k (by omega)]
    rfl
  rw [ht, hd, List.set_cons_zero, List.append_assoc]; rfl
theorem xor_byte (x y : UInt8) : bits BinOp.xor IntKind.u8 (x.toNat : Int) (y.toNat : Int) = ((x ^^^ y).toNat : Int) := by
  rw [u8_xor_nat _ _ (byte_lt x) (byte_lt y), UInt8.toNat_xor]
theorem or_byte (x y : UInt8) : bits BinOp.or IntKind.u8 (x.toNat : Int) (y.toNat : Int) = ((x ||| y).toNat : Int) := by
  rw [u8_or_nat _ _ (byte_lt x) (byte_lt y), UInt8.toNat_or]
/-- All of some blocks, put upon one. -/
def xorAll (a : List UInt8) (ls : List (List UInt8)) : List UInt8 := ls.foldl xorL a
def fitB (n : Nat) (ls : List (List UInt8)) : Bool := ls.all fun l => decide (l.length = n)
theorem fitB_at {n : Nat} {ls : List (List UInt8)} (h : fitB n ls = true) (j : Nat) (hj : j < ls.length) : (gr ls j).length = n := by
  have := List.all_eq_true.1 h (gr ls j) (gr_mem ls j hj)
  simpa using this
theorem xorAll_length (a : List UInt8) (ls : List (List UInt8)) (h : fitB a.length ls = true) : (xorAll a ls).length = a.length := by
  induction ls generalizing a with
  | nil => rfl
  | cons l r ih =>
    simp only [fitB, List.all_cons, Bool.and_eq_true, decide_eq_true_eq] at h
    show (xorAll (xorL a l) r).length = _
    have hl := xorL_length h.1
    rw [ih _ (by rw [hl]; exact h.2), hl]
theorem xorAll_snoc (a : List UInt8) (ls : List (List UInt8)) (l : List UInt8) : xorAll a (ls ++ [l]) = xorL (xorAll a ls) l := by unfold xorAll; rw [List.foldl_append]; rfl
theorem gb_xorAll (a : List UInt8) (ls : List (List UInt8)) (h : fitB a.length ls = true) (j : Nat) (hj : j < a.length) : gb (xorAll a ls) j = ls.foldl (fun x l => x ^^^ gb l j) (gb a j) := by
  induction ls generalizing a with
  | nil => rfl
  | cons l r ih =>
    simp only [fitB, List.all_cons, Bool.and_eq_true, decide_eq_true_eq] at h
    have hl := xorL_length h.1
    show gb (xorAll (xorL a l) r) j = _
    rw [ih _ (by rw [hl]; exact h.2) (by omega), gb_xorL h.1 j hj]; rfl
theorem list_gb (l : List UInt8) : l = (List.range l.length).map (gb l) := by
  apply List.ext_getElem
  · simp
  · intro i h1 h2; simp [gb, h1]
/-- Blocks of so many bytes, all put upon each other. -/
def sumB (n : Nat) (ls : List (List UInt8)) : List UInt8 := xorAll (List.replicate n 0) ls
theorem sumB_length {n : Nat} {ls : List (List UInt8)} (h : fitB n ls = true) : (sumB n ls).length = n := by
  unfold sumB; rw [xorAll_length _ _ (by simpa using h)]; simp
/-- One byte of a sum, of the first i blocks. -/
def sumAt (ls : List (List UInt8)) (k i : Nat) : UInt8 := (ls.take i).foldl (fun x l => x ^^^ gb l k) 0
theorem sumAt_succ (ls : List (List UInt8)) (k i : Nat) (h : i < ls.length) : sumAt ls k (i + 1) = sumAt ls k i ^^^ gb (gr ls i) k := by
  unfold sumAt; rw [List.take_succ_eq_append_getElem h, List.foldl_append, gr_eq ls i h]; rfl
theorem sumB_eq {n : Nat} {ls : List (List UInt8)} (h : fitB n ls = true) : sumB n ls = (List.range n).map fun k => sumAt ls k ls.length := by
  rw [list_gb (sumB n ls), sumB_length h]
  apply List.map_congr_left
  intro k hk
  have hk := List.mem_range.1 hk
  unfold sumB sumAt
  rw [gb_xorAll _ _ (by simpa using h) k (by simpa using hk), List.take_length]
  congr 1
  simp [gb, hk]
def zeroB (l : List UInt8) : Bool := l.all fun x => decide (x = 0)
end Go.Proofs.Ytpkkaicpbihjfaa
