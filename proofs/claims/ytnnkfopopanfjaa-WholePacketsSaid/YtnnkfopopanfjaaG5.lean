/- Several texts, one behind the other: what each proves, and its conditions, stands ahead of it. -/
import Derived.Test.YtnnkfopopanfjaaG2
import Derived.Test.YtnnkfopopanfjaaG1
import Derived.Test.YtnnkfopopanfjaaParams
/- An argument that is an array of two slices of bytes. Conditions: the row's. -/
set_option linter.unusedVariables false
namespace Go.Proofs.Ytnnkfopopanfjaa
open Go.ChangeShapes Go.WideShapes Go.ChangeAt Go.RowKit

theorem cell_bytes {H : Type} {enc : TypeId × Value → H} {W : World} {base : Nat} {sp : Nat → Bool} {held : Bool} {n : Nat} {v : Value} {y : DataW H × List MemPlace}
    (hsp : ∀ b, sp b = true) (h : DataW.trod enc Try.prog W base sp held n 25 [v] = some y) : ∃ (l : List UInt8) (a : Option Addr) (cap : Nat), v = .slice a l.length cap ∧ l.length ≤ cap ∧ (a = none → cap = 0) ∧ BytesIn (fun _ => True) W a l := by
  rcases open_ints Try.underlying25 Try.underlying5 (by kernel_rfl) h with ⟨hcs, _⟩ | ⟨x, l, c, zs, hcs, _, hl, hm, hz, _, hcell, hwz⟩
  · have : v = .slice none 0 0 := by simpa using hcs
    subst this
    exact ⟨[], none, 0, rfl, Nat.le_refl _, fun _ => rfl, BytesIn.nil _ _⟩
  · have : v = .slice (some x) l c := by simpa using hcs
    subst this
    rw [hsp, if_pos rfl] at hz
    obtain ⟨xs, rfl, h1, h2, h3⟩ := IsRow.ints (k := .u8) (w := W) (a := some x) (len := l) (cap := c) (zs := zs) (.inr ⟨x, rfl, hl, hm, hz, hcell, hwz⟩)
    obtain ⟨b, hb, hbi⟩ := BytesIn.ofInts h2 h3
    exact ⟨b, some x, c, by rw [hb], by omega, (fun e => by cases e), hbi⟩
end Go.Proofs.Ytnnkfopopanfjaa

/- Parameters by value, as a row's argument. No condition. -/
set_option linter.unusedVariables false
namespace Go.Proofs.Ytnnkfopopanfjaa
open Go.ChangeShapes Go.WideShapes Go.ChangeAt Go.RowKit
set_option maxRecDepth 100000 in
theorem open_par {H : Type} {enc : TypeId × Value → H} {W : World} {r : Reach} {b0 base : Nat} {sp : Nat → Bool} {held : Bool} {v : Value} {d : DataW H} {p : List MemPlace}
    (hv : Value.okWide Try.prog W r b0 23 v) (h : DataW.Trod enc Try.prog W base sp held 23 v d p) : ∃ q : Par, v = q.val ∧ q.wf := by
  obtain ⟨cs, rfl, hsz⟩ := okWide_struct Try.underlying23 hv
  have hC : Try.prog.cellsOf 23 = 5 := by kernel_rfl
  have hI : Try.prog.cellsOf 3 = 1 := by kernel_rfl
  rw [hC] at hsz
  obtain ⟨fuel, hf⟩ := h
  obtain ⟨ys, n, _, _, hcl, hyl, hi⟩ := DataW.trod_struct Try.underlying23 hf
  rw [hC] at hcl
  simp only [Value.cells] at hf hcl hi
  have hyl5 : ys.length = 5 := hyl
  have one : ∀ (i : Nat) (hi5 : i < 5) (f : Field), (Try.prog.underlying 23 = some (.struct #[]) ∨ True) → f.type = 3 → f.offset = i →
      DataW.trod enc Try.prog W base sp held n f.type ((cs.toList.drop f.offset).take (Try.prog.cellsOf f.type)) = ys[i]? → ∃ x : Int, cs.toList[i]? = some (.int .i64 x) ∧ (Lit.int .i64 x).wf = true := by
    intro i hi5 f _ hT ho ht
    rw [hT, ho, hI] at ht
    have hlen : i < cs.toList.length := by simp at hcl ⊢; omega
    have e1 : (cs.toList.drop i).take 1 = [cs.toList[i]] := by rw [List.drop_eq_getElem_cons hlen]; rfl
    rw [e1, List.getElem?_eq_getElem (by omega)] at ht
    obtain ⟨x, hx, hw⟩ := cell_int Try.underlying3 ht
    exact ⟨x, by rw [List.getElem?_eq_getElem hlen, hx], hw⟩
  obtain ⟨x0, c0, w0⟩ := one 0 (by omega) _ (.inr trivial) rfl rfl (hi 0 _ rfl)
  obtain ⟨x1, c1, w1⟩ := one 1 (by omega) _ (.inr trivial) rfl rfl (hi 1 _ rfl)
  obtain ⟨x2, c2, w2⟩ := one 2 (by omega) _ (.inr trivial) rfl rfl (hi 2 _ rfl)
  obtain ⟨x3, c3, w3⟩ := one 3 (by omega) _ (.inr trivial) rfl rfl (hi 3 _ rfl)
  obtain ⟨x4, c4, w4⟩ := one 4 (by omega) _ (.inr trivial) rfl rfl (hi 4 _ rfl)
  refine ⟨⟨x0, x1, x2, x3, x4⟩, ?_, wf_i64_bounds w0, wf_i64_bounds w1, wf_i64_bounds w2, wf_i64_bounds w3, wf_i64_bounds w4⟩
  obtain ⟨l⟩ := cs
  simp only [] at c0 c1 c2 c3 c4 hsz
  have : l = [.int .i64 x0, .int .i64 x1, .int .i64 x2, .int .i64 x3, .int .i64 x4] := by
    apply List.ext_getElem?
    intro i
    match i with
    | 0 => exact c0
    | 1 => exact c1
    | 2 => exact c2
    | 3 => exact c3
    | 4 => exact c4
    | i + 5 => rw [List.getElem?_eq_none (by simp at hsz; omega), List.getElem?_eq_none (by simp)]
  subst this
  rfl
end Go.Proofs.Ytnnkfopopanfjaa

/- An argument that is almonrylaw13's Turned, by value. Conditions: the row's. -/
set_option linter.unusedVariables false
namespace Go.Proofs.Ytnnkfopopanfjaa
open Go.ChangeShapes Go.WideShapes Go.ChangeAt Go.RowKit

theorem one_cell {l : List Value} {o : Nat} (h : o < l.length) : (l.drop o).take 1 = [l[o]] := by
  rw [List.drop_eq_getElem_cons h]; rfl
/-- A number that is a field, of one cell. -/
theorem field_int {H : Type} {enc : TypeId × Value → H} {W : World} {base : Nat} {sp : Nat → Bool} {held : Bool} {n : Nat} {T : TypeId} {k : IntKind} {l : List Value} {o : Nat} {y : DataW H × List MemPlace} (ht : Try.prog.underlying T = some (.int k)) (hc : Try.prog.cellsOf T = 1)
    (h : DataW.trod enc Try.prog W base sp held n T ((l.drop o).take (Try.prog.cellsOf T)) = some y) (ho : o < l.length) : ∃ x : Int, l[o]? = some (.int k x) ∧ (Lit.int k x).wf = true := by
  rw [hc, one_cell ho] at h
  obtain ⟨x, hx, hw⟩ := cell_int ht h
  exact ⟨x, by rw [List.getElem?_eq_getElem ho, hx], hw⟩
theorem get_sub {l : List Value} {o m i : Nat} (h : i < m) : ((l.drop o).take m)[i]? = l[o + i]? := by
  rw [List.getElem?_take_of_lt h, List.getElem?_drop]
set_option maxRecDepth 100000 in
theorem open_turned {H : Type} {enc : TypeId × Value → H} {W : World} {r : Reach} {b0 base : Nat} {sp : Nat → Bool} {held : Bool} {v : Value} {d : DataW H} {p : List MemPlace}
    (hv : Value.okWide Try.prog W r b0 29 v) (hsp : ∀ b, sp b = true) (h : DataW.Trod enc Try.prog W base sp held 29 v d p) :
    ∃ (q : Par) (s : Int) (l : List UInt8) (A : Option Addr) (c : Nat) (tb ta ty tm tl : Int), v = .agg #[.int .i64 q.n, .int .i64 q.b, .int .i64 q.q, .int .i64 q.eps, .int .i64 q.f, .int .u64 s, .slice A (List.length l) c, .int .u8 tb, .int .u8 ta, .int .u8 ty, .int .i64 tm, .int .i64 tl] ∧ q.wf ∧
      (Lit.int .u64 s).wf = true ∧ (l.length ≤ c ∧ (A = none → c = 0) ∧ BytesIn (fun _ => True) W A l) ∧ (Lit.int .u8 tb).wf = true ∧ (Lit.int .u8 ta).wf = true ∧ (Lit.int .u8 ty).wf = true ∧ (Lit.int .i64 tm).wf = true ∧ (Lit.int .i64 tl).wf = true := by
  obtain ⟨cs, rfl, hsz⟩ := okWide_struct Try.underlying29 hv
  have hC : Try.prog.cellsOf 29 = 12 := by kernel_rfl
  have hP : Try.prog.cellsOf 23 = 5 := by kernel_rfl
  have hT : Try.prog.cellsOf 27 = 5 := by kernel_rfl
  have hI : Try.prog.cellsOf 3 = 1 := by kernel_rfl
  have hU : Try.prog.cellsOf 24 = 1 := by kernel_rfl
  have hB : Try.prog.cellsOf 5 = 1 := by kernel_rfl
  have hS : Try.prog.cellsOf 25 = 1 := by kernel_rfl
  rw [hC] at hsz
  obtain ⟨fuel, hf⟩ := h
  obtain ⟨ys, n, _, _, hcl, hyl, hi⟩ := DataW.trod_struct Try.underlying29 hf
  rw [hC] at hcl
  simp only [Value.cells] at hf hcl hi
  obtain ⟨l⟩ := cs
  simp only [] at hsz hcl hi
  have hyl4 : ys.length = 4 := hyl
  have g := fun (i : Nat) (h : i < 4) => List.getElem?_eq_getElem (l := ys) (show i < ys.length by omega)
  have f0 := (hi 0 _ rfl).trans (g 0 (by omega))
  have f1 := (hi 1 _ rfl).trans (g 1 (by omega))
  have f2 := (hi 2 _ rfl).trans (g 2 (by omega))
  have f3 := (hi 3 _ rfl).trans (g 3 (by omega))
  obtain ⟨s, e5, w5⟩ := field_int (l := l) (o := 5) Try.underlying24 hU f1 (by omega)
  have f2' : DataW.trod enc Try.prog W base sp held n 25 [l[6]] = some ys[2] := by
    have e1 := one_cell (l := l) (o := 6) (by omega)
    rw [← e1]
    exact f2
  obtain ⟨ob, A, c, hx6, r6⟩ := cell_bytes hsp f2'
  have e6 : l[6]? = some (.slice A ob.length c) := by rw [List.getElem?_eq_getElem (by omega), hx6]
  have f0' : DataW.trod enc Try.prog W base sp held n 23 ((l.drop 0).take 5) = some ys[0] := f0
  have f3' : DataW.trod enc Try.prog W base sp held n 27 ((l.drop 7).take 5) = some ys[3] := f3
  have l0 : ((l.drop 0).take 5).length = 5 := by simp; omega
  have l3 : ((l.drop 7).take 5).length = 5 := by simp; omega
  obtain ⟨zs, n0, _, _, _, hz, hi0⟩ := DataW.trod_struct Try.underlying23 f0'
  obtain ⟨us, n3, _, _, _, hu3, hi3⟩ := DataW.trod_struct Try.underlying27 f3'
  have hz5 : zs.length = 5 := hz
  have hu5 : us.length = 5 := hu3
  have gz := fun (i : Nat) (h : i < 5) => List.getElem?_eq_getElem (l := zs) (show i < zs.length by omega)
  have gu := fun (i : Nat) (h : i < 5) => List.getElem?_eq_getElem (l := us) (show i < us.length by omega)
  obtain ⟨x0, c0, w0⟩ := field_int (o := 0) Try.underlying3 hI ((hi0 0 _ rfl).trans (gz 0 (by omega))) (by omega)
  obtain ⟨x1, c1, w1⟩ := field_int (o := 1) Try.underlying3 hI ((hi0 1 _ rfl).trans (gz 1 (by omega))) (by omega)
  obtain ⟨x2, c2, w2⟩ := field_int (o := 2) Try.underlying3 hI ((hi0 2 _ rfl).trans (gz 2 (by omega))) (by omega)
  obtain ⟨x3, c3, w3⟩ := field_int (o := 3) Try.underlying3 hI ((hi0 3 _ rfl).trans (gz 3 (by omega))) (by omega)
  obtain ⟨x4, c4, w4⟩ := field_int (o := 4) Try.underlying3 hI ((hi0 4 _ rfl).trans (gz 4 (by omega))) (by omega)
  obtain ⟨t0, c7, w7⟩ := field_int (o := 0) Try.underlying5 hB ((hi3 0 _ rfl).trans (gu 0 (by omega))) (by omega)
  obtain ⟨t1, c8, w8⟩ := field_int (o := 1) Try.underlying5 hB ((hi3 1 _ rfl).trans (gu 1 (by omega))) (by omega)
  obtain ⟨t2, c9, w9⟩ := field_int (o := 2) Try.underlying5 hB ((hi3 2 _ rfl).trans (gu 2 (by omega))) (by omega)
  obtain ⟨t3, c10, w10⟩ := field_int (o := 3) Try.underlying3 hI ((hi3 3 _ rfl).trans (gu 3 (by omega))) (by omega)
  obtain ⟨t4, c11, w11⟩ := field_int (o := 4) Try.underlying3 hI ((hi3 4 _ rfl).trans (gu 4 (by omega))) (by omega)
  rw [get_sub (by omega)] at c0 c1 c2 c3 c4 c7 c8 c9 c10 c11
  refine ⟨⟨x0, x1, x2, x3, x4⟩, s, ob, A, c, t0, t1, t2, t3, t4, ?_, ⟨wf_i64_bounds w0, wf_i64_bounds w1, wf_i64_bounds w2, wf_i64_bounds w3, wf_i64_bounds w4⟩, w5, r6, w7, w8, w9, w10, w11⟩
  have : l = [.int .i64 x0, .int .i64 x1, .int .i64 x2, .int .i64 x3, .int .i64 x4, .int .u64 s, .slice A ob.length c, .int .u8 t0, .int .u8 t1, .int .u8 t2, .int .i64 t3, .int .i64 t4] := by
    apply List.ext_getElem?
    intro i
    match i with
    | 0 => exact c0
    | 1 => exact c1
    | 2 => exact c2
    | 3 => exact c3
    | 4 => exact c4
    | 5 => exact e5
    | 6 => exact e6
    | 7 => exact c7
    | 8 => exact c8
    | 9 => exact c9
    | 10 => exact c10
    | 11 => exact c11
    | i + 12 => rw [List.getElem?_eq_none (by simp at hsz; omega), List.getElem?_eq_none (by simp)]
  subst this
  rfl
end Go.Proofs.Ytnnkfopopanfjaa

/- An argument that is almonrylaw14's Case, by value. Conditions: the row's. -/
set_option linter.unusedVariables false
namespace Go.Proofs.Ytnnkfopopanfjaa
open Go.ChangeShapes Go.WideShapes Go.ChangeAt Go.RowKit

set_option maxRecDepth 100000 in
theorem open_case14 {H : Type} {enc : TypeId × Value → H} {W : World} {r : Reach} {b0 base : Nat} {sp : Nat → Bool} {held : Bool} {v : Value} {d : DataW H} {p : List MemPlace}
    (hv : Value.okWide Try.prog W r b0 39 v) (hsp : ∀ b, sp b = true) (h : DataW.Trod enc Try.prog W base sp held 39 v d p) :
    ∃ (q : Par) (s : Nat) (l : List UInt8) (A : Option Addr) (c : Nat) (ids : List Nat) (B : Option Addr) (e : Nat), v = .agg #[.int .i64 q.n, .int .i64 q.b, .int .i64 q.q, .int .i64 q.eps, .int .i64 q.f, .int .u64 (s : Int), .slice A (List.length l) c, .slice B (List.length ids) e] ∧ q.wf ∧
      s < 18446744073709551616 ∧ (l.length ≤ c ∧ (A = none → c = 0) ∧ BytesIn (fun _ => True) W A l) ∧ NatsAt W B ids := by
  obtain ⟨cs, rfl, hsz⟩ := okWide_struct Try.underlying39 hv
  have hC : Try.prog.cellsOf 39 = 8 := by kernel_rfl
  have hP : Try.prog.cellsOf 23 = 5 := by kernel_rfl
  have hI : Try.prog.cellsOf 3 = 1 := by kernel_rfl
  have hU : Try.prog.cellsOf 24 = 1 := by kernel_rfl
  have hS : Try.prog.cellsOf 25 = 1 := by kernel_rfl
  have hS2 : Try.prog.cellsOf 37 = 1 := by kernel_rfl
  rw [hC] at hsz
  obtain ⟨fuel, hf⟩ := h
  obtain ⟨ys, n, _, _, hcl, hyl, hi⟩ := DataW.trod_struct Try.underlying39 hf
  rw [hC] at hcl
  simp only [Value.cells] at hf hcl hi
  obtain ⟨l⟩ := cs
  simp only [] at hsz hcl hi
  have hyl4 : ys.length = 4 := hyl
  have g := fun (i : Nat) (h : i < 4) => List.getElem?_eq_getElem (l := ys) (show i < ys.length by omega)
  have f0 := (hi 0 _ rfl).trans (g 0 (by omega))
  have f1 := (hi 1 _ rfl).trans (g 1 (by omega))
  have f2 := (hi 2 _ rfl).trans (g 2 (by omega))
  have f3 := (hi 3 _ rfl).trans (g 3 (by omega))
  obtain ⟨s, e5, w5⟩ := field_int (l := l) (o := 5) Try.underlying24 hU f1 (by omega)
  have f2' : DataW.trod enc Try.prog W base sp held n 25 [l[6]] = some ys[2] := by
    have e1 := one_cell (l := l) (o := 6) (by omega)
    rw [← e1]
    exact f2
  obtain ⟨ob, A, c, hx6, r6⟩ := cell_bytes hsp f2'
  have e6 : l[6]? = some (.slice A ob.length c) := by rw [List.getElem?_eq_getElem (by omega), hx6]
  have f3' : DataW.trod enc Try.prog W base sp held n 37 [l[7]] = some ys[3] := by
    have e1 := one_cell (l := l) (o := 7) (by omega)
    rw [← e1]
    exact f3
  obtain ⟨fx, fa, fc, hx7, _, xa, xw⟩ := cell_ints Try.underlying37 Try.underlying24 (by kernel_rfl) hsp f3'
  obtain ⟨ids, nl, na⟩ := NatsAt.ofInts xa xw
  have e7 : l[7]? = some (.slice fa ids.length fc) := by rw [List.getElem?_eq_getElem (by omega), hx7, nl]
  have f0' : DataW.trod enc Try.prog W base sp held n 23 ((l.drop 0).take 5) = some ys[0] := f0
  have l0 : ((l.drop 0).take 5).length = 5 := by simp; omega
  obtain ⟨zs, n0, _, _, _, hz, hi0⟩ := DataW.trod_struct Try.underlying23 f0'
  have hz5 : zs.length = 5 := hz
  have gz := fun (i : Nat) (h : i < 5) => List.getElem?_eq_getElem (l := zs) (show i < zs.length by omega)
  obtain ⟨x0, c0, w0⟩ := field_int (o := 0) Try.underlying3 hI ((hi0 0 _ rfl).trans (gz 0 (by omega))) (by omega)
  obtain ⟨x1, c1, w1⟩ := field_int (o := 1) Try.underlying3 hI ((hi0 1 _ rfl).trans (gz 1 (by omega))) (by omega)
  obtain ⟨x2, c2, w2⟩ := field_int (o := 2) Try.underlying3 hI ((hi0 2 _ rfl).trans (gz 2 (by omega))) (by omega)
  obtain ⟨x3, c3, w3⟩ := field_int (o := 3) Try.underlying3 hI ((hi0 3 _ rfl).trans (gz 3 (by omega))) (by omega)
  obtain ⟨x4, c4, w4⟩ := field_int (o := 4) Try.underlying3 hI ((hi0 4 _ rfl).trans (gz 4 (by omega))) (by omega)
  rw [get_sub (by omega)] at c0 c1 c2 c3 c4
  have hs := wf_u64_bounds w5
  obtain ⟨sn, rfl⟩ : ∃ sn : Nat, s = (sn : Int) := ⟨s.toNat, by omega⟩
  refine ⟨⟨x0, x1, x2, x3, x4⟩, sn, ob, A, c, ids, fa, fc, ?_, ⟨wf_i64_bounds w0, wf_i64_bounds w1, wf_i64_bounds w2, wf_i64_bounds w3, wf_i64_bounds w4⟩, by omega, r6, na⟩
  have : l = [.int .i64 x0, .int .i64 x1, .int .i64 x2, .int .i64 x3, .int .i64 x4, .int .u64 (sn : Int), .slice A ob.length c, .slice fa ids.length fc] := by
    apply List.ext_getElem?
    intro i
    match i with
    | 0 => exact c0
    | 1 => exact c1
    | 2 => exact c2
    | 3 => exact c3
    | 4 => exact c4
    | 5 => exact e5
    | 6 => exact e6
    | 7 => exact e7
    | i + 8 => rw [List.getElem?_eq_none (by simp at hsz; omega), List.getElem?_eq_none (by simp)]
  subst this
  rfl
end Go.Proofs.Ytnnkfopopanfjaa
