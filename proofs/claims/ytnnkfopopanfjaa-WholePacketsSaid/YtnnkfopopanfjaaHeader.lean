/- What a frame says ahead of its payload: the walk of frame.header and of its two closures. Conditions: so many bytes are there. -/
import Derived.Test.YtnnkfopopanfjaaFrame
import Derived.Laws.EntriesVeiled
set_option linter.unusedVariables false
set_option linter.unusedSimpArgs false
namespace Go.Proofs.Ytnnkfopopanfjaa
open Go.RowKit

theorem wrap_is64 (n : Int) : IntKind.i64.wrap n = wrap64 n := by
  unfold IntKind.wrap wrap64
  simp [IntKind.bits, IntKind.signed]
  omega
/-- What 'next' captured. -/
def NextAt (w : World) (bx g : Nat) : Prop := w.heap[bx]? = some (.cells #[.pointer (some ⟨g, 0, none⟩)] 94 (0, 0)) ∧ bx ≠ g
theorem NextAt.keeps {w w1 : World} {bx g : Nat} (h : NextAt w bx g) (hk : Keeps (· = g) w w1) : NextAt w1 bx g := ⟨hk.heap h.1 h.2, h.2⟩
theorem NextAt.kept {w w1 : World} {bx g : Nat} (h : NextAt w bx g) (hk : Keeps NoB w w1) : NextAt w1 bx g := ⟨hk.heap h.1 (fun h => h), h.2⟩
set_option maxHeartbeats 1000000 in
theorem hnext_calls (bx g base : Nat) (l : List UInt8) (size : Nat) (w : World) (hN : NextAt w bx g) (h : RdAt w g base l) (h1 : 1 ≤ size) (h8 : size ≤ 8) (hl : size ≤ l.length) :
    Calls Try.prog 66 #[.int .i64 (size : Int), .pointer (some ⟨bx, 0, none⟩)] w fun e w' => e = .returned (.int .u64 (numB (l.take size) : Int)) ∧ RdAt w' g base (l.drop size) ∧ Keeps (· = g) w w' := by
  have c0 : w.cell? ⟨bx, 0, none⟩ = some (.pointer (some ⟨g, 0, none⟩)) := by simp [World.cell?, hN.1]
  have HT := hid (take_calls' g base l size w h h1 h8 hl)
  clear hN h
  go_enter Try.func66, Try.ntmps66
  go_wp2_with fail
  refine HT.out.mono ?_
  rintro e w1 ⟨rfl, hr, hk⟩
  have HR := hid hr
  have HK := hid hk
  clear hr hk
  go_wp2_with fail
  go_ret
  exact ⟨rfl, HR.out, HK.out⟩
/-- What 'number' captured. -/
def NumAt (w : World) (nb bx g : Nat) : Prop := w.heap[nb]? = some (.cells #[.func (.func 66) #[] #[.pointer (some ⟨bx, 0, none⟩)]] 134 (0, 0)) ∧ nb ≠ g ∧ NextAt w bx g
theorem NumAt.keeps {w w1 : World} {nb bx g : Nat} (h : NumAt w nb bx g) (hk : Keeps (· = g) w w1) : NumAt w1 nb bx g := ⟨hk.heap h.1 h.2.1, h.2.1, h.2.2.keeps hk⟩
theorem NumAt.kept {w w1 : World} {nb bx g : Nat} (h : NumAt w nb bx g) (hk : Keeps NoB w w1) : NumAt w1 nb bx g := ⟨hk.heap h.1 (fun h => h), h.2.1, h.2.2.kept hk⟩
set_option maxHeartbeats 1000000 in
theorem number_calls (nb bx g base : Nat) (l : List UInt8) (size : Nat) (w : World) (hN : NumAt w nb bx g) (h : RdAt w g base l) (h1 : 1 ≤ size) (h8 : size ≤ 8) (hl : size ≤ l.length) :
    Calls Try.prog 67 #[.int .i64 (size : Int), .pointer (some ⟨nb, 0, none⟩)] w fun e w' => e = .returned (.int .i64 (numI (l.take size))) ∧ RdAt w' g base (l.drop size) ∧ Keeps (· = g) w w' := by
  have c0 : w.cell? ⟨nb, 0, none⟩ = some (.func (.func 66) #[] #[.pointer (some ⟨bx, 0, none⟩)]) := by simp [World.cell?, hN.1]
  have HT := hid (hnext_calls bx g base l size w hN.2.2 h h1 h8 hl)
  clear hN h
  go_enter Try.func67, Try.ntmps67
  go_wp2_with fail
  refine HT.out.mono ?_
  rintro e w1 ⟨rfl, hr, hk⟩
  have HR := hid hr
  have HK := hid hk
  clear hr hk
  have HX := hid (show numI (l.take size) = IntKind.i64.wrap (numB (l.take size) : Int) from rfl)
  go_wp2_with fail
  go_ret
  exact ⟨by rw [HX.out, wrap_is64]; rfl, HR.out, HK.out⟩
/-- Eight cells of a block, written one behind the other. -/
def set8 (w : World) (b : Nat) (y0 y1 y2 y3 y4 y5 y6 y7 : Value) : World :=
  (((((((w.setCell ⟨b, 0, none⟩ y0).setCell ⟨b, 1, none⟩ y1).setCell ⟨b, 2, none⟩ y2).setCell ⟨b, 3, none⟩ y3).setCell ⟨b, 4, none⟩ y4).setCell ⟨b, 5, none⟩ y5).setCell ⟨b, 6, none⟩ y6).setCell ⟨b, 7, none⟩ y7
theorem hset {w : World} {b : Nat} {xs : Array Value} {T : TypeId} {fr : Nat × Nat} (h : w.heap[b]? = some (.cells xs T fr)) (i : Nat) (v : Value) : (w.setCell ⟨b, i, none⟩ v).heap[b]? = some (.cells (xs.setIfInBounds i v) T fr) := by
  show (w.heap.modify b _)[b]? = _
  rw [Array.getElem?_modify, if_pos rfl, h]; rfl
theorem set8_heap {w : World} {b : Nat} {x0 x1 x2 x3 x4 x5 x6 x7 : Value} {T : TypeId} {fr : Nat × Nat} (h : w.heap[b]? = some (.cells #[x0, x1, x2, x3, x4, x5, x6, x7] T fr)) (y0 y1 y2 y3 y4 y5 y6 y7 : Value) :
    (set8 w b y0 y1 y2 y3 y4 y5 y6 y7).heap[b]? = some (.cells #[y0, y1, y2, y3, y4, y5, y6, y7] T fr) := by
  have := hset (hset (hset (hset (hset (hset (hset (hset h 0 y0) 1 y1) 2 y2) 3 y3) 4 y4) 5 y5) 6 y6) 7 y7
  unfold set8
  simpa using this
theorem set8_keeps (w : World) (b : Nat) (y0 y1 y2 y3 y4 y5 y6 y7 : Value) : Keeps (· = b) w (set8 w b y0 y1 y2 y3 y4 y5 y6 y7) :=
  (((((((Keeps.one w b 0 y0).setCell (p := ⟨b, 1, none⟩) (fun _ => rfl) y1).setCell (p := ⟨b, 2, none⟩) (fun _ => rfl) y2).setCell (p := ⟨b, 3, none⟩) (fun _ => rfl) y3).setCell (p := ⟨b, 4, none⟩) (fun _ => rfl) y4).setCell (p := ⟨b, 5, none⟩) (fun _ => rfl) y5).setCell (p := ⟨b, 6, none⟩) (fun _ => rfl) y6).setCell (p := ⟨b, 7, none⟩) (fun _ => rfl) y7
theorem hcells8 {w : World} {b : Nat} {x0 x1 x2 x3 x4 x5 x6 x7 : Value} {T : TypeId} (h : w.heap[b]? = some (.cells #[x0, x1, x2, x3, x4, x5, x6, x7] T (0, 0))) :
    (w.cell? ⟨b, 0, none⟩ = some x0 ∧ w.cell? ⟨b, 1, none⟩ = some x1 ∧ w.cell? ⟨b, 2, none⟩ = some x2 ∧ w.cell? ⟨b, 3, none⟩ = some x3 ∧ w.cell? ⟨b, 4, none⟩ = some x4 ∧ w.cell? ⟨b, 5, none⟩ = some x5 ∧ w.cell? ⟨b, 6, none⟩ = some x6 ∧ w.cell? ⟨b, 7, none⟩ = some x7)
    ∧ (w.frozen? ⟨b, 0, none⟩ = false ∧ w.frozen? ⟨b, 1, none⟩ = false ∧ w.frozen? ⟨b, 2, none⟩ = false ∧ w.frozen? ⟨b, 3, none⟩ = false ∧ w.frozen? ⟨b, 4, none⟩ = false ∧ w.frozen? ⟨b, 5, none⟩ = false ∧ w.frozen? ⟨b, 6, none⟩ = false ∧ w.frozen? ⟨b, 7, none⟩ = false) := by simp [World.cell?, World.frozen?, h]
/-- A reader stays where a block alone turns that has no bytes. -/
theorem RdAt.away {w W : World} {g base hb : Nat} {l : List UInt8} {xs : Array Value} {T : TypeId} {fr : Nat × Nat} (h : RdAt w g base l) (hl : 0 < l.length) (hh : w.heap[hb]? = some (.cells xs T fr)) (hx : ∀ v ∈ xs, ∀ y, v ≠ .int .u8 y) (hg : hb ≠ g) (hk : Keeps (· = hb) w W) : RdAt W g base l := by
  obtain ⟨A, c, h1, h2, h3, h4, h5⟩ := h
  refine ⟨A, c, hk.heap h1 (fun e => hg e.symm), h2, h3, ?_, h5⟩
  obtain ⟨b, o, rfl, hR, hc⟩ := h4.get hl
  have hb2 : b ≠ hb := fun e => by
    subst e
    have h6 := hc 0 hl
    simp only [World.cell?, hh] at h6
    have h7 := Array.mem_of_getElem? h6
    exact hx _ h7 _ rfl
  have h8 : BytesIn (fun k => (base ≤ k ∧ k ≠ g) ∧ k ≠ hb) w (some ⟨b, o, none⟩) l := ⟨h4.1, fun b' off e h0 => ⟨h4.2 b' off e h0, fun e2 => by
    have e3 : b = b' := by injection e with e; injection e
    exact hb2 (e3.trans e2)⟩⟩
  exact (h8.keeps hk (fun k hk e => hk.2 e)).mono (fun k _ hk => hk.1)
theorem rd_away {w W : World} {g base hb : Nat} {l : List UInt8} {xs : Array Value} {T : TypeId} {fr : Nat × Nat} (h : RdAt w g base l) (hh : w.heap[hb]? = some (.cells xs T fr)) (hx : ∀ v ∈ xs, ∀ y, v ≠ .int .u8 y) (hg : hb ≠ g) (hk : Keeps (· = hb) w W) : RdAt W g base l := by
  by_cases hl : 0 < l.length
  · exact h.away hl hh hx hg hk
  · have e : l = [] := List.eq_nil_of_length_eq_zero (by omega)
    subst e
    obtain ⟨A, c, h1, h2, h3, h4, h5⟩ := h
    exact ⟨A, c, hk.heap h1 (fun e => hg e.symm), h2, h3, BytesIn.noneAt _ _ _, h5⟩
set_option maxHeartbeats 2000000 in
set_option maxRecDepth 20000 in
theorem header_calls (g base : Nat) (l : List UInt8) (w : World) (h : RdAt w g base l) (hl : 35 ≤ l.length) :
    Calls Try.prog 45 #[.pointer (some ⟨g, 0, none⟩)] w fun e w' => e = .returned (hdN l).val ∧ RdAt w' g base (l.drop 35) ∧ Keeps (· = g) w w' := by
  have hu := Try.underlying23
  have huh := Try.underlying50
  obtain ⟨A, c, hg, _⟩ := id h
  have HGL := hid (lt_of_heap hg)
  have HR0 := hid h
  have HL := hid hl
  clear h hl hg
  go_enter Try.func45, Try.ntmps45
  go_wp2_with fail
  have HN := hid (show NumAt (((w.alloc (.cells #[.pointer (some ⟨g, 0, none⟩)] 94)).alloc (.cells #[.int .u64 0, .int .i64 0, .int .i64 0, .int .i64 0, .int .i64 0, .int .i64 0, .int .i64 0, .int .u64 0] 50)).alloc (.cells #[.func (.func 66) #[] #[.pointer (some ⟨w.heap.size, 0, none⟩)]] 134)) (w.heap.size + 1 + 1) w.heap.size g from by
    have h1 := heap_alloc_new w (.cells #[.pointer (some ⟨g, 0, none⟩)] 94)
    have k1 := ((Keeps.refl NoB (w.alloc (.cells #[.pointer (some ⟨g, 0, none⟩)] 94))).alloc (.cells #[.int .u64 0, .int .i64 0, .int .i64 0, .int .i64 0, .int .i64 0, .int .i64 0, .int .i64 0, .int .u64 0] 50)).alloc (.cells #[.func (.func 66) #[] #[.pointer (some ⟨w.heap.size, 0, none⟩)]] 134)
    have h3 := heap_alloc_new ((w.alloc (.cells #[.pointer (some ⟨g, 0, none⟩)] 94)).alloc (.cells #[.int .u64 0, .int .i64 0, .int .i64 0, .int .i64 0, .int .i64 0, .int .i64 0, .int .i64 0, .int .u64 0] 50)) (.cells #[.func (.func 66) #[] #[.pointer (some ⟨w.heap.size, 0, none⟩)]] 134)
    simp only [World.size_alloc] at h3
    exact ⟨h3, by have := HGL.out; omega, k1.heap h1 (fun h => h), by have := HGL.out; omega⟩)
  have HRS := hid (show (((w.alloc (.cells #[.pointer (some ⟨g, 0, none⟩)] 94)).alloc (.cells #[.int .u64 0, .int .i64 0, .int .i64 0, .int .i64 0, .int .i64 0, .int .i64 0, .int .i64 0, .int .u64 0] 50)).alloc (.cells #[.func (.func 66) #[] #[.pointer (some ⟨w.heap.size, 0, none⟩)]] 134)).heap[w.heap.size + 1]? = some (.cells #[.int .u64 0, .int .i64 0, .int .i64 0, .int .i64 0, .int .i64 0, .int .i64 0, .int .i64 0, .int .u64 0] 50 (0, 0)) from by
    have h2 := heap_alloc_new (w.alloc (.cells #[.pointer (some ⟨g, 0, none⟩)] 94)) (.cells #[.int .u64 0, .int .i64 0, .int .i64 0, .int .i64 0, .int .i64 0, .int .i64 0, .int .i64 0, .int .u64 0] 50)
    simp only [World.size_alloc] at h2
    exact ((Keeps.refl NoB _).alloc _).heap h2 (fun h => h))
  have HKA := hid ((((Keeps.refl NoB w).alloc (.cells #[.pointer (some ⟨g, 0, none⟩)] 94)).alloc (.cells #[.int .u64 0, .int .i64 0, .int .i64 0, .int .i64 0, .int .i64 0, .int .i64 0, .int .i64 0, .int .u64 0] 50)).alloc (.cells #[.func (.func 66) #[] #[.pointer (some ⟨w.heap.size, 0, none⟩)]] 134))
  obtain ⟨wa, hwa⟩ : ∃ wa, ((w.alloc (.cells #[.pointer (some ⟨g, 0, none⟩)] 94)).alloc (.cells #[.int .u64 0, .int .i64 0, .int .i64 0, .int .i64 0, .int .i64 0, .int .i64 0, .int .i64 0, .int .u64 0] 50)).alloc (.cells #[.func (.func 66) #[] #[.pointer (some ⟨w.heap.size, 0, none⟩)]] 134) = wa := ⟨_, rfl⟩
  rw [hwa] at HN HRS HKA
  rw [hwa]
  obtain ⟨bx, hbx⟩ : ∃ bx, w.heap.size = bx := ⟨_, rfl⟩
  have HBX := hid hbx
  rw [hbx] at HN HRS HGL ⊢
  clear hwa hbx
  have HNX := hid (fun (W : World) (hW : Keeps (· = g) wa W) (l' : List UInt8) (s : Nat) (hr : RdAt W g base l') (h1 : 1 ≤ s) (h8 : s ≤ 8) (hl : s ≤ l'.length) => hnext_calls bx g base l' s W (HN.out.keeps hW).2.2 hr h1 h8 hl)
  have HNU := hid (fun (W : World) (hW : Keeps (· = g) wa W) (l' : List UInt8) (s : Nat) (hr : RdAt W g base l') (h1 : 1 ≤ s) (h8 : s ≤ 8) (hl : s ≤ l'.length) => number_calls (bx + 1 + 1) bx g base l' s W (HN.out.keeps hW) hr h1 h8 hl)
  have h35 := HL.out
  refine (HNX.out wa (Keeps.refl _ _) l 8 (HR0.out.kept HKA.out) (by omega) (by omega) (by omega)).mono ?_
  rintro e w1 ⟨rfl, hr1, hk1⟩
  have HR1 := hid hr1
  have HK1 := hid hk1
  clear hr1 hk1 h35
  obtain ⟨S0, hS0⟩ : ∃ S0, numB (l.take 8) = S0 := ⟨_, rfl⟩
  have HS0 := hid hS0
  rw [hS0]
  clear hS0
  go_wp2_with fail
  have HH := hid (heap_alloc_new w1 (.cells #[.int .u64 (S0 : Int), .int .i64 0, .int .i64 0, .int .i64 0, .int .i64 0, .int .i64 0, .int .i64 0, .int .u64 0] 50))
  have HR2 := hid (HR1.out.kept ((Keeps.refl NoB w1).alloc (.cells #[.int .u64 (S0 : Int), .int .i64 0, .int .i64 0, .int .i64 0, .int .i64 0, .int .i64 0, .int .i64 0, .int .u64 0] 50)))
  have HK2 := hid (HK1.out.alloc (.cells #[.int .u64 (S0 : Int), .int .i64 0, .int .i64 0, .int .i64 0, .int .i64 0, .int .i64 0, .int .i64 0, .int .u64 0] 50))
  generalize hw2 : w1.alloc (.cells #[.int .u64 (S0 : Int), .int .i64 0, .int .i64 0, .int .i64 0, .int .i64 0, .int .i64 0, .int .i64 0, .int .u64 0] 50) = w2 at *
  have HB1 := hid (show bx ≤ w1.heap.size ∧ bx + 1 < w1.heap.size by have h1 := HK1.out.size; have h2 := lt_of_heap HRS.out; omega)
  obtain ⟨hb, hhb⟩ : ∃ hb, w1.heap.size = hb := ⟨_, rfl⟩
  rw [hhb] at HH HB1 ⊢
  clear hw2 hhb
  have HHK := hid (fun (W : World) (hW : Keeps (· = g) w2 W) => hW.heap HH.out (by have h1 := HGL.out; have h2 := HB1.out; show ¬ hb = g; omega))
  refine (HNU.out w2 HK2.out (l.drop 8) 4 HR2.out (by omega) (by omega) (by have h := HL.out; rw [List.length_drop]; omega)).mono ?_
  rintro e w3 ⟨rfl, hr, hk⟩
  rw [List.drop_drop] at hr
  have HR3 := hid hr
  have HK3 := hid (HK2.out.then hk (fun i h _ => h))
  have HKW3 := hid hk
  obtain ⟨n1, hn1⟩ : ∃ n, numI ((l.drop 8).take 4) = n := ⟨_, rfl⟩
  have HN1 := hid hn1
  rw [hn1]
  clear hr hk hn1
  go_wp2_with fail
  refine (HNU.out w3 HK3.out (l.drop 12) 2 HR3.out (by omega) (by omega) (by have h := HL.out; rw [List.length_drop]; omega)).mono ?_
  rintro e w4 ⟨rfl, hr, hk⟩
  rw [List.drop_drop] at hr
  have HR4 := hid hr
  have HK4 := hid (HK3.out.then hk (fun i h _ => h))
  have HKW4 := hid (HKW3.out.then hk (fun i h _ => h))
  obtain ⟨n2, hn2⟩ : ∃ n, numI ((l.drop 12).take 2) = n := ⟨_, rfl⟩
  have HN2 := hid hn2
  rw [hn2]
  clear hr hk hn2
  go_wp2_with fail
  refine (HNU.out w4 HK4.out (l.drop 14) 1 HR4.out (by omega) (by omega) (by have h := HL.out; rw [List.length_drop]; omega)).mono ?_
  rintro e w5 ⟨rfl, hr, hk⟩
  rw [List.drop_drop] at hr
  have HR5 := hid hr
  have HK5 := hid (HK4.out.then hk (fun i h _ => h))
  have HKW5 := hid (HKW4.out.then hk (fun i h _ => h))
  obtain ⟨n3, hn3⟩ : ∃ n, numI ((l.drop 14).take 1) = n := ⟨_, rfl⟩
  have HN3 := hid hn3
  rw [hn3]
  clear hr hk hn3
  go_wp2_with fail
  refine (HNU.out w5 HK5.out (l.drop 15) 2 HR5.out (by omega) (by omega) (by have h := HL.out; rw [List.length_drop]; omega)).mono ?_
  rintro e w6 ⟨rfl, hr, hk⟩
  rw [List.drop_drop] at hr
  have HR6 := hid hr
  have HK6 := hid (HK5.out.then hk (fun i h _ => h))
  have HKW6 := hid (HKW5.out.then hk (fun i h _ => h))
  obtain ⟨n4, hn4⟩ : ∃ n, numI ((l.drop 15).take 2) = n := ⟨_, rfl⟩
  have HN4 := hid hn4
  rw [hn4]
  clear hr hk hn4
  go_wp2_with fail
  refine (HNU.out w6 HK6.out (l.drop 17) 2 HR6.out (by omega) (by omega) (by have h := HL.out; rw [List.length_drop]; omega)).mono ?_
  rintro e w7 ⟨rfl, hr, hk⟩
  rw [List.drop_drop] at hr
  have HR7 := hid hr
  have HK7 := hid (HK6.out.then hk (fun i h _ => h))
  have HKW7 := hid (HKW6.out.then hk (fun i h _ => h))
  obtain ⟨n5, hn5⟩ : ∃ n, numI ((l.drop 17).take 2) = n := ⟨_, rfl⟩
  have HN5 := hid hn5
  rw [hn5]
  clear hr hk hn5
  have HH7 := hid (HHK.out w7 HKW7.out)
  obtain ⟨⟨b0, b1, b2, b3, b4, b5, b6, b7⟩, ⟨f0, f1, f2, f3, f4, f5, f6, f7⟩⟩ := hcells8 HH7.out
  go_wp2_with fail
  have hset5 := hset (hset (hset (hset (hset HH7.out 1 (.int .i64 n1)) 2 (.int .i64 n2)) 3 (.int .i64 n3)) 4 (.int .i64 n4)) 5 (.int .i64 n5)
  simp only [List.setIfInBounds_toArray, List.set_cons_zero, List.set_cons_succ] at hset5
  have HH8 := hid hset5
  have HK78 := hid (((((Keeps.one w7 hb 1 (.int .i64 n1)).setCell (p := ⟨hb, 2, none⟩) (fun _ => rfl) (.int .i64 n2)).setCell (p := ⟨hb, 3, none⟩) (fun _ => rfl) (.int .i64 n3)).setCell (p := ⟨hb, 4, none⟩) (fun _ => rfl) (.int .i64 n4)).setCell (p := ⟨hb, 5, none⟩) (fun _ => rfl) (.int .i64 n5))
  clear b0 b1 b2 b3 b4 b5 b6 b7 f0 f1 f2 f3 f4 f5 f6 f7 hset5
  generalize ((((w7.setCell ⟨hb, 1, none⟩ (.int .i64 n1)).setCell ⟨hb, 2, none⟩ (.int .i64 n2)).setCell ⟨hb, 3, none⟩ (.int .i64 n3)).setCell ⟨hb, 4, none⟩ (.int .i64 n4)).setCell ⟨hb, 5, none⟩ (.int .i64 n5) = w8 at *
  have HR8 := hid (HR7.out.away (by have h := HL.out; rw [List.length_drop]; omega) HH7.out (by simp) (by have h1 := HGL.out; have h2 := HB1.out; omega) HK78.out)
  have HN8 := hid (show NumAt w8 (bx + 1 + 1) bx g from by
    have hn := HN.out.keeps HK7.out
    have h2 := HB1.out
    have h3 := lt_of_heap HN.out.1
    have h4 := lt_of_heap hn.1
    exact ⟨HK78.out.heap hn.1 (fun e => by
      have e : bx + 1 + 1 = hb := e
      rw [e] at hn
      have h5 := hn.1.symm.trans HH7.out
      simp at h5), hn.2.1, HK78.out.heap hn.2.2.1 (fun e => by have e : bx = hb := e; omega), hn.2.2.2⟩)
  have HK8 := hid (show Keeps (fun b => b = g ∨ bx ≤ b) w w8 from ((HKA.out.mono (T := fun b => b = g ∨ bx ≤ b) (fun _ h _ => h.elim)).then HK7.out (fun i h _ => .inl h)).then HK78.out (fun i h _ => .inr (by have := HB1.out; have h : i = hb := h; omega)))
  have HRS8 := hid (HK78.out.heap (HK7.out.heap HRS.out (by have := HGL.out; show ¬ bx + 1 = g; omega)) (by have := HB1.out; show ¬ bx + 1 = hb; omega))
  clear HH HH7 HHK HK1 HK2 HK3 HK4 HK5 HK6 HK7 HK78 HKW3 HKW4 HKW5 HKW6 HKW7 HR1 HR2 HR3 HR4 HR5 HR6 HR7 HN HNX HNU HRS HKA
  have HNX := hid (fun (W : World) (hW : Keeps (· = g) w8 W) (l' : List UInt8) (s : Nat) (hr : RdAt W g base l') (h1 : 1 ≤ s) (h8 : s ≤ 8) (hl : s ≤ l'.length) => hnext_calls bx g base l' s W (HN8.out.keeps hW).2.2 hr h1 h8 hl)
  have HNU := hid (fun (W : World) (hW : Keeps (· = g) w8 W) (l' : List UInt8) (s : Nat) (hr : RdAt W g base l') (h1 : 1 ≤ s) (h8 : s ≤ 8) (hl : s ≤ l'.length) => number_calls (bx + 1 + 1) bx g base l' s W (HN8.out.keeps hW) hr h1 h8 hl)
  have hc3 : w8.cell? ⟨bx + 1 + 1, 0, none⟩ = some (.func (.func 66) #[] #[.pointer (some ⟨bx, 0, none⟩)]) := by simp [World.cell?, HN8.out.1]
  have HHK := hid (fun (W : World) (hW : Keeps (· = g) w8 W) => hcells8 (hW.heap HH8.out (by have h1 := HGL.out; have h2 := HB1.out; show ¬ hb = g; omega)))
  have HC3 := hid (fun (W : World) (hW : Keeps (· = g) w8 W) => hW.cell hc3 (by have h1 := HGL.out; show ¬ bx + 1 + 1 = g; omega))
  obtain ⟨n6, hn6⟩ : ∃ n, numI ((l.drop 19).take 8) = n := ⟨_, rfl⟩
  have HN6 := hid hn6
  obtain ⟨I0, hI0⟩ : ∃ n, numB ((l.drop 27).take 8) = n := ⟨_, rfl⟩
  have HI0 := hid hI0
  have HD1 := hid (HNU.out w8.drew ((Keeps.refl _ _).drew) (l.drop 19) 8 (HR8.out.kept (Keeps.refl NoB w8).drew) (by omega) (by omega) (by have h := HL.out; rw [List.length_drop]; omega))
  rw [List.drop_drop, hn6] at HD1
  have HD2 := hid (fun (W : World) (hW : Keeps (· = g) w8 W) (hr : RdAt W g base (l.drop 27)) => HNX.out W hW (l.drop 27) 8 hr (by omega) (by omega) (by have h := HL.out; rw [List.length_drop]; omega))
  rw [hI0] at HD2
  have e8 : ((8 : Nat) : Int) = 8 := rfl
  rw [e8] at HD1 HD2
  have tk1 : True := trivial
  have tk2 : True := trivial
  clear hn6 hI0 HNX HNU
  go_region_with (first | (have _t := tk1; with_reducible refine HD1.out.mono ?_; rintro e w9 ⟨rfl, hr9, hk9⟩; have HR9 := hid hr9; have HK9 := hid (((Keeps.refl (· = g) w8).drew).then hk9 (fun i h _ => h)); obtain ⟨⟨b0, b1, b2, b3, b4, b5, b6, b7⟩, ⟨f0, f1, f2, f3, f4, f5, f6, f7⟩⟩ := HHK.out w9 HK9.out; have c39 := HC3.out w9 HK9.out; clear hr9 hk9 tk1) | (have _t := tk2; with_reducible refine (HD2.out _ HK9.out HR9.out).mono ?_; rintro e w10 ⟨rfl, hr10, hk10⟩; rw [List.drop_drop] at hr10; have HR10 := hid hr10; have HK10 := hid (HK9.out.then hk10 (fun i h _ => h)); clear b0 b1 b2 b3 b4 b5 b6 b7 f0 f1 f2 f3 f4 f5 f6 f7 c39; obtain ⟨⟨b0, b1, b2, b3, b4, b5, b6, b7⟩, ⟨f0, f1, f2, f3, f4, f5, f6, f7⟩⟩ := HHK.out w10 HK10.out; clear hr10 hk10 tk2))
  all_goals
    have hh10 := HK10.out.heap HH8.out (by have h1 := HGL.out; have h2 := HB1.out; show ¬ hb = g; omega)
    have hset2 := hset (hset hh10 6 (.int .i64 n6)) 7 (.int .u64 (I0 : Int))
    simp only [List.setIfInBounds_toArray, List.set_cons_zero, List.set_cons_succ] at hset2
    have HKS := hid ((Keeps.one w10 hb 6 (.int .i64 n6)).setCell (p := ⟨hb, 7, none⟩) (fun _ => rfl) (.int .u64 (I0 : Int)))
    have HH10 := hid hh10
    have HH11 := hid hset2
    clear hset2 hh10 b0 b1 b2 b3 b4 b5 b6 b7 f0 f1 f2 f3 f4 f5 f6 f7
    generalize (w10.setCell ⟨hb, 6, none⟩ (.int .i64 n6)).setCell ⟨hb, 7, none⟩ (.int .u64 (I0 : Int)) = w11 at *
    have HR11 := hid (show RdAt w11 g base (l.drop 35) from HKS.out |> fun k => by
      exact rd_away HR10.out HH10.out (by simp) (by have h1 := HGL.out; have h2 := HB1.out; omega) k)
    have HRS11 := hid (HKS.out.heap (HK10.out.heap HRS8.out (by have := HGL.out; show ¬ bx + 1 = g; omega)) (by have := HB1.out; show ¬ bx + 1 = hb; omega))
    obtain ⟨⟨b0, b1, b2, b3, b4, b5, b6, b7⟩, _⟩ := hcells8 HH11.out
    obtain ⟨⟨r0, r1, r2, r3, r4, r5, r6, r7⟩, ⟨f0, f1, f2, f3, f4, f5, f6, f7⟩⟩ := hcells8 HRS11.out
    go_wp2_with fail
    have hfin := hid (set8_heap HRS11.out (.int .u64 (S0 : Int)) (.int .i64 n1) (.int .i64 n2) (.int .i64 n3) (.int .i64 n4) (.int .i64 n5) (.int .i64 n6) (.int .u64 (I0 : Int)))
    have hkf := hid (set8_keeps w11 (bx + 1) (.int .u64 (S0 : Int)) (.int .i64 n1) (.int .i64 n2) (.int .i64 n3) (.int .i64 n4) (.int .i64 n5) (.int .i64 n6) (.int .u64 (I0 : Int)))
    have hrf := hid (rd_away HR11.out HRS11.out (by simp) (by have h1 := HGL.out; omega) hkf.out)
    have HKf := hid (show Keeps (· = g) w _ from (((HK8.out.then HK10.out (fun i h _ => .inl h)).then HKS.out (fun i h _ => .inr (by have := HB1.out; have h : i = hb := h; omega))).then hkf.out (fun i h _ => .inr (by have h : i = bx + 1 := h; omega))).mono (fun i h hl => h.elim (fun h => h) (fun h => by have := HBX.out; omega)))
    unfold set8 at hfin hrf HKf
    refine bodyPost_ret (results_cell_row rfl _ _ (bx + 1) 50 _ (0, 0) _ rfl hfin.out huh rfl (by kernel_rfl)) rfl ?_
    refine ⟨?_, hrf.out, HKf.out⟩
    unfold Hd.val Hd.cells hdN
    rw [HS0.out, HN1.out, HN2.out, HN3.out, HN4.out, HN5.out, HN6.out, HI0.out]
end Go.Proofs.Ytnnkfopopanfjaa
