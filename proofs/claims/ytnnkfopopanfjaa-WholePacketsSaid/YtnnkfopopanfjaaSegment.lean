/- An object, cut into blocks: the walk of segment.Split. Conditions: numbers are of their kinds. -/
import Derived.Test.YtnnkfopopanfjaaG2
import Derived.Test.YtnnkfopopanfjaaParams
import Derived.Test.YtnnkfopopanfjaaBox5
import Derived.Deep.RegionLaw
import Derived.Deep.RegionHeld3
import Derived.Deep.DrawnRows
set_option linter.unusedVariables false
namespace Go.Proofs.Ytnnkfopopanfjaa
open Go.RowKit
attribute [local go_sem ↓] Go.wp_at_zero Go.wp_at_succ

/-- A block of an object, with noughts behind its end. -/
def chunkN (B : Nat) (obj : List UInt8) (i : Nat) : List UInt8 := (List.range B).map fun k => gb obj (i * B + k)
def splitN (p : Par) (obj : List UInt8) : List (List UInt8) := (List.range p.n.toNat).map (chunkN p.b.toNat obj)
theorem chunkN_length (B : Nat) (obj : List UInt8) (i : Nat) : (chunkN B obj i).length = B := by simp [chunkN]
theorem splitN_length (p : Par) (obj : List UInt8) : (splitN p obj).length = p.n.toNat := by simp [splitN]
theorem gb_none (l : List UInt8) (j : Nat) (h : l.length ≤ j) : gb l j = 0 := by unfold gb; rw [List.getD_eq_getElem?_getD, List.getElem?_eq_none h]; rfl
theorem chunk_zero (B : Nat) (obj : List UInt8) (i : Nat) (h : obj.length ≤ i * B) : chunkN B obj i = List.replicate B 0 := by
  apply List.ext_getElem
  · simp [chunkN]
  · intro k h1 h2
    simp only [chunkN, List.getElem_map, List.getElem_range, List.getElem_replicate]
    exact gb_none _ _ (by omega)
theorem chunk_copy (B : Nat) (obj : List UInt8) (i n : Nat) (hn : n = min (obj.drop (i * B)).length (List.replicate B (0 : UInt8)).length) : (obj.drop (i * B)).take n ++ (List.replicate B (0 : UInt8)).drop n = chunkN B obj i := by
  rw [List.length_replicate, List.length_drop] at hn
  apply List.ext_getElem
  · simp [chunkN]; omega
  · intro k h1 h2
    simp only [chunkN, List.getElem_map, List.getElem_range]
    by_cases hk : k < n
    · rw [List.getElem_append_left (by simp; omega), List.getElem_take, List.getElem_drop, gb_eq _ _ (by omega)]
    · rw [List.getElem_append_right (by simp; omega)]
      simp only [List.getElem_drop, List.getElem_replicate]
      have : k < B := by rw [chunkN_length] at h2; exact h2
      exact (gb_none _ _ (by omega)).symm
theorem BytesIn.drop {R : Nat → Prop} {w : World} {b off : Nat} {l : List UInt8} (h : BytesIn R w (some ⟨b, off, none⟩) l) (k : Nat) (hk : k < l.length) : BytesIn R w (some ⟨b, off + k, none⟩) (l.drop k) := by
  obtain ⟨b', off', e, hR, hc⟩ := h.get (by omega)
  injection e with e; injection e with e1 e2
  subst e1 e2
  refine ⟨⟨?_, fun h0 => ⟨b, off + k, rfl, fun j hj => ?_⟩⟩, fun b2 o2 e2 _ => ?_⟩
  · have := h.len; rw [enc8_length, List.length_drop]; omega
  · rw [enc8_length, List.length_drop] at hj
    rw [gi_enc8 _ j (by rw [List.length_drop]; omega), Nat.add_assoc, hc (k + j) (by omega)]
    congr 4
    unfold gb
    rw [List.getD_eq_getElem?_getD, List.getD_eq_getElem?_getD, List.getElem?_drop]
  · injection e2 with e2; injection e2 with e3 _
    subst e3; exact hR
theorem OwnRows.cell {R : Nat → Prop} {w : World} {base g n c j : Nat} {ls : List (List UInt8)} (h : OwnRows R w base (.slice (some ⟨g, 0, none⟩) n c) ls) (hj : j < ls.length) : ∃ u, w.cell? ⟨g, j, none⟩ = some u := by
  obtain ⟨us, hl, hown, hr⟩ := h
  exact ⟨us[j]'(by omega), own_cell hown (List.getElem?_eq_getElem _)⟩
theorem OwnRows.free {R : Nat → Prop} {w : World} {base g n c : Nat} {ls : List (List UInt8)} (h : OwnRows R w base (.slice (some ⟨g, 0, none⟩) n c) ls) (j : Nat) : w.frozen? ⟨g, j, none⟩ = false := by
  obtain ⟨us, hl, hown, hr⟩ := h
  exact own_free hown j
/-- A new row is laid, put into a place, and filled. -/
theorem OwnRows.put {R : Nat → Prop} {w w1 w2 : World} {base g n c j g2 : Nat} {ls : List (List UInt8)} {u : Value} {l : List UInt8} (h : OwnRows R w base (.slice (some ⟨g, 0, none⟩) n c) ls) (hj : j < ls.length) (hk : Keeps NoB w w1) (hg2 : w.heap.size ≤ g2)
    (hk2 : Keeps (· = g2) (w1.setCell ⟨g, j, none⟩ u) w2) (hu : RowIn (fun b => R b ∧ b ≠ g) w2 u l) : OwnRows R w2 base (.slice (some ⟨g, 0, none⟩) n c) (ls.set j l) := by
  have hgl := (h.base_le g rfl).2
  obtain ⟨us, hl, hown, h3⟩ := h
  have hkg := Keeps.one w1 g j u
  refine ⟨us.set j u, by simp [hl], ?_, fun i x hx => ?_⟩
  · rw [List.length_set]
    exact own_keeps (own_set (own_keeps hown hk (fun _ _ h => h)) u) hk2 (fun b hb e => by
      have : g = b := by simpa [Value.ownBlock] using hb
      omega)
  · have hgr : gr (ls.set j l) i = if i = j then l else gr ls i := by
      unfold gr
      rw [List.getD_eq_getElem?_getD, List.getElem?_set]
      by_cases e : j = i
      · subst e; simp [hj]
      · rw [if_neg e, if_neg (fun h => e h.symm), List.getD_eq_getElem?_getD]
    rw [List.getElem?_set] at hx
    by_cases e : j = i
    · rw [if_pos e] at hx
      split at hx
      · cases hx
        rw [hgr, if_pos e.symm]
        refine hu.mono (fun b _ hb => ⟨hb.1, fun e => ?_⟩)
        have : g = b := by simpa [Value.ownBlock] using e
        exact hb.2 this.symm
      · cases hx
    · rw [if_neg e] at hx
      rw [hgr, if_neg (fun h => e h.symm)]
      have hlt : RowIn (fun b => (R b ∧ (Value.slice (some ⟨g, 0, none⟩) n c).ownBlock ≠ some b) ∧ b < w.heap.size) w x (gr ls i) := (h3 i x hx).mono (fun b h1 h2 => ⟨h2, h1⟩)
      exact (((hlt.keeps hk (fun _ _ h => h)).keeps hkg (fun b hb e => hb.1.2 (by rw [e]; rfl))).keeps hk2 (fun b hb e => by have := hb.2; omega)).mono (fun b _ hb => hb.1)
/-- 'copy' at a step of a region that draws its order. -/
theorem step_copyB {ops : Array Oper} {o : Oper} {a : Act} {w : World} {K : Act → World → Prop} {Q : Exit → Act → World → Prop} {E : Prop} (hgd : o.guard = none) (d s : Operand) (dT sT : TypeId)
    (ho : o.op = .call { callee := .builtin .copy, args := #[d, s], argTypes := #[dT, sT] }) (hu : Try.prog.underlying dT = some (.slice 5)) (base : Nat) (v : Value) (to b : List UInt8) (hd : a.eval d = v) (hown : OwnB w base v to) (R : Nat → Prop) (A : Option Addr) (m c : Nat)
    (hs : a.eval s = .slice A m c) (hm : b.length = m) (hb : BytesIn R w A b)
    (h : ∀ (n : Nat) (w' : World), n = min b.length to.length → OwnB w' base v (b.take n ++ to.drop n) → Keeps (fun k => v.ownBlock = some k) w w' → K (a.put o.dst (goInt n)) w') :
    if Region.wanted o (yielded ops a.tmps) = true then Oper.wp Try.prog o a w K Q else E := by
  have hw : Region.wanted o (yielded ops a.tmps) = true := by simp [Region.wanted, hgd]
  rw [if_pos hw]
  obtain ⟨n, w', hrun, h1, h2, h3⟩ := run_copy_bytes dT sT o.type hu hown c hb
  rw [hm] at hrun
  unfold Oper.wp
  simp [execOp, ho, resolve, invoke, builtin, hd, hs, hrun, Result.andThen]
  exact h n w' h1 h2 h3
set_option maxHeartbeats 800000 in
set_option maxRecDepth 20000 in
theorem most_calls (p : Par) (w : World) (hm : p.may) :
    Calls Try.prog 55 #[p.val] w fun e w' => e = .returned (.int .i64 (p.n * p.b)) ∧ Keeps NoB w w' := by
  have hu := Try.underlying23
  have hb := mul_bounds (a := p.n) (b := p.b) (A := 1048576) (B := 65535) (by unfold Par.may at hm; omega) hm.2.1 (by unfold Par.may at hm; omega) (by unfold Par.may at hm; omega)
  obtain ⟨m, hmm⟩ : ∃ m, p.n * p.b = m := ⟨_, rfl⟩
  rw [hmm] at hb ⊢
  have hw : IntKind.i64.wrap (p.n * p.b) = m := by rw [hmm]; exact IntWalk.i64_in _ (by omega)
  have hw2 : wrap64 (p.n * p.b) = m := by rw [hmm]; exact IntWalk.wrap64_in _ ⟨by omega, by omega⟩
  have HM := hid hmm
  clear hm hmm
  unfold Par.val
  go_enter Try.func55, Try.ntmps55
  go_wp2_with fail
  go_ret
  exact ⟨rfl, (Keeps.refl NoB w).alloc _⟩
set_option maxHeartbeats 800000 in
set_option maxRecDepth 20000 in
theorem split_no (p : Par) (A : Option Addr) (n c : Nat) (w : World) (hm : ¬ p.may) :
    Calls Try.prog 37 #[p.val, .slice A n c] w fun e w' => e = .returned (.tuple #[.slice none 0 0, .int .i64 1]) ∧ Keeps NoB w w' := by
  have hu := Try.underlying23
  have hc := hid (show checkN p = 1 by unfold checkN; rw [mayB_false hm]; rfl)
  clear hm
  unfold Par.val
  go_enter Try.func37, Try.ntmps37
  go_wp2_with fail
  refine (check_calls p _).mono ?_
  rintro e w1 ⟨rfl, HK1⟩
  rw [hc.out]
  have HK1 := hid (((Keeps.refl NoB w).alloc _).fresh HK1)
  go_wp2_with fail
  go_ret2
  exact ⟨rfl, HK1.out⟩
/-- Params that may be, in natural numbers. -/
theorem par_sizes {p : Par} (hm : p.may) : ∃ N B : Nat, p.n = (N : Int) ∧ p.b = (B : Int) ∧ p.n.toNat = N ∧ p.b.toNat = B ∧ 1 ≤ N ∧ N ≤ 1048576 ∧ 1 ≤ B ∧ B ≤ 65535 ∧ p.n * p.b = ((N * B : Nat) : Int) ∧ N * B ≤ 68718428160 := by
  obtain ⟨h1, h2, h3, h4, _⟩ := hm
  refine ⟨p.n.toNat, p.b.toNat, by omega, by omega, rfl, rfl, by omega, by omega, by omega, by omega, ?_, ?_⟩
  · rw [Int.natCast_mul, Int.toNat_of_nonneg (by omega), Int.toNat_of_nonneg (by omega)]
  · exact Nat.le_trans (Nat.mul_le_mul (by omega : p.n.toNat ≤ 1048576) (by omega : p.b.toNat ≤ 65535)) (by omega)
set_option maxHeartbeats 800000 in
set_option maxRecDepth 20000 in
theorem split_long (p : Par) (obj : List UInt8) (A : Option Addr) (c : Nat) (w : World) (hm : p.may) (hl : p.n * p.b < obj.length) (hlen : obj.length ≤ 9223372036854775807) :
    Calls Try.prog 37 #[p.val, .slice A obj.length c] w fun e w' => e = .returned (.tuple #[.slice none 0 0, .int .i64 10]) ∧ Keeps NoB w w' := by
  have hu := Try.underlying23
  have hc := hid (show checkN p = 0 by unfold checkN; rw [mayB_true hm]; rfl)
  have HM := hid hm
  obtain ⟨N, B, e1, e2, e3, e4, e5, e6, e7, e8, hNB, hNB2⟩ := par_sizes hm
  rw [hNB] at hl
  have HNB := hid hNB
  clear hm hNB e1 e2 e3 e4 e5 e6 e7 e8
  unfold Par.val
  go_enter Try.func37, Try.ntmps37
  go_wp2_with fail
  refine (check_calls p _).mono ?_
  rintro e w1 ⟨rfl, HK1⟩
  rw [hc.out]
  have hbox := hid (HK1.heap (heap_alloc_new w (.cells #[.int .i64 p.n, .int .i64 p.b, .int .i64 p.q, .int .i64 p.eps, .int .i64 p.f] 23)) (fun h => h))
  have HK1 := hid (((Keeps.refl NoB w).alloc _).fresh HK1)
  obtain ⟨b0, b1, b2, b3, b4⟩ := cells5 hbox.out
  go_wp2_with fail
  refine (most_calls p _ HM.out).mono ?_
  rintro e w2 ⟨rfl, HK2⟩
  rw [HNB.out]
  have d0 : decide (N * B < obj.length) = true := decide_eq_true (by omega)
  have d1 : decide (((N * B : Nat) : Int) < (obj.length : Int)) = true := decide_eq_true (by omega)
  generalize N * B = m at *
  go_wp2_with fail
  go_ret2
  exact ⟨rfl, HK1.out.fresh HK2⟩
/-- What is cut so far. -/
def cutN (N B : Nat) (obj : List UInt8) (k : Nat) : List (List UInt8) := (List.range N).map fun i => if i < k then chunkN B obj i else []
theorem cutN_length (N B : Nat) (obj : List UInt8) (k : Nat) : (cutN N B obj k).length = N := by simp [cutN]
theorem cutN_zero (N B : Nat) (obj : List UInt8) : cutN N B obj 0 = List.replicate N [] := by
  apply List.ext_getElem
  · simp [cutN]
  · intro i h1 h2; simp [cutN]
theorem cutN_full (N B : Nat) (obj : List UInt8) : cutN N B obj N = (List.range N).map (chunkN B obj) := by
  apply List.map_congr_left
  intro i hi
  rw [if_pos (List.mem_range.1 hi)]
theorem cutN_set (N B : Nat) (obj : List UInt8) (k : Nat) (hk : k < N) : (cutN N B obj k).set k (chunkN B obj k) = cutN N B obj (k + 1) := by
  apply List.ext_getElem
  · simp [cutN]
  · intro j h1 h2
    rw [List.getElem_set]
    simp only [cutN, List.getElem_map, List.getElem_range]
    by_cases e : k = j
    · subst e; rw [if_pos rfl, if_pos (by omega)]
    · rw [if_neg e]
      by_cases hj : j < k
      · rw [if_pos hj, if_pos (by omega)]
      · rw [if_neg hj, if_neg (by omega)]
set_option maxHeartbeats 2000000 in
set_option maxRecDepth 20000 in
theorem split_yes (p : Par) (obj : List UInt8) (A : Option Addr) (c : Nat) (R : Nat → Prop) (w : World) (hm : p.may) (ho : BytesIn R w A obj) (hcap : obj.length ≤ c) (hl : (obj.length : Int) ≤ p.n * p.b) :
    Calls Try.prog 37 #[p.val, .slice A obj.length c] w fun e w' => ∃ v, e = .returned (.tuple #[v, .int .i64 0]) ∧ OwnRows (fun b => w.heap.size ≤ b) w' w.heap.size v (splitN p obj) ∧ Keeps NoB w w' := by
  have hu := Try.underlying23
  have hus := Try.underlying32
  have hui := Try.underlying25
  have hc := hid (show checkN p = 0 by unfold checkN; rw [mayB_true hm]; rfl)
  have HM := hid hm
  have HO := hid ho
  have hlen := ho.len
  obtain ⟨N, B, hpn, hpb, hpn2, hpb2, hN1, hN2, hB1, hB2, hNB, hNB2⟩ := par_sizes hm
  rw [hNB] at hl
  have HNB := hid hNB
  have HPN := hid hpn
  have HPB := hid hpb
  have hsp := hid (show cutN N B obj N = splitN p obj by rw [cutN_full]; unfold splitN; rw [hpn2, hpb2])
  have hc0 := hid (cutN_zero N B obj)
  have hcl := hid (cutN_length N B obj)
  have hcs := hid (cutN_set N B obj)
  clear hm hNB ho hpn hpb hpn2 hpb2
  obtain ⟨i0, hi, hz0, hz1, hz2⟩ := info_parts info_bytes
  obtain ⟨i1, hi', hz0', hz1', hz2'⟩ := info_parts info_u8
  unfold Par.val
  go_enter Try.func37, Try.ntmps37
  go_wp2_with fail
  refine (check_calls p _).mono ?_
  rintro e w1 ⟨rfl, HK1⟩
  rw [hc.out]
  have hbox := hid (HK1.heap (heap_alloc_new w (.cells #[.int .i64 p.n, .int .i64 p.b, .int .i64 p.q, .int .i64 p.eps, .int .i64 p.f] 23)) (fun h => h))
  have HK1 := hid (((Keeps.refl NoB w).alloc _).fresh HK1)
  obtain ⟨b0, b1, b2, b3, b4⟩ := cells5 hbox.out
  go_wp2_with fail
  refine (most_calls p _ HM.out).mono ?_
  rintro e w2 ⟨rfl, HK2⟩
  rw [HNB.out]
  have hbox := hid (HK2.heap hbox.out (fun h => h))
  have HK2 := hid (HK1.out.fresh HK2)
  have hbx := hbox.out
  rw [HPN.out, HPB.out] at hbx
  have HBX := hid hbx
  have hblt := hid (lt_of_heap HBX.out)
  clear b0 b1 b2 b3 b4 hbx hbox HK1
  obtain ⟨b0, b1, b2, b3, b4⟩ := cells5 HBX.out
  have d0 : decide (N * B < obj.length) = false := decide_eq_false (by omega)
  have d1 : decide (((N * B : Nat) : Int) < (obj.length : Int)) = false := decide_eq_false (by omega)
  have hmul := hid (show ∀ i, i < N → i * B ≤ 68718428160 from fun i hi => Nat.le_trans (Nat.mul_le_mul_right B (Nat.le_of_lt hi)) hNB2)
  generalize N * B = m at *
  have hsz2 := HK2.out.size
  go_wp2_with (at_make; go_must (refine wpList_make_full _ rfl _ _ _ rfl w.heap.size 25 i0 (.slice none 0 0) 1 hus hi hz0 hz1 .i64 .i64 _ _ N rfl rfl rfl rfl (by rw [hz2]; omega) (by unfold maxLen; omega) hsz2 ?_); intro w3 hown3 hgr3)
  have HK3 := hid (HK2.out.grown hgr3 (fun i e => by cases e))
  have HBX := hid ((Keeps.ofGrown hgr3).heap HBX.out (fun e => by cases e))
  have hR0 := hid (show OwnRows (fun b => w.heap.size ≤ b) w3 w.heap.size _ _ from OwnRows.made hown3)
  clear hown3 hgr3 b0 b1 b2 b3 b4 d0 d1
  obtain ⟨g, hg⟩ : ∃ g, g = w2.heap.size := ⟨_, rfl⟩
  rw [← hg] at hR0 ⊢
  have hpg : w.heap.size ≠ g := by have := hblt.out; omega
  clear hg
  go_loopw [25] (fun v25 wr => ∃ k : Nat, k ≤ N ∧ v25 = .int .i64 (k : Int) ∧ Hid (OwnRows (fun b => w.heap.size ≤ b) wr w.heap.size (.slice (some ⟨g, 0, none⟩) N N) (cutN N B obj k)) ∧ Hid (wr.heap[w.heap.size]? = some (.cells #[.int .i64 (N : Int), .int .i64 (B : Int), .int .i64 p.q, .int .i64 p.eps, .int .i64 p.f] 23 (0, 0))) ∧ Hid (Keeps NoB w wr)) (fun v25 _ => N - (intOf v25).toNat)
  case atStart => exact ⟨0, Nat.zero_le _, rfl, by rw [hc0.out]; exact hR0, HBX, HK3⟩
  case round =>
    obtain ⟨k, hk, rfl, HR, HBX, HK⟩ := hrel
    by_cases hlt : k < N
    · obtain ⟨b0, b1, b2, b3, b4⟩ := cells5 HBX.out
      have hat' := hmul.out k hlt
      obtain ⟨L, hL⟩ : ∃ L, chunkN B obj k = L := ⟨_, rfl⟩
      have hset := hid (hcs.out k hlt)
      rw [hL] at hset
      have hz := hid (fun h => hL.symm.trans (chunk_zero B obj k h))
      have hcp := hid (fun n hn => (chunk_copy B obj k n hn).trans hL)
      have hLl := hid (show L.length = B by rw [← hL, chunkN_length])
      have hprod : (k : Int) * (B : Int) = ((k * B : Nat) : Int) := by simp
      obtain ⟨a, ha⟩ : ∃ a, k * B = a := ⟨_, rfl⟩
      rw [ha] at hprod hat' hz hcp
      have hz := hid hz.out
      have hcp := hid hcp.out
      obtain ⟨u0, hu0⟩ := HR.out.cell (j := k) (by rw [hcl.out]; exact hlt)
      have hgl := hid (HR.out.base_le g rfl).2
      have q0 : (0 : Int) ≤ (k : Int) := by omega
      have q1 : (k : Int) < (N : Int) := by omega
      clear ha hL
      by_cases hal : a < obj.length
      · have dal : decide (a < obj.length) = true := decide_eq_true hal
        have dal' : decide ((a : Int) < (obj.length : Int)) = true := decide_eq_true (by omega)
        go_wp2_with (at_make; go_must (refine wpList_make_full _ rfl _ _ _ rfl wr.heap.size 5 i1 (.int .u8 0) 1 hui hi' hz0' hz1' .i64 .i64 _ _ B rfl rfl rfl rfl (by rw [hz2']; omega) (by unfold maxLen; omega) (Nat.le_refl _) ?_); intro w4 hown4 hgr4; have HK4 := hid ((Keeps.refl NoB wr).grown hgr4 (fun i e => by cases e)); have c4 := HK4.out.cell hu0 (fun h => h); have f4 := (HR.out.kept HK4.out).free k; have d1 := HK4.out.cell b1 (fun h => h))
        have hO5 := HO.out.kept ((HK.out.fresh HK4.out))
        obtain ⟨bo, oo, rfl, _, _⟩ := HO.out.get (by omega)
        have HO5 := hid ((hO5.drop a hal).lt)
        have hB4 := OwnB.ofMake hown4
        have hne4 := hid (show ∀ b, (Value.slice (some ⟨wr.heap.size, 0, none⟩) B B).ownBlock = some b → wr.heap.size = b from fun b hb => by simpa [Value.ownBlock] using hb)
        have HB5 := hid (show OwnB (w4.setCell ⟨g, k, none⟩ (.slice (some ⟨wr.heap.size, 0, none⟩) B B)) wr.heap.size (.slice (some ⟨wr.heap.size, 0, none⟩) B B) (List.replicate B 0) from OwnInts.keeps hB4 (Keeps.one w4 g k _) (fun b hb e => by
          have := hne4.out b hb
          have := hgl.out; omega))
        have c5 : (w4.setCell ⟨g, k, none⟩ (.slice (some ⟨wr.heap.size, 0, none⟩) B B)).cell? ⟨g, k, none⟩ = some (.slice (some ⟨wr.heap.size, 0, none⟩) B B) := World.cell?_setCell_same' _ _ _ (by rw [c4]; rfl)
        have hK5 := hid (Keeps.one w4 g k (.slice (some ⟨wr.heap.size, 0, none⟩) B B))
        have HBX5 := hid (hK5.out.heap (HK4.out.heap HBX.out (fun h => h)) (fun e => hpg e))
        have HKW := hid ((HK.out.fresh HK4.out).setCell (p := ⟨g, k, none⟩) (fun hq => absurd (HR.out.base_le g rfl).1 (Nat.not_le.2 hq)) (.slice (some ⟨wr.heap.size, 0, none⟩) B B))
        have HOw := hid (show BytesIn (fun b => b < w.heap.size) (w4.setCell ⟨g, k, none⟩ (.slice (some ⟨wr.heap.size, 0, none⟩) B B)) (some ⟨bo, oo + a, none⟩) (obj.drop a) from (((HO.out.lt.mono (R' := fun b => b < w.heap.size) (fun b _ hb => hb.2)).drop a hal).kept (HK.out.fresh HK4.out)).keeps hK5.out (fun b hb e => by have := (HR.out.base_le g rfl).1; omega))
        have hdl := hid (show (obj.drop a).length = obj.length - a by rw [List.length_drop])
        have a0 : (0 : Int) ≤ (a : Int) := by omega
        have a1 : (a : Int) ≤ (obj.length : Int) := by omega
        have a2 : (a : Int) ≤ (c : Int) := by omega
        have a3 : ¬ c = a := by omega
        clear hO5 HO5 hown4 hgr4 hB4 c4 f4 d1 u0 hu0 b0 b1 b2 b3 b4
        generalize hw5 : w4.setCell ⟨g, k, none⟩ (.slice (some ⟨wr.heap.size, 0, none⟩) B B) = w5 at *
        have hw5 := hid hw5
        go_region_law ((refine step_copyB rfl _ _ 25 25 rfl hui wr.heap.size (.slice (some ⟨wr.heap.size, 0, none⟩) B B) (List.replicate B 0) (obj.drop a) rfl (by exact HB5.out) (fun b => b < w.heap.size) (some ⟨bo, oo + a, none⟩) _ _ rfl hdl.out (by exact HOw.out) ?_; intro n w6 hn6 hB6 hK6))
        all_goals go_wp2_with fail
        all_goals go_roundw
        case rel =>
          have hK6' : Keeps (· = wr.heap.size) w5 w6 := ((Keeps.refl NoB w5).drew.trans hK6 (fun _ _ h => h.elim) (fun i _ h => (hne4.out i h).symm) : Keeps (· = wr.heap.size) w5 w6)
          exact ⟨k + 1, by omega, by go_num, hid (by
            rw [← hset.out]
            refine HR.out.put (g2 := wr.heap.size) (by rw [hcl.out]; exact hlt) HK4.out (Nat.le_refl _) (by rw [hw5.out]; exact hK6') ?_
            rw [hcp.out n hn6] at hB6
            have hrow := hB6.row
            exact hrow.mono (fun b _ hb => by
              have := hne4.out b hb
              have := hgl.out; have := HK.out.size; exact ⟨by omega, by omega⟩)), hid (hK6'.heap HBX5.out (fun e => by have := lt_of_heap HBX.out; omega)), hid (HKW.out.then hK6' (fun i hi hlt => by have := HK.out.size; omega))⟩
        case measure => simp [intOf]; omega
      · have dal : decide (a < obj.length) = false := decide_eq_false hal
        have dal' : decide ((a : Int) < (obj.length : Int)) = false := decide_eq_false (by omega)
        go_wp2_with (at_make; go_must (refine wpList_make_full _ rfl _ _ _ rfl wr.heap.size 5 i1 (.int .u8 0) 1 hui hi' hz0' hz1' .i64 .i64 _ _ B rfl rfl rfl rfl (by rw [hz2']; omega) (by unfold maxLen; omega) (Nat.le_refl _) ?_); intro w4 hown4 hgr4; have HK4 := hid ((Keeps.refl NoB wr).grown hgr4 (fun i e => by cases e)); have c4 := HK4.out.cell hu0 (fun h => h); have f4 := (HR.out.kept HK4.out).free k; have d1 := HK4.out.cell b1 (fun h => h))
        go_roundw
        case rel => exact ⟨k + 1, by omega, by go_num, hid (by
          rw [← hset.out]
          refine HR.out.put (g2 := wr.heap.size) (by rw [hcl.out]; exact hlt) HK4.out (Nat.le_refl _) (Keeps.refl _ _) ?_
          have hB4 := OwnB.ofMake hown4
          have hB5 : OwnB (w4.setCell ⟨g, k, none⟩ (.slice (some ⟨wr.heap.size, 0, none⟩) B B)) wr.heap.size (.slice (some ⟨wr.heap.size, 0, none⟩) B B) (List.replicate B 0) := OwnInts.keeps hB4 (Keeps.one w4 g k _) (fun b hb e => by
            have : wr.heap.size = b := by simpa [Value.ownBlock] using hb
            have := hgl.out; omega)
          rw [hz.out (by omega)]
          exact hB5.row.mono (fun b _ hb => by
            have : wr.heap.size = b := by simpa [Value.ownBlock] using hb
            have := hgl.out; have := HK.out.size; exact ⟨by omega, by omega⟩)), hid (((Keeps.refl NoB _).trans HK4.out (fun _ _ h => h) (fun _ _ h => h : ∀ i, _ → NoB i → NoB i)).heap HBX.out (fun h => h) |> fun h => (Keeps.one w4 g k _).heap h (fun e => hpg e)), hid ((HK.out.fresh HK4.out).setCell (p := ⟨g, k, none⟩) (fun hq => absurd (HR.out.base_le g rfl).1 (Nat.not_le.2 hq)) _)⟩
        case measure => simp [intOf]; omega
    · obtain rfl : k = N := by omega
      go_wp2_with fail
      go_ret2
      exact ⟨_, rfl, by rw [← hsp.out]; exact HR.out, HK.out⟩
end Go.Proofs.Ytnnkfopopanfjaa
