/- A packet's frame: the walk of frame.Encode. Conditions: the header may be, the payload is as long as a block. -/
import Derived.Test.YtnnkfopopanfjaaFrame
set_option linter.unusedVariables false
set_option linter.unusedSimpArgs false
namespace Go.Proofs.Ytnnkfopopanfjaa
open Go.RowKit

theorem cells9 {w : World} {b : Nat} {x0 x1 x2 x3 x4 x5 x6 x7 x8 : Value} {T : TypeId} {fr : Nat × Nat} (h : w.heap[b]? = some (.cells #[x0, x1, x2, x3, x4, x5, x6, x7, x8] T fr)) :
    w.cell? ⟨b, 0, none⟩ = some x0 ∧ w.cell? ⟨b, 1, none⟩ = some x1 ∧ w.cell? ⟨b, 2, none⟩ = some x2 ∧ w.cell? ⟨b, 3, none⟩ = some x3 ∧ w.cell? ⟨b, 4, none⟩ = some x4 ∧ w.cell? ⟨b, 5, none⟩ = some x5 ∧ w.cell? ⟨b, 6, none⟩ = some x6 ∧ w.cell? ⟨b, 7, none⟩ = some x7 ∧ w.cell? ⟨b, 8, none⟩ = some x8 := by
  simp [World.cell?, h]
/-- The numbers ahead of the payload, and how many bytes each has. -/
def itsH (S N B Q E F L I : Nat) : List (Nat × Nat) := [(16716, 2), (1, 1), (S, 8), (N, 4), (B, 2), (Q, 1), (E, 2), (F, 2), (L, 8), (I, 8)]
def itsTo (l : List (Nat × Nat)) (k : Nat) : List UInt8 := ((l.take k).map fun x => beN x.2 x.1).flatten
theorem itsTo_succ (l : List (Nat × Nat)) (k : Nat) (h : k < l.length) : itsTo l (k + 1) = itsTo l k ++ beN (l[k]).2 (l[k]).1 := by
  unfold itsTo
  rw [List.take_succ_eq_append_getElem h, List.map_append, List.flatten_append]
  simp
/-- Such numbers' cells in a block of them. -/
def itsCells (l : List (Nat × Nat)) : List Value := l.flatMap fun x => [.int .u64 (x.1 : Int), .int .i64 (x.2 : Int)]
theorem itsCells_at (l : List (Nat × Nat)) : ∀ (k : Nat) (h : k < l.length), (itsCells l)[k * 2]? = some (.int .u64 ((l[k]).1 : Int)) ∧ (itsCells l)[k * 2 + 1]? = some (.int .i64 ((l[k]).2 : Int)) := by
  induction l with
  | nil => intro k h; simp at h
  | cons x l ih =>
    intro k h
    have e : itsCells (x :: l) = .int .u64 (x.1 : Int) :: .int .i64 (x.2 : Int) :: itsCells l := rfl
    rw [e]
    cases k with
    | zero => exact ⟨rfl, rfl⟩
    | succ k =>
      have := ih k (by simpa using h)
      rw [show (k + 1) * 2 = k * 2 + 1 + 1 by omega]
      simpa using this
theorem itsTo_length (l : List (Nat × Nat)) (hl : ∀ x ∈ l, x.2 ≤ 8) (k : Nat) : (itsTo l k).length ≤ 8 * k := by
  induction k with
  | zero => simp [itsTo]
  | succ k ih =>
    by_cases h : k < l.length
    · rw [itsTo_succ l k h, List.length_append, beN_length]
      have := hl _ (List.getElem_mem h)
      omega
    · have : itsTo l (k + 1) = itsTo l k := by unfold itsTo; rw [List.take_of_length_le (by omega), List.take_of_length_le (by omega)]
      rw [this]; omega

set_option maxHeartbeats 4000000 in
set_option maxRecDepth 20000 in
theorem encode_calls (c : Nat) (h : Hd) (pay : List UInt8) (A : Option Addr) (cap : Nat) (R : Nat → Prop) (w : World) (hC : CodAt w c) (hok : h.ok) (hs : h.session < 18446744073709551616) (hi : h.id < 18446744073709551616) (hp : BytesIn R w A pay) (hl : (pay.length : Int) = h.par.b) (hA : A = none → cap = 0) (hcap : pay.length ≤ cap) :
    Calls Try.prog 36 #[.pointer (some ⟨c, 0, none⟩), .agg #[.int .u64 (h.session : Int), .int .i64 h.par.n, .int .i64 h.par.b, .int .i64 h.par.q, .int .i64 h.par.eps, .int .i64 h.par.f, .int .i64 h.len, .int .u64 (h.id : Int), .slice A pay.length cap]] w fun e w' => ∃ v, e = .returned (.tuple #[v, .int .i64 0]) ∧ OwnB w' w.heap.size v (encN h pay) ∧ Keeps NoB w w' := by
  have hu := Try.underlying23
  have huh := Try.underlying50
  have HFC := hid (fcheck_calls h)
  have hfc := hid (show fchkN h = 0 by unfold fchkN; rw [hokB_true hok]; rfl)
  obtain ⟨tb, hC1, hC2⟩ := hC
  obtain ⟨S, N, B, Q, E, F, L, I, hS, hI, hN, hB, hQ, hE, hF, hL, hh⟩ : ∃ S N B Q E F L I : Nat, S < 18446744073709551616 ∧ I < 18446744073709551616 ∧ N ≤ 1048576 ∧ B ≤ 65535 ∧ Q ≤ 8 ∧ E ≤ 1000 ∧ F ≤ 4096 ∧ L ≤ 68718428160 ∧ h = ⟨S, ⟨(N : Int), (B : Int), (Q : Int), (E : Int), (F : Int)⟩, (L : Int), I⟩ := by
    obtain ⟨N', B', _, _, _, _, _, _, _, _, hNB, hNB2⟩ := par_sizes hok.1
    obtain ⟨⟨a1, a2, a3, a4, a5, a6, a7, a8, a9, a10, _⟩, b1, b2⟩ := hok
    obtain ⟨S, ⟨n, b, q, e, f⟩, len, I⟩ := h
    simp only at *
    rw [hNB] at b2
    exact ⟨S, n.toNat, b.toNat, q.toNat, e.toNat, f.toNat, len.toNat, I, hs, hi, by omega, by omega, by omega, by omega, by omega, by omega, by congr 1 <;> first | omega | (congr 1 <;> omega)⟩
  have HL38 := hid (show (headN h ++ pay).length = 38 + B by rw [List.length_append, headN_length]; rw [hh] at hl; simp only at hl; omega)
  have hits := hid (show itsTo (itsH S N B Q E F L I) 10 = headN h by rw [hh]; simp [itsTo, itsH, headN])
  have hcl : h.cells = #[.int .u64 (S : Int), .int .i64 (N : Int), .int .i64 (B : Int), .int .i64 (Q : Int), .int .i64 (E : Int), .int .i64 (F : Int), .int .i64 (L : Int), .int .u64 (I : Int)] := by rw [hh]; rfl
  have hpl : pay.length = B := by rw [hh] at hl; simp only at hl; omega
  unfold Hd.val at HFC
  rw [hcl] at HFC
  rw [show (#[.int .u64 (h.session : Int), .int .i64 h.par.n, .int .i64 h.par.b, .int .i64 h.par.q, .int .i64 h.par.eps, .int .i64 h.par.f, .int .i64 h.len, .int .u64 (h.id : Int), .slice A pay.length cap] : Array Value) = #[.int .u64 (S : Int), .int .i64 (N : Int), .int .i64 (B : Int), .int .i64 (Q : Int), .int .i64 (E : Int), .int .i64 (F : Int), .int .i64 (L : Int), .int .u64 (I : Int), .slice A B cap] by rw [hh, hpl]]
  rw [hpl] at hcap
  have HPL := hid hpl
  have HP := hid hp
  have HA := hid hA
  have hitl := hid (show (itsH S N B Q E F L I).length = 10 from rfl)
  have hitb := hid (show ∀ x ∈ itsH S N B Q E F L I, 1 ≤ x.2 ∧ x.2 ≤ 8 ∧ x.1 < 256 ^ x.2 ∧ x.1 < 18446744073709551616 by
    intro x hx
    simp only [itsH, List.mem_cons, List.not_mem_nil, or_false] at hx
    rcases hx with rfl | rfl | rfl | rfl | rfl | rfl | rfl | rfl | rfl | rfl <;> simp only <;> refine ⟨by omega, by omega, ?_, by omega⟩ <;> simp <;> omega)
  have hitc := hid (show itsCells (itsH S N B Q E F L I) = [.int .u64 16716, .int .i64 2, .int .u64 1, .int .i64 1, .int .u64 (S : Int), .int .i64 8, .int .u64 (N : Int), .int .i64 4, .int .u64 (B : Int), .int .i64 2, .int .u64 (Q : Int), .int .i64 1, .int .u64 (E : Int), .int .i64 2, .int .u64 (F : Int), .int .i64 2, .int .u64 (L : Int), .int .i64 8, .int .u64 (I : Int), .int .i64 8] from rfl)
  have hitn := hid (fun k => itsTo_length (itsH S N B Q E F L I) (fun x hx => (hitb.out x hx).2.1) k)
  generalize itsH S N B Q E F L I = its at *
  have HCC := hid hC1
  have HT := hid hC2
  have i1 : (0 : Int) ≤ (N : Int) := by omega
  have i2 : (0 : Int) ≤ (B : Int) := by omega
  have i3 : (0 : Int) ≤ (Q : Int) := by omega
  have i4 : (0 : Int) ≤ (E : Int) := by omega
  have i5 : (0 : Int) ≤ (F : Int) := by omega
  have i6 : (0 : Int) ≤ (L : Int) := by omega
  have j1 : (N : Int) ≤ 1048576 := by omega
  have j2 : (B : Int) ≤ 65535 := by omega
  have j3 : (Q : Int) ≤ 8 := by omega
  have j4 : (E : Int) ≤ 1000 := by omega
  have j5 : (F : Int) ≤ 4096 := by omega
  have j6 : (L : Int) ≤ 68718428160 := by omega
  have dB : ((B : Int) != (B : Int)) = false := by simp
  have HB := hid (heap_alloc_new w (.cells #[.int .u64 (S : Int), .int .i64 (N : Int), .int .i64 (B : Int), .int .i64 (Q : Int), .int .i64 (E : Int), .int .i64 (F : Int), .int .i64 (L : Int), .int .u64 (I : Int), .slice A B cap] 52))
  have HK := hid ((Keeps.refl NoB w).alloc (.cells #[.int .u64 (S : Int), .int .i64 (N : Int), .int .i64 (B : Int), .int .i64 (Q : Int), .int .i64 (E : Int), .int .i64 (F : Int), .int .i64 (L : Int), .int .u64 (I : Int), .slice A B cap] 52))
  obtain ⟨wa, hwa⟩ : ∃ wa, w.alloc (.cells #[.int .u64 (S : Int), .int .i64 (N : Int), .int .i64 (B : Int), .int .i64 (Q : Int), .int .i64 (E : Int), .int .i64 (F : Int), .int .i64 (L : Int), .int .u64 (I : Int), .slice A B cap] 52) = wa := ⟨_, rfl⟩
  rw [hwa] at HB HK
  obtain ⟨pb, hpb⟩ : ∃ pb, w.heap.size = pb := ⟨_, rfl⟩
  have HPB := hid hpb
  rw [hpb] at HB
  have HC0 := hid (fun (W : World) (hW : Keeps NoB wa W) => cells9 (hW.heap HB.out (fun h => h)))
  clear hC1 hC2 hh hcl hpl hl hp hA hS hI hN hB hQ hE hF hL hok hs hi
  go_enter Try.func36, Try.ntmps36
  obtain ⟨b0, b1, b2, b3, b4, b5, b6, b7, b8⟩ := HC0.out wa (Keeps.refl _ _)
  go_wp2_with fail
  refine (HFC.out _).mono ?_
  rintro e w1 ⟨rfl, HK1⟩
  rw [hfc.out]
  have HC1 := hid (fun (W : World) (hW : Keeps NoB w1 W) => HC0.out W (HK1.fresh hW))
  have HBP := hid (HK1.heap HB.out (fun h => h))
  have HK1 := hid (HK.out.fresh HK1)
  clear b0 b1 b2 b3 b4 b5 b6 b7 b8 hwa HC0
  obtain ⟨b0, b1, b2, b3, b4, b5, b6, b7, b8⟩ := HC1.out w1 (Keeps.refl _ _)
  go_upto_region 7 with fail
  have HW2 := hid (heap_alloc_new w1 (.cells #[.slice none 0 0] 115))
  have HK12 := hid ((Keeps.refl NoB w1).alloc (.cells #[.slice none 0 0] 115))
  have hg2 := hid (show w1.heap.size < (w1.alloc (.cells #[.slice none 0 0] 115)).heap.size by simp)
  generalize w1.alloc (.cells #[.slice none 0 0] 115) = w2 at *
  obtain ⟨gw, hgw⟩ : ∃ gw, w1.heap.size = gw := ⟨_, rfl⟩
  rw [hgw] at HW2 hg2 ⊢
  have hwr := hid (show ∀ (W : World) (base : Nat), Keeps NoB w2 W → base ≤ W.heap.size → WrAt W gw base (itsTo its 0) from fun W base hW hb => ⟨.slice none 0 0, hW.heap HW2.out (fun h => h), OwnInts.nil _ _ _ _, fun k hk => (by cases hk), hb⟩)
  have hgw1 := hid hgw
  clear b0 b1 b2 b3 b4 b5 b6 b7 b8 hgw HW2
  obtain ⟨b0, b1, b2, b3, b4, b5, b6, b7, b8⟩ := HC1.out w2 HK12.out
  go_wp2_with fail
  have HA3 := hid (heap_alloc_new w2 (.cells #[.int .u64 16716, .int .i64 2, .int .u64 1, .int .i64 1, .int .u64 (S : Int), .int .i64 8, .int .u64 (N : Int), .int .i64 4, .int .u64 (B : Int), .int .i64 2, .int .u64 (Q : Int), .int .i64 1, .int .u64 (E : Int), .int .i64 2, .int .u64 (F : Int), .int .i64 2, .int .u64 (L : Int), .int .i64 8, .int .u64 (I : Int), .int .i64 8] 116))
  have HK23 := hid ((Keeps.refl NoB w2).alloc (.cells #[.int .u64 16716, .int .i64 2, .int .u64 1, .int .i64 1, .int .u64 (S : Int), .int .i64 8, .int .u64 (N : Int), .int .i64 4, .int .u64 (B : Int), .int .i64 2, .int .u64 (Q : Int), .int .i64 1, .int .u64 (E : Int), .int .i64 2, .int .u64 (F : Int), .int .i64 2, .int .u64 (L : Int), .int .i64 8, .int .u64 (I : Int), .int .i64 8] 116))
  have hz3 := hid (World.size_alloc w2 (.cells #[.int .u64 16716, .int .i64 2, .int .u64 1, .int .i64 1, .int .u64 (S : Int), .int .i64 8, .int .u64 (N : Int), .int .i64 4, .int .u64 (B : Int), .int .i64 2, .int .u64 (Q : Int), .int .i64 1, .int .u64 (E : Int), .int .i64 2, .int .u64 (F : Int), .int .i64 2, .int .u64 (L : Int), .int .i64 8, .int .u64 (I : Int), .int .i64 8] 116))
  generalize w2.alloc (.cells #[.int .u64 16716, .int .i64 2, .int .u64 1, .int .i64 1, .int .u64 (S : Int), .int .i64 8, .int .u64 (N : Int), .int .i64 4, .int .u64 (B : Int), .int .i64 2, .int .u64 (Q : Int), .int .i64 1, .int .u64 (E : Int), .int .i64 2, .int .u64 (F : Int), .int .i64 2, .int .u64 (L : Int), .int .i64 8, .int .u64 (I : Int), .int .i64 8] 116) = w3 at *
  obtain ⟨ai, hai⟩ : ∃ ai, w2.heap.size = ai := ⟨_, rfl⟩
  rw [hai] at HA3 hz3 hg2 ⊢
  have HA3 := hid (show w3.heap[ai]? = some (.cells (itsCells its).toArray 116 (0, 0)) by rw [hitc.out]; exact HA3.out)
  have hg2 := hid hg2.out
  clear b0 b1 b2 b3 b4 b5 b6 b7 b8 hai hitc
  obtain ⟨z3, hz⟩ : ∃ z3, w3.heap.size = z3 := ⟨_, rfl⟩
  have hz3 := hid (show z3 = ai + 1 by rw [← hz]; exact hz3.out)
  have hwr3 := hid (hwr.out w3 z3 HK23.out (by omega))
  have HZ3 := hid hz
  clear hz hwr
  go_loopw [9, 71] (fun _ v71 wr => ∃ k : Nat, k ≤ 10 ∧ v71 = .int .i64 (k : Int) ∧ Hid (WrAt wr gw z3 (itsTo its k)) ∧ Hid (Keeps (fun b => b = gw ∨ z3 ≤ b) w3 wr)) (fun _ v71 _ => 10 - (intOf v71).toNat)
  case atStart => exact ⟨0, by omega, rfl, hwr3, hid (Keeps.refl _ _)⟩
  case round =>
    obtain ⟨k, hk, rfl, HWr, HK3⟩ := hrel
    by_cases hlt : k < 10
    · have ha := hid (HK3.out.heap HA3.out (fun e => by have := hg2.out; have := hz3.out; omega))
      obtain ⟨ic1, ic2⟩ := itsCells_at its k (by rw [hitl.out]; exact hlt)
      have hit := hid (hitb.out _ (List.getElem_mem (by rw [hitl.out]; exact hlt : k < its.length)))
      have hsu := hid (itsTo_succ its k (by rw [hitl.out]; exact hlt))
      have hln := hitn.out k
      generalize its[k]'(by rw [hitl.out]; exact hlt) = x at *
      obtain ⟨xn, xs⟩ := x
      simp only at ic1 ic2 hit hsu
      have c1 : wr.cell? ⟨ai, k * 2, none⟩ = some (.int .u64 (xn : Int)) := by simp [World.cell?, ha.out, ic1]
      have c2 : wr.cell? ⟨ai, k * 2 + 1, none⟩ = some (.int .i64 (xs : Int)) := by simp [World.cell?, ha.out, ic2]
      have q0 : (0 : Int) ≤ (k : Int) := by omega
      have q1 : (k : Int) < 10 := by omega
      clear ic1 ic2 ha
      go_wp2_with fail
      refine (put_calls gw z3 (itsTo its k) xn xs _ (HWr.out.kept ((Keeps.refl NoB wr).alloc _)) hit.out.1 hit.out.2.1 hit.out.2.2.1 hit.out.2.2.2 (by omega)).mono ?_
      rintro e w5 ⟨rfl, HW5, HK5⟩
      have HW5 := hid HW5
      have HK35 := hid ((HK3.out.alloc _).then HK5 (fun i hi _ => hi))
      clear HK5 c1 c2
      go_wp2_with fail
      go_roundw
      case rel => exact ⟨k + 1, by omega, by go_num, hid (by rw [hsu.out]; exact HW5.out), HK35⟩
      case measure => simp [intOf]; omega
    · obtain rfl : k = 10 := by omega
      rw [hits.out] at HWr
      have hpg := hid (lt_of_heap HBP.out)
      have HB5 := hid (HK3.out.heap (HK23.out.heap (HK12.out.heap HBP.out (fun h => h)) (fun h => h)) (fun e => by have := hpg.out; have := hgw1.out; have := hg2.out; have := hz3.out; omega))
      have HK5 := hid ((((HK1.out.fresh HK12.out).fresh HK23.out).then HK3.out (fun i hi hlt => by have := hpg.out; have := HPB.out; have := hgw1.out; have := hg2.out; have := hz3.out; have := HK1.out.size; omega) : Keeps NoB w wr))
      have c8 : wr.cell? ⟨pb, 8, none⟩ = some (.slice A B cap) := (cells9 HB5.out).2.2.2.2.2.2.2.2
      clear HB5 HK3
      go_wp2_with fail
      have HK56 := hid ((Keeps.refl NoB wr).alloc (.cells #[.slice A B cap] 25))
      have HAP := hid (wappend_calls gw z3 (headN h) [pay] (some ⟨wr.heap.size, 0, none⟩) 1 (fun _ => True) (wr.alloc (.cells #[.slice A B cap] 25)) (HWr.out.kept HK56.out) (RowsIn.one (heap_alloc_new wr _) HPL.out hcap HA.out trivial (((HP.out.kept HK5.out).kept HK56.out).mono (fun _ _ _ => trivial))) rfl (by rw [headN_length]; simp [HPL.out]; omega))
      rw [show [pay].flatten = pay by simp] at HAP
      generalize wr.alloc (.cells #[.slice A B cap] 25) = w6 at *
      refine HAP.out.mono ?_
      rintro e w5 ⟨rfl, HW5, HK6⟩
      have HKw := hid ((((HK5.out.fresh HK56.out).then HK6 (fun i hi hlt => by have := hpg.out; have := HPB.out; have := hgw1.out; have := hg2.out; have := hz3.out; have := HK1.out.size; omega) : Keeps NoB w w5)))
      have HCB := hid (fun (W : World) (hW : Keeps NoB w5 W) => (show W.cell? ⟨c, 0, none⟩ = some (.pointer (some ⟨tb, 0, none⟩)) by have := hW.heap (HKw.out.heap HCC.out (fun h => h)) (fun h => h); simp [World.cell?, this]))
      have HT := hid (CrcAt.kept HT.out HKw.out (fun h => h))
      have HWB := hid (fun (W : World) (hW : Keeps NoB w5 W) => wbytes_calls gw z3 (headN h ++ pay) W (HW5.kept hW) (by rw [HL38.out]; omega))
      have HKd := hid (Keeps.refl NoB w5).drew
      clear HW5 HK6 HAP HK56 HK5 c8 HWr
      go_wp2_with fail
      refine wp_region_list [([], [85], []), ([0], [86], [85]), ([0, 1], [87], [85, 86]), ([0, 1, 2], [88], [85, 86, 87]), ([], [89], []), ([0, 1, 2, 3, 4], [90], [85, 86, 87, 88, 89]), ([0, 1, 2, 3, 4, 5], [4], [85, 86, 87, 88, 89, 90]), ([0, 1, 2, 3, 4, 5, 6], [5], [85, 86, 87, 88, 89, 90, 4])] [85, 86, 87, 88, 89, 90, 4, 5] (Keeps NoB) (fun (i : Nat) => ([(fun s U => (s.getD 0 undef) = Value.pointer (some ⟨c, 0, none⟩)), (fun s U => (s.getD 0 undef) = Value.pointer (some ⟨c, 0, none⟩)), (fun s U => (s.getD 0 undef) = Value.pointer (some ⟨c, 0, none⟩)), (fun s U => (s.getD 0 undef) = Value.pointer (some ⟨tb, 0, none⟩)), (fun s U => ∃ A4 c4, (s.getD 0 undef) = Value.slice A4 (38 + B) c4 ∧ Hid (38 + B ≤ c4 ∧ (A4 = none → c4 = 0) ∧ BytesIn (fun _ => True) U A4 (headN h ++ pay))), (fun s U => Hid (OwnB U w.heap.size (s.getD 0 undef) (encN h pay))), (fun s U => Hid (OwnB U w.heap.size (s.getD 0 undef) (encN h pay))), (fun s U => (s.getD 0 undef) = Value.int .i64 0)] : List (List Value → World → Prop)).getD i (fun _ _ => True)) (by kernel_rfl) (by kernel_rfl) (by kernel_rfl) (fun _ _ _ h1 h2 => h1.fresh h2) (fun _ => Keeps.refl _ _) (RL.cons ?s0 (RL.cons ?s1 (RL.cons ?s2 (RL.cons ?s3 (RL.cons ?s4 (RL.cons ?s5 (RL.cons ?s6 (RL.cons ?s7 (RL.nil _ _))))))))) ?fin
      case s0 =>
        intro V wx hE hd
        clear hd
        intro K hK
        simp only [rput, List.foldl_cons, List.foldl_nil, Act.put, List.setIfInBounds_toArray, List.set_cons_zero, List.set_cons_succ]
        go_simp; (with_reducible refine hK.out _ _ ?_ ?_); exact rfl; exact ⟨Keeps.refl _ _, rfl⟩
      case s1 =>
        intro V wx hE hd
        obtain ⟨u0, hb0, hu0, p0⟩ : ∃ U, Keeps NoB w5.drew U ∧ Keeps NoB U wx ∧ ((V 85) = Value.pointer (some ⟨c, 0, none⟩)) := hd 0 (by decide)
        clear hd
        clear hb0 hu0
        intro K hK
        simp only [rput, List.foldl_cons, List.foldl_nil, Act.put, List.setIfInBounds_toArray, List.set_cons_zero, List.set_cons_succ, p0]
        go_simp; (with_reducible refine hK.out _ _ ?_ ?_); exact rfl; exact ⟨Keeps.refl _ _, rfl⟩
      case s2 =>
        intro V wx hE hd
        obtain ⟨u1, hb1, hu1, p1⟩ : ∃ U, Keeps NoB w5.drew U ∧ Keeps NoB U wx ∧ ((V 86) = Value.pointer (some ⟨c, 0, none⟩)) := hd 1 (by decide)
        clear hd
        clear hb1 hu1
        intro K hK
        simp only [rput, List.foldl_cons, List.foldl_nil, Act.put, List.setIfInBounds_toArray, List.set_cons_zero, List.set_cons_succ, p1]
        go_simp; (with_reducible refine hK.out _ _ ?_ ?_); exact rfl; exact ⟨Keeps.refl _ _, rfl⟩
      case s3 =>
        intro V wx hE hd
        obtain ⟨u2, hb2, hu2, p2⟩ : ∃ U, Keeps NoB w5.drew U ∧ Keeps NoB U wx ∧ ((V 87) = Value.pointer (some ⟨c, 0, none⟩)) := hd 2 (by decide)
        clear hd
        clear hb2 hu2
        intro K hK
        simp only [rput, List.foldl_cons, List.foldl_nil, Act.put, List.setIfInBounds_toArray, List.set_cons_zero, List.set_cons_succ, p2]
        have c0 := HCB.out wx (HKd.out.fresh hE); go_simp; (with_reducible refine hK.out _ _ ?_ ?_); exact rfl; exact ⟨Keeps.refl _ _, rfl⟩
      case s4 =>
        intro V wx hE hd
        clear hd
        intro K hK
        simp only [rput, List.foldl_cons, List.foldl_nil, Act.put, List.setIfInBounds_toArray, List.set_cons_zero, List.set_cons_succ]
        go_simp; refine (HWB.out _ (HKd.out.fresh hE)).mono ?_; rintro e w4 ⟨v4, rfl, ho4, hk4⟩; obtain ⟨A4, c4, hv4, hc4, hA4, hb4⟩ := ho4.reads; rw [HL38.out] at hv4 hc4; subst hv4; (with_reducible refine hK.out _ _ ?_ ?_); exact rfl; exact ⟨hk4, A4, c4, rfl, hid ⟨hc4, hA4, hb4.mono (fun _ _ _ => trivial)⟩⟩
      case s5 =>
        intro V wx hE hd
        obtain ⟨u3, hb3, hu3, p3⟩ : ∃ U, Keeps NoB w5.drew U ∧ Keeps NoB U wx ∧ ((V 88) = Value.pointer (some ⟨tb, 0, none⟩)) := hd 3 (by decide)
        obtain ⟨u4, hb4, hu4, p4⟩ : ∃ U, Keeps NoB w5.drew U ∧ Keeps NoB U wx ∧ (∃ A4 c4, (V 89) = Value.slice A4 (38 + B) c4 ∧ Hid (38 + B ≤ c4 ∧ (A4 = none → c4 = 0) ∧ BytesIn (fun _ => True) U A4 (headN h ++ pay))) := hd 4 (by decide)
        clear hd
        clear hb3 hu3
        obtain ⟨A4, c4, q4, hb4⟩ := p4
        intro K hK
        simp only [rput, List.foldl_cons, List.foldl_nil, Act.put, List.setIfInBounds_toArray, List.set_cons_zero, List.set_cons_succ, p3, q4]
        go_simp; refine (seal_calls tb (headN h ++ pay) A4 (38 + B) c4 (fun _ => True) _ (HT.out.kept (HKd.out.fresh hE) (fun h => h)) HL38.out hb4.out.1 hb4.out.2.1 (hb4.out.2.2.kept hu4) (by omega)).mono ?_; rintro e w5 ⟨v5, rfl, ho5, hk5⟩; (with_reducible refine hK.out _ _ ?_ ?_); exact rfl; exact ⟨hk5, hid (OwnInts.lower ho5 (by have := (HKd.out.fresh hE).size; have := HKw.out.size; omega))⟩
      case s6 =>
        intro V wx hE hd
        obtain ⟨u5, hb5, hu5, p5⟩ : ∃ U, Keeps NoB w5.drew U ∧ Keeps NoB U wx ∧ (Hid (OwnB U w.heap.size (V 90) (encN h pay))) := hd 5 (by decide)
        clear hd
        intro K hK
        simp only [rput, List.foldl_cons, List.foldl_nil, Act.put, List.setIfInBounds_toArray, List.set_cons_zero, List.set_cons_succ]
        go_simp; (with_reducible refine hK.out _ _ ?_ ?_); exact rfl; exact ⟨Keeps.refl _ _, hid (OwnInts.kept p5.out hu5)⟩
      case s7 =>
        intro V wx hE hd
        clear hd
        intro K hK
        simp only [rput, List.foldl_cons, List.foldl_nil, Act.put, List.setIfInBounds_toArray, List.set_cons_zero, List.set_cons_succ]
        go_simp; (with_reducible refine hK.out _ _ ?_ ?_); exact rfl; exact ⟨Keeps.refl _ _, rfl⟩
      case fin =>
        intro V wz hE hd
        obtain ⟨u6, hb6, hu6, p6⟩ : ∃ U, Keeps NoB w5.drew U ∧ Keeps NoB U wz ∧ (Hid (OwnB U w.heap.size (V 4) (encN h pay))) := hd 6 (by decide)
        obtain ⟨u7, hb7, hu7, p7⟩ : ∃ U, Keeps NoB w5.drew U ∧ Keeps NoB U wz ∧ ((V 5) = Value.int .i64 0) := hd 7 (by decide)
        clear hd
        clear hb7 hu7
        simp only [rput, List.foldl_cons, List.foldl_nil, Act.put, List.setIfInBounds_toArray, List.set_cons_zero, List.set_cons_succ, p7]
        clear p7
        go_wp2_with fail
        go_ret2
        exact ⟨_, rfl, OwnInts.kept p6.out hu6, HKw.out.fresh (HKd.out.fresh hE)⟩
end Go.Proofs.Ytnnkfopopanfjaa
