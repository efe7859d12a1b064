/- Numbers written as bytes, and read: the walks of package wire. Conditions: numbers fit, lengths that memory bears. -/
import Derived.Test.YtnnkfopopanfjaaCrc
set_option linter.unusedVariables false
set_option linter.unusedSimpArgs false
namespace Go.Proofs.Ytnnkfopopanfjaa
open Go.RowKit

/-- A writer at a block, and what was written. -/
def WrAt (w : World) (g base : Nat) (bs : List UInt8) : Prop := ∃ v, w.heap[g]? = some (.cells #[v] 115 (0, 0)) ∧ OwnB w base v bs ∧ (∀ k, v.ownBlock = some k → k ≠ g) ∧ base ≤ w.heap.size
theorem WrAt.kept {w w1 : World} {g base : Nat} {bs : List UInt8} (h : WrAt w g base bs) (hk : Keeps NoB w w1) : WrAt w1 g base bs := by
  obtain ⟨v, h1, h2, h3, h4⟩ := h
  exact ⟨v, hk.heap h1 (fun h => h), OwnInts.kept h2 hk, h3, Nat.le_trans h4 hk.size⟩
theorem wr_set {w w1 : World} {g base : Nat} {v v' : Value} {bs : List UInt8} (h1 : w.heap[g]? = some (.cells #[v] 115 (0, 0))) (hg : w.grownBy w1 v.ownBlock) (hv : ∀ k, v.ownBlock = some k → k ≠ g) (h2 : OwnB w1 base v' bs) (h3 : ∀ k, v'.ownBlock = some k → k ≠ g) (hb : base ≤ w.heap.size) : WrAt (w1.setCell ⟨g, 0, none⟩ v') g base bs := by
  have h5 : w1.heap[g]? = some (.cells #[v] 115 (0, 0)) := (Keeps.ofGrown hg).heap h1 (fun e => hv g e.symm rfl)
  refine ⟨v', ?_, OwnInts.keeps h2 (Keeps.one w1 g 0 v') (fun b hb e => h3 b hb e), h3, by have := hg.size; simp [World.setCell]; omega⟩
  show (w1.heap.modify g _)[g]? = _
  rw [Array.getElem?_modify, if_pos rfl, h5]; rfl

set_option maxHeartbeats 2000000 in
set_option maxRecDepth 20000 in
theorem put_calls (g base : Nat) (bs : List UInt8) (n : Nat) (size : Nat) (w : World) (h : WrAt w g base bs) (h1 : 1 ≤ size) (h8 : size ≤ 8) (hn : n < 256 ^ size) (hn64 : n < 18446744073709551616) (hm : bs.length ≤ 1073741824) :
    Calls Try.prog 58 #[.pointer (some ⟨g, 0, none⟩), .int .u64 (n : Int), .int .i64 (size : Int)] w fun e w' => e = .returned (.bool true) ∧ WrAt w' g base (bs ++ beN size n) ∧ Keeps (fun k => k = g ∨ base ≤ k) w w' := by
  have hui := Try.underlying25
  have HW := hid h
  have n0 : (0 : Int) ≤ (n : Int) := by omega
  have n1 : (n : Int) ≤ 18446744073709551615 := by omega
  have s0 : (1 : Int) ≤ (size : Int) := by omega
  have s1 : (size : Int) ≤ 8 := by omega
  clear h
  have dz : ((n : Int) / 2 ^ (8 * size) != 0) = false := by
    have : n / 2 ^ (8 * size) = 0 := by
      apply Nat.div_eq_of_lt
      rw [Nat.pow_mul]; exact hn
    have e : (n : Int) / 2 ^ (8 * size) = ((n / 2 ^ (8 * size) : Nat) : Int) := by simp
    rw [e, this]; rfl
  have hbl := hid (beN_length size n)
  have hbt := hid (fun k hk => beN_take size n k hk)
  have hb0 := hid (show bs ++ (beN size n).take 0 = bs by simp)
  have hbN := hid (show bs ++ (beN size n).take size = bs ++ beN size n by rw [List.take_of_length_le (by rw [beN_length]; exact Nat.le_refl _)])
  obtain ⟨v0, hv0, hv1, hv2, _⟩ := HW.out
  have c0 : w.cell? ⟨g, 0, none⟩ = some v0 := by simp [World.cell?, hv0]
  clear hv0 hv1 hv2 hn
  go_enter Try.func58, Try.ntmps58
  by_cases h8' : size < 8
  case' pos => have d0 : decide ((size : Int) < 8) = true := decide_eq_true (by omega)
  case' neg => have d0 : decide ((size : Int) < 8) = false := decide_eq_false (by omega)
  all_goals
    go_wp2_with fail
    clear dz c0 d0
    go_loopw [7] (fun v7 wr => ∃ (j : Nat) (i : Int), j ≤ size ∧ -1 ≤ i ∧ i ≤ 7 ∧ v7 = .int .i64 i ∧ Hid (i = (size : Int) - 1 - (j : Int)) ∧ Hid (WrAt wr g base (bs ++ (beN size n).take j)) ∧ Hid (Keeps (fun k => k = g ∨ base ≤ k) w wr)) (fun v7 _ => (intOf v7 + 1).toNat)
    case atStart => exact ⟨0, (size : Int) - 1, by omega, by omega, by omega, rfl, hid (by omega), by rw [hb0.out]; exact HW, hid (Keeps.refl _ _)⟩
    case round =>
      obtain ⟨j, i, hj, hi0, hi1, rfl, HI, HWr, HK⟩ := hrel
      by_cases hlt : 0 ≤ i
      · obtain ⟨v, hv0, hv1, hv2, hbs⟩ := HWr.out
        have c0 : wr.cell? ⟨g, 0, none⟩ = some v := by simp [World.cell?, hv0]
        have HV0 := hid (show (wr.alloc (.cells #[.int .u8 ((n : Int) / 2 ^ (8 * i).toNat % 256)] 5)).heap[g]? = some (.cells #[v] 115 (0, 0)) from ((Keeps.refl NoB wr).alloc _).heap hv0 (fun h => h))
        have HV1 := hid (show OwnB (wr.alloc (.cells #[.int .u8 ((n : Int) / 2 ^ (8 * i).toNat % 256)] 5)) base v (bs ++ (beN size n).take j) from OwnInts.alloc hv1 _)
        have HV2 := hid hv2
        have hgl := hid (lt_of_heap hv0)
        have hj2 := hid (show j < size by have := HI.out; omega)
        obtain ⟨x, hx⟩ : ∃ x, UInt8.ofNat (n / 256 ^ (size - 1 - j)) = x := ⟨_, rfl⟩
        have hbt2 := hid (show (bs ++ (beN size n).take j) ++ [x] = bs ++ (beN size n).take (j + 1) by rw [hbt.out j hj2.out, hx, List.append_assoc])
        have hxv := hid (show (n : Int) / 2 ^ (8 * i).toNat % 256 = (x.toNat : Int) by
          have e1 : (8 * i).toNat = 8 * (size - 1 - j) := by have := HI.out; omega
          have e2 : (n : Int) / 2 ^ (8 * (size - 1 - j)) % 256 = ((n / 2 ^ (8 * (size - 1 - j)) % 256 : Nat) : Int) := by simp
          rw [e1, e2, Nat.pow_mul, ← hx]
          simp)
        have hlen := hid (show (bs ++ (beN size n).take j).length = bs.length + j by rw [List.length_append, List.length_take, hbl.out]; have := hj2.out; omega)
        have hsz := HK.out.size
        have hbg := hgl.out
        have hjs := hj2.out
        clear hv0 hv1 hv2 hx HWr
        go_wp2_with (at_builtin; go_must (refine wpList_appB _ rfl _ _ 25 rfl base hui v (bs ++ (beN size n).take j) rfl HV1.out (some ⟨wr.heap.size, 0, none⟩) 1 1 [x] rfl rfl (fun e => by cases e) (R := fun _ => True) ⟨IntsAt.ofBlock _ (by rw [hxv.out]; exact heap_alloc_new wr _) (by simp [enc8]), fun _ _ _ _ => trivial⟩ (bs.length + j) hlen.out (by omega) (by simp; omega) ?_); intro v4 w4 hown4 hgr4; have hv4 := hid ((Keeps.ofGrown hgr4).heap HV0.out (fun e => HV2.out g e.symm rfl)); have c4 : w4.cell? ⟨g, 0, none⟩ = some v := (by simp [World.cell?, hv4.out]); have f4 : w4.frozen? ⟨g, 0, none⟩ = false := (by simp [World.frozen?, hv4.out]); obtain ⟨A4, k4, e4, _⟩ := OwnB.reads hown4; generalize ((bs ++ (beN size n).take j) ++ [x]).length = l4 at e4; subst e4; have HO4 := hid hown4; have HG4 := hid hgr4; clear c0 hown4 hgr4)
        go_roundw
        case rel =>
          have hne : ∀ k, (Value.slice A4 l4 k4).ownBlock = some k → k ≠ g := fun k hk e => by
            subst e
            exact own_ne (show w4.ownsRow base 5 1 _ _ _ from HO4.out) hv4.out (by decide) hk
          exact ⟨j + 1, i - 1, by have := hj2.out; omega, by omega, by omega, rfl, hid (by have := HI.out; omega), hid (by rw [← hbt2.out]; exact wr_set HV0.out HG4.out HV2.out HO4.out hne (by first | exact hbs | (simp; omega))), hid ((((HK.out.alloc _).grown HG4.out (fun k e hlt => .inr (OwnInts.base_le HV1.out k e.symm).1))).setCell (p := ⟨g, 0, none⟩) (fun _ => .inl rfl) _)⟩
        case measure => simp [intOf]; omega
      · go_wp2_with fail
        go_ret
        have hjz : j = size := by have := HI.out; omega
        subst hjz
        exact ⟨rfl, by rw [← hbN.out]; exact HWr.out, HK.out⟩

set_option maxHeartbeats 2000000 in
set_option maxRecDepth 20000 in
theorem wappend_calls (g base : Nat) (bs : List UInt8) (ls : List (List UInt8)) (A : Option Addr) (c : Nat) (R : Nat → Prop) (w : World) (h : WrAt w g base bs) (hb : RowsIn R w A ls) (hone : ls.length = 1) (hm : bs.length + ls.flatten.length ≤ 1073741824) :
    Calls Try.prog 59 #[.pointer (some ⟨g, 0, none⟩), .slice A ls.length c] w fun e w' => e = .returned (.tuple #[]) ∧ WrAt w' g base (bs ++ ls.flatten) ∧ Keeps (fun k => k = g ∨ base ≤ k) w w' := by
  have hui := Try.underlying25
  have HW := hid h
  have HR := hid hb
  have hlen := hb.len
  obtain ⟨m, hmm⟩ : ∃ m, ls.length = m := ⟨_, rfl⟩
  rw [hmm] at hlen ⊢
  have HM := hid hmm
  have hb0 := hid (show bs ++ (ls.take 0).flatten = bs by simp)
  have hbN := hid (show bs ++ (ls.take m).flatten = bs ++ ls.flatten by rw [← hmm, List.take_length])
  have hbt := hid (fun k (hk : k < ls.length) => (show (bs ++ (ls.take k).flatten) ++ gr ls k = bs ++ (ls.take (k + 1)).flatten by
    rw [List.take_succ_eq_append_getElem hk, List.flatten_append, gr_eq ls k hk, ← List.append_assoc]; simp))
  have hpre := hid (fun k => (show (ls.take k).flatten.length ≤ ls.flatten.length by
    have : ls.flatten = (ls.take k).flatten ++ (ls.drop k).flatten := by rw [← List.flatten_append, List.take_append_drop]
    rw [this, List.length_append]; omega))
  have hm1 : m ≤ 1 := by omega
  clear h hb hmm hone
  go_enter Try.func59, Try.ntmps59
  go_wp2_with fail
  go_loopw [5, 8] (fun _ v8 wr => ∃ k : Nat, k ≤ m ∧ v8 = .int .i64 (k : Int) ∧ Hid (k = 0 → wr = w) ∧ Hid (WrAt wr g base (bs ++ (ls.take k).flatten)) ∧ Hid (Keeps (fun k => k = g ∨ base ≤ k) w wr)) (fun _ v8 _ => m - (intOf v8).toNat)
  case atStart => exact ⟨0, Nat.zero_le _, rfl, hid (fun _ => rfl), by rw [hb0.out]; exact HW, hid (Keeps.refl _ _)⟩
  case round =>
    obtain ⟨k, hk, rfl, HE, HWr, HK⟩ := hrel
    by_cases hlt : k < m
    · obtain ⟨b1, o1, rfl, hRb, hc⟩ := (show RowsIn R wr A ls by rw [HE.out (by omega)]; exact HR.out).2 (by rw [HM.out]; omega)
      obtain ⟨u1, h1, B1, d1, rfl, hd1, hz1, r1⟩ := hc k (by rw [HM.out]; exact hlt)
      obtain ⟨v, hv0, hv1, hv2, hbs⟩ := HWr.out
      have c0 : wr.cell? ⟨g, 0, none⟩ = some v := by simp [World.cell?, hv0]
      have HV0 := hid hv0
      have HV1 := hid hv1
      have HV2 := hid hv2
      have hbt2 := hid (hbt.out k (by rw [HM.out]; exact hlt))
      have hlen1 : (bs ++ (ls.take k).flatten).length + (gr ls k).length ≤ 1073741824 := by
        rw [← List.length_append, hbt2.out, List.length_append]
        have := hpre.out (k + 1); omega
      have HR1 := hid r1
      have HZ1 := hid hz1
      generalize bs ++ (ls.take k).flatten = cur at *
      generalize gr ls k = l at *
      obtain ⟨n, hn⟩ : ∃ n, l.length = n := ⟨_, rfl⟩
      obtain ⟨q, hq⟩ : ∃ q, cur.length = q := ⟨_, rfl⟩
      rw [hn] at h1 hd1 hlen1
      rw [hq] at hlen1
      have HN := hid hn
      have HQ := hid hq
      have q0 : (0 : Int) ≤ (k : Int) := by omega
      have q1 : (k : Int) < (m : Int) := by omega
      have hbg := lt_of_heap hv0
      clear hc hv0 hv1 hv2 HWr r1 hz1 hn hq hRb
      go_wp2_with (at_builtin; go_must (refine wpList_appB _ rfl _ _ 25 rfl base hui v cur rfl HV1.out B1 n d1 l rfl HN.out HZ1.out HR1.out q HQ.out (by omega) (by omega) ?_); intro v4 w4 hown4 hgr4; have hv4 := hid ((Keeps.ofGrown hgr4).heap HV0.out (fun e => HV2.out g e.symm rfl)); have c4 : w4.cell? ⟨g, 0, none⟩ = some v := (by simp [World.cell?, hv4.out]); have f4 : w4.frozen? ⟨g, 0, none⟩ = false := (by simp [World.frozen?, hv4.out]); obtain ⟨A4, k4, e4, _⟩ := OwnB.reads hown4; generalize (cur ++ l).length = l4 at e4; subst e4; have HO4 := hid hown4; have HG4 := hid hgr4; clear c0 hown4 hgr4)
      go_roundw
      case rel =>
        have hne : ∀ k, (Value.slice A4 l4 k4).ownBlock = some k → k ≠ g := fun k hk e => by
          subst e
          exact own_ne (show w4.ownsRow base 5 1 _ _ _ from HO4.out) hv4.out (by decide) hk
        exact ⟨k + 1, by omega, by go_num, hid (fun e => by omega), hid (by rw [← hbt2.out]; exact wr_set HV0.out HG4.out HV2.out HO4.out hne (by first | exact hbs | (simp; omega))), hid ((HK.out.grown HG4.out (fun k e hlt => .inr (OwnInts.base_le HV1.out k e.symm).1)).setCell (p := ⟨g, 0, none⟩) (fun _ => .inl rfl) _)⟩
      case measure => simp [intOf]; omega
    · obtain rfl : k = m := by omega
      go_wp2_with fail
      go_end0
      exact ⟨rfl, by rw [← hbN.out]; exact HWr.out, HK.out⟩

set_option maxHeartbeats 2000000 in
set_option maxRecDepth 20000 in
theorem wbytes_calls (g base : Nat) (bs : List UInt8) (w : World) (h : WrAt w g base bs) (hm : bs.length ≤ 1073741824) :
    Calls Try.prog 61 #[.pointer (some ⟨g, 0, none⟩)] w fun e w' => ∃ v, e = .returned v ∧ OwnB w' w.heap.size v bs ∧ Keeps NoB w w' := by
  have hui := Try.underlying25
  obtain ⟨v, hv0, hv1, hv2, _⟩ := h
  obtain ⟨A, c, e, hc, hA, hb⟩ := hv1.reads
  obtain ⟨n, hn⟩ : ∃ n, bs.length = n := ⟨_, rfl⟩
  rw [hn] at e hm hc
  subst e
  have HN := hid hn
  have HB := hid hb
  have HA := hid hA
  have c0 : w.cell? ⟨g, 0, none⟩ = some (.slice A n c) := by simp [World.cell?, hv0]
  clear hv0 hv1 hv2 hb hn hA
  go_enter Try.func61, Try.ntmps61
  go_wp2_with (at_builtin; go_must (refine wpList_appB _ rfl _ _ 25 rfl w.heap.size hui _ [] rfl (OwnInts.nil w w.heap.size .u8 5) A n c bs rfl HN.out HA.out HB.out 0 rfl (by omega) (by omega) ?_); intro v4 w4 hown4 hgr4)
  go_ret
  exact ⟨_, rfl, hown4, (Keeps.refl NoB w).grown hgr4 (fun i e _ => by cases e)⟩

/-- A reader at a block, and what isn't read yet. -/
def RdAt (w : World) (g base : Nat) (l : List UInt8) : Prop := ∃ A c, w.heap[g]? = some (.cells #[.slice A l.length c] 133 (0, 0)) ∧ l.length ≤ c ∧ (A = none → c = 0) ∧ BytesIn (fun b => base ≤ b ∧ b ≠ g) w A l ∧ base ≤ g
theorem RdAt.kept {w w1 : World} {g base : Nat} {l : List UInt8} (h : RdAt w g base l) (hk : Keeps NoB w w1) : RdAt w1 g base l := by
  obtain ⟨A, c, h1, h2, h3, h4, h5⟩ := h
  exact ⟨A, c, hk.heap h1 (fun h => h), h2, h3, h4.kept hk, h5⟩
set_option maxHeartbeats 2000000 in
set_option maxRecDepth 20000 in
theorem read_calls (l : List UInt8) (A : Option Addr) (n c : Nat) (R : Nat → Prop) (w : World) (hn : l.length = n) (hA : A = none → c = 0) (h : BytesIn R w A l) (hm : n ≤ 1073741824) :
    Calls Try.prog 43 #[.slice A n c] w fun e w' => ∃ g, e = .returned (.pointer (some ⟨g, 0, none⟩)) ∧ RdAt w' g w.heap.size l ∧ Keeps NoB w w' := by
  have hui := Try.underlying25
  have HN := hid hn
  have HB := hid h
  have HA := hid hA
  clear hn h hA
  go_enter Try.func43, Try.ntmps43
  go_wp2_with (at_builtin; go_must (refine wpList_appB _ rfl _ _ 25 rfl w.heap.size hui _ [] rfl (OwnInts.nil w w.heap.size .u8 5) A n c l rfl HN.out HA.out HB.out 0 rfl (by omega) (by omega) ?_); intro v4 w4 hown4 hgr4; have HK4 := hid ((Keeps.refl NoB w).grown hgr4 (fun i e _ => by cases e)); obtain ⟨A4, k4, e4, hk4, hA4, hb4⟩ := OwnB.reads hown4; subst e4; have HB4 := hid hb4; have HA4 := hid hA4; have HO4 := hid hown4; clear hown4 hgr4 hb4 hA4)
  go_ret
  have hb5 := fun b hb => OwnInts.base_le HO4.out b hb
  exact ⟨_, rfl, ⟨A4, k4, heap_alloc_new w4 _, hk4, HA4.out, (HB4.out.kept ((Keeps.refl NoB w4).alloc _)).mono (fun b _ hb => ⟨(hb5 b hb).1, by have := (hb5 b hb).2; omega⟩), HK4.out.size⟩, HK4.out.alloc _⟩
end Go.Proofs.Ytnnkfopopanfjaa
