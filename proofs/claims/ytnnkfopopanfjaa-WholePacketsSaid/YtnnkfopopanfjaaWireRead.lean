/- Numbers read off bytes: the walks of wire.Take, Cut. Conditions: there are as many. -/
import Derived.Test.YtnnkfopopanfjaaWire
set_option linter.unusedVariables false
set_option linter.unusedSimpArgs false
namespace Go.Proofs.Ytnnkfopopanfjaa
open Go.RowKit

theorem BytesIn.noneAt (R : Nat → Prop) (w : World) (A : Option Addr) : BytesIn R w A [] := ⟨⟨by simp [enc8], fun h => by simp [enc8] at h⟩, fun b off e h => by simp at h⟩
theorem BytesIn.dropAny {R : Nat → Prop} {w : World} {b o : Nat} {l : List UInt8} (h : BytesIn R w (some ⟨b, o, none⟩) l) (k : Nat) : BytesIn R w (some ⟨b, o + k, none⟩) (l.drop k) := by
  by_cases hk : k < l.length
  · exact BytesIn.drop h k hk
  · rw [List.drop_eq_nil_of_le (by omega)]; exact BytesIn.noneAt _ _ _
theorem or_byte64 (N : Nat) (x : UInt8) (h : N < 72057594037927936) : bits BinOp.or IntKind.u64 ((N : Int) * 256) (x.toNat : Int) = ((N * 256 + x.toNat : Nat) : Int) := by
  have hx := x.toNat_lt
  have e : (N : Int) * 256 = ((N * 256 : Nat) : Int) := by omega
  rw [e, u64_or_nat _ _ (by omega) (by omega)]
  congr 1
  have := Nat.two_pow_add_eq_or_of_lt (i := 8) (b := x.toNat) hx N
  rw [Nat.mul_comm N 256]
  exact this.symm
/-- What is left behind a reader. -/
theorem rd_set {w : World} {g base b o n c k : Nat} {l : List UInt8} (hg : w.heap[g]? = some (.cells #[.slice (some ⟨b, o, none⟩) n c] 133 (0, 0))) (hl : l.length = n) (hc : n ≤ c) (hb : BytesIn (fun b => base ≤ b ∧ b ≠ g) w (some ⟨b, o, none⟩) l) (hbg : base ≤ g) (hk : k ≤ n) (o' : Nat) (ho : o' = o + k ∨ k = n) :
    RdAt (w.setCell ⟨g, 0, none⟩ (.slice (some ⟨b, o', none⟩) (n - k) (c - k))) g base (l.drop k) := by
  refine ⟨some ⟨b, o', none⟩, c - k, ?_, ?_, (fun e => by cases e), ?_, hbg⟩
  · show (w.heap.modify g _)[g]? = _
    rw [Array.getElem?_modify, if_pos rfl, hg, List.length_drop, hl]; rfl
  · rw [List.length_drop, hl]; omega
  · rcases ho with rfl | rfl
    · exact (hb.dropAny k).keeps (Keeps.one w g 0 _) (fun b hb => hb.2)
    · rw [List.drop_eq_nil_of_le (by omega)]; exact BytesIn.noneAt _ _ _
set_option maxHeartbeats 2000000 in
set_option maxRecDepth 20000 in
theorem take_calls' (g base : Nat) (l : List UInt8) (size : Nat) (w : World) (h : RdAt w g base l) (h1 : 1 ≤ size) (h8 : size ≤ 8) (hl : size ≤ l.length) :
    Calls Try.prog 44 #[.pointer (some ⟨g, 0, none⟩), .int .i64 (size : Int)] w fun e w' => e = .returned (.tuple #[.int .u64 (numB (l.take size) : Int), .bool true]) ∧ RdAt w' g base (l.drop size) ∧ Keeps (· = g) w w' := by
  have hui := Try.underlying25
  obtain ⟨A, c, hv0, hc, hA, hb, hbg⟩ := h
  obtain ⟨b, o, rfl, hRb, hcl⟩ := hb.get (by omega)
  obtain ⟨n, hn⟩ : ∃ n, l.length = n := ⟨_, rfl⟩
  rw [hn] at hv0 hc hl hcl
  have hlen := hb.len
  rw [hn] at hlen
  have HN := hid hn
  have HB := hid hb
  have HV := hid hv0
  have HC := hid hcl
  have c0 : w.cell? ⟨g, 0, none⟩ = some (.slice (some ⟨b, o, none⟩) n c) := by simp [World.cell?, hv0]
  have f0 : w.frozen? ⟨g, 0, none⟩ = false := by simp [World.frozen?, hv0]
  have s0 : (1 : Int) ≤ (size : Int) := by omega
  have s1 : (size : Int) ≤ 8 := by omega
  have s2 : (size : Int) ≤ (n : Int) := by omega
  have s3 : (size : Int) ≤ (c : Int) := by omega
  have s4 : (0 : Int) ≤ (size : Int) := by omega
  have d0 : decide ((size : Int) < 1) = false := decide_eq_false (by omega)
  have d1 : decide ((8 : Int) < (size : Int)) = false := decide_eq_false (by omega)
  have d2 : decide ((n : Int) < (size : Int)) = false := decide_eq_false (by omega)
  have d2n : decide (n < size) = false := decide_eq_false (by omega)
  clear hv0 hb hn hcl hRb hA
  go_enter Try.func44, Try.ntmps44
  go_wp2_with fail
  go_loop [6, 8, 31] (fun v6 _ v31 => ∃ (j N : Nat), j ≤ size ∧ v31 = .int .i64 (j : Int) ∧ v6 = .int .u64 (N : Int) ∧ Hid (N = numB (l.take j))) (fun _ _ v31 => size - (intOf v31).toNat)
  case atStart => exact ⟨0, 0, Nat.zero_le _, rfl, rfl, hid rfl⟩
  case round =>
    obtain ⟨j, N, hj, rfl, rfl, HN2⟩ := hrel
    by_cases hlt : j < size
    · have x1 := HC.out j (by omega)
      have hnb := hid (numB_take l j (by rw [HN.out]; omega))
      obtain ⟨x, hx⟩ : ∃ x, gb l j = x := ⟨_, rfl⟩
      rw [hx] at x1 hnb
      have hN56 : N < 72057594037927936 := by
        rw [HN2.out]
        refine Nat.lt_of_lt_of_le (numB_take_lt l j) ?_
        exact Nat.le_trans (Nat.pow_le_pow_right (by decide) (by omega : j ≤ 7)) (by decide)
      have hor := hid (or_byte64 N x hN56)
      have n0 : (0 : Int) ≤ (N : Int) := by omega
      have n1 : (N : Int) ≤ 72057594037927935 := by omega
      have y0 : (0 : Int) ≤ (x.toNat : Int) := by omega
      have y1 : (x.toNat : Int) ≤ 255 := by have := x.toNat_lt; omega
      have j0 : (0 : Int) ≤ (j : Int) := by omega
      have j1 : (j : Int) < (size : Int) := by omega
      clear hx hN56
      go_wp2_with fail
      go_round
      case rel => exact ⟨j + 1, N * 256 + x.toNat, by omega, by go_num, by rw [hor.out], hid (by rw [hnb.out, HN2.out])⟩
      case measure => simp [intOf]; omega
    · obtain rfl : j = size := by omega
      clear d0 d1 d2 d2n hlt
      by_cases hcs : c = j
      · obtain rfl : n = j := by omega
        subst hcs
        have hrd := hid (rd_set HV.out HN.out hc HB.out hbg hl o (.inr rfl))
        rw [Nat.sub_self] at hrd
        go_wp2_with fail
        go_ret2
        exact ⟨by rw [← HN2.out]; rfl, hrd.out, Keeps.one w g 0 _⟩
      · go_wp2_with fail
        go_ret2
        exact ⟨by rw [← HN2.out]; rfl, rd_set HV.out HN.out hc HB.out hbg hl (o + j) (.inl rfl), Keeps.one w g 0 _⟩
set_option maxHeartbeats 2000000 in
set_option maxRecDepth 20000 in
theorem cut_calls' (g base : Nat) (l : List UInt8) (k : Nat) (w : World) (h : RdAt w g base l) (hl : k ≤ l.length) (hk0 : 1 ≤ k) (hm : l.length ≤ 1073741824) :
    Calls Try.prog 48 #[.pointer (some ⟨g, 0, none⟩), .int .i64 (k : Int)] w fun e w' => ∃ v, e = .returned (.tuple #[v, .bool true]) ∧ OwnB w' w.heap.size v (l.take k) ∧ RdAt w' g base (l.drop k) ∧ Keeps (· = g) w w' := by
  have hui := Try.underlying25
  obtain ⟨A, c, hv0, hc, hA, hb, hbg⟩ := h
  obtain ⟨b, o, rfl, hRb, hcl⟩ := hb.get (by omega)
  obtain ⟨n, hn⟩ : ∃ n, l.length = n := ⟨_, rfl⟩
  rw [hn] at hv0 hc hl hcl hm
  have HN := hid hn
  have HB := hid hb
  have HV := hid hv0
  have hlt := hid (show (l.take k).length = k by rw [List.length_take]; omega)
  have c0 : w.cell? ⟨g, 0, none⟩ = some (.slice (some ⟨b, o, none⟩) n c) := by simp [World.cell?, hv0]
  have f0 : w.frozen? ⟨g, 0, none⟩ = false := by simp [World.frozen?, hv0]
  have hgl := hid (lt_of_heap hv0)
  have s0 : (0 : Int) ≤ (k : Int) := by omega
  have s2 : (k : Int) ≤ (n : Int) := by omega
  have s3 : (k : Int) ≤ (c : Int) := by omega
  have d0 : decide ((k : Int) < 0) = false := decide_eq_false (by omega)
  have d2 : decide ((n : Int) < (k : Int)) = false := decide_eq_false (by omega)
  have d2n : decide (n < k) = false := decide_eq_false (by omega)
  clear hv0 hb hn hcl hRb hA
  by_cases hcs : c = k
  · obtain rfl : k = n := by omega
    obtain rfl : k = c := hcs.symm
    have hrd := hid (fun (W : World) (hV : W.heap[g]? = some (.cells #[.slice (some ⟨b, o, none⟩) k k] 133 (0, 0))) (hb : BytesIn (fun b => base ≤ b ∧ b ≠ g) W (some ⟨b, o, none⟩) l) => rd_set hV HN.out hc hb hbg hl o (.inr rfl))
    rw [Nat.sub_self] at hrd
    clear hcs
    go_enter Try.func48, Try.ntmps48
    go_wp2_with (at_builtin; go_must (refine wpList_appB _ rfl _ _ 25 rfl w.heap.size hui _ [] rfl (OwnInts.nil w w.heap.size .u8 5) (some ⟨b, o, none⟩) k k (l.take k) rfl hlt.out (fun e => by cases e) (HB.out.take k) 0 rfl (by omega) (by omega) ?_); intro v4 w4 hown4 hgr4; have HK4 := hid ((Keeps.refl NoB w).grown hgr4 (fun i e _ => by cases e)); have HV4 := hid (HK4.out.heap HV.out (fun h => h)); have c4 : w4.cell? ⟨g, 0, none⟩ = some (.slice (some ⟨b, o, none⟩) k k) := (by simp [World.cell?, HV4.out]); have f4 : w4.frozen? ⟨g, 0, none⟩ = false := (by simp [World.frozen?, HV4.out]); have HO4 := hid hown4; clear hown4 hgr4 c0 f0)
    go_ret2
    have hO := fun u => OwnInts.keeps HO4.out (Keeps.one w4 g 0 u) (fun b hb e => by have := (OwnInts.base_le HO4.out b hb).1; have := hgl.out; omega)
    have hKK := fun u => (HK4.out.mono (T := (· = g)) (fun _ h _ => h.elim)).then (Keeps.one w4 g 0 u) (fun i h _ => h)
    exact ⟨_, rfl, hO _, hrd.out _ HV4.out (HB.out.kept HK4.out), hKK _⟩
  · go_enter Try.func48, Try.ntmps48
    go_wp2_with (at_builtin; go_must (refine wpList_appB _ rfl _ _ 25 rfl w.heap.size hui _ [] rfl (OwnInts.nil w w.heap.size .u8 5) (some ⟨b, o, none⟩) k k (l.take k) rfl hlt.out (fun e => by cases e) (HB.out.take k) 0 rfl (by omega) (by omega) ?_); intro v4 w4 hown4 hgr4; have HK4 := hid ((Keeps.refl NoB w).grown hgr4 (fun i e _ => by cases e)); have HV4 := hid (HK4.out.heap HV.out (fun h => h)); have c4 : w4.cell? ⟨g, 0, none⟩ = some (.slice (some ⟨b, o, none⟩) n c) := (by simp [World.cell?, HV4.out]); have f4 : w4.frozen? ⟨g, 0, none⟩ = false := (by simp [World.frozen?, HV4.out]); have HO4 := hid hown4; clear hown4 hgr4 c0 f0)
    go_ret2
    have hO := fun u => OwnInts.keeps HO4.out (Keeps.one w4 g 0 u) (fun b hb e => by have := (OwnInts.base_le HO4.out b hb).1; have := hgl.out; omega)
    have hKK := fun u => (HK4.out.mono (T := (· = g)) (fun _ h _ => h.elim)).then (Keeps.one w4 g 0 u) (fun i h _ => h)
    exact ⟨_, rfl, hO _, rd_set HV4.out HN.out hc (HB.out.kept HK4.out) hbg hl (o + k) (.inl rfl), hKK _⟩
end Go.Proofs.Ytnnkfopopanfjaa
