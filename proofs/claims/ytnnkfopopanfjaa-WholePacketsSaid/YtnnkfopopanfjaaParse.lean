/- How a frame is read: the walk of frame.Parse. Conditions: lengths that memory bears. -/
import Derived.Test.YtnnkfopopanfjaaHeader
import Derived.Test.YtnnkfopopanfjaaParseMath
import Derived.Test.YtnnkfopopanfjaaEqAdd
set_option linter.unusedVariables false
set_option linter.unusedSimpArgs false
namespace Go.Proofs.Ytnnkfopopanfjaa
open Go.RowKit

/-- Nine cells of a block, written one behind the other. -/
def set9 (w : World) (b : Nat) (y0 y1 y2 y3 y4 y5 y6 y7 y8 : Value) : World := (set8 w b y0 y1 y2 y3 y4 y5 y6 y7).setCell ⟨b, 8, none⟩ y8
theorem set9_heap {w : World} {b : Nat} {x0 x1 x2 x3 x4 x5 x6 x7 x8 : Value} {T : TypeId} {fr : Nat × Nat} (h : w.heap[b]? = some (.cells #[x0, x1, x2, x3, x4, x5, x6, x7, x8] T fr)) (y0 y1 y2 y3 y4 y5 y6 y7 y8 : Value) :
    (set9 w b y0 y1 y2 y3 y4 y5 y6 y7 y8).heap[b]? = some (.cells #[y0, y1, y2, y3, y4, y5, y6, y7, y8] T fr) := by
  have := hset (hset (hset (hset (hset (hset (hset (hset (hset h 0 y0) 1 y1) 2 y2) 3 y3) 4 y4) 5 y5) 6 y6) 7 y7) 8 y8
  unfold set9 set8
  simpa using this
theorem set9_keeps (w : World) (b : Nat) (y0 y1 y2 y3 y4 y5 y6 y7 y8 : Value) : Keeps (· = b) w (set9 w b y0 y1 y2 y3 y4 y5 y6 y7 y8) := (set8_keeps w b y0 y1 y2 y3 y4 y5 y6 y7).setCell (p := ⟨b, 8, none⟩) (fun _ => rfl) y8
theorem hcells9 {w : World} {b : Nat} {x0 x1 x2 x3 x4 x5 x6 x7 x8 : Value} {T : TypeId} (h : w.heap[b]? = some (.cells #[x0, x1, x2, x3, x4, x5, x6, x7, x8] T (0, 0))) :
    (w.cell? ⟨b, 0, none⟩ = some x0 ∧ w.cell? ⟨b, 1, none⟩ = some x1 ∧ w.cell? ⟨b, 2, none⟩ = some x2 ∧ w.cell? ⟨b, 3, none⟩ = some x3 ∧ w.cell? ⟨b, 4, none⟩ = some x4 ∧ w.cell? ⟨b, 5, none⟩ = some x5 ∧ w.cell? ⟨b, 6, none⟩ = some x6 ∧ w.cell? ⟨b, 7, none⟩ = some x7 ∧ w.cell? ⟨b, 8, none⟩ = some x8)
    ∧ (w.frozen? ⟨b, 0, none⟩ = false ∧ w.frozen? ⟨b, 1, none⟩ = false ∧ w.frozen? ⟨b, 2, none⟩ = false ∧ w.frozen? ⟨b, 3, none⟩ = false ∧ w.frozen? ⟨b, 4, none⟩ = false ∧ w.frozen? ⟨b, 5, none⟩ = false ∧ w.frozen? ⟨b, 6, none⟩ = false ∧ w.frozen? ⟨b, 7, none⟩ = false ∧ w.frozen? ⟨b, 8, none⟩ = false) := by simp [World.cell?, World.frozen?, h]
/-- What an error comes with; and a packet. -/
def errC : Array Value := #[.int .u64 0, .int .i64 0, .int .i64 0, .int .i64 0, .int .i64 0, .int .i64 0, .int .i64 0, .int .u64 0, .slice none 0 0]
def pktC (h : Hd) (v : Value) : Array Value := #[.int .u64 (h.session : Int), .int .i64 h.par.n, .int .i64 h.par.b, .int .i64 h.par.q, .int .i64 h.par.eps, .int .i64 h.par.f, .int .i64 h.len, .int .u64 (h.id : Int), v]
/-- What Parse answers. -/
def ParseRes (l : List UInt8) (w : World) (e : Ending) (w' : World) : Prop := Keeps NoB w w' ∧
  ((parseE l ≠ 0 ∧ e = .returned (.tuple #[.agg errC, .int .i64 (parseE l)])) ∨
   (parseE l = 0 ∧ ∃ (Ap : Option Addr) (cp : Nat), e = .returned (.tuple #[.agg (pktC (hdN (l.drop 3)) (.slice Ap (hdN (l.drop 3)).par.b.toNat cp)), .int .i64 0]) ∧ OwnB w' w.heap.size (.slice Ap (hdN (l.drop 3)).par.b.toNat cp) (parseP l)))
set_option maxHeartbeats 4000000 in
set_option maxRecDepth 20000 in
theorem parse_calls (cd : Nat) (l : List UInt8) (A : Option Addr) (n cap : Nat) (R : Nat → Prop) (w : World) (hC : CodAt w cd) (hn : l.length = n) (hc : n ≤ cap) (hA : A = none → cap = 0) (hb : BytesIn R w A l) (hm : n ≤ 1073741824) :
    Calls Try.prog 17 #[.pointer (some ⟨cd, 0, none⟩), .slice A n cap] w (ParseRes l w) := by
  have hup := Try.underlying52
  have hu := Try.underlying23
  have huh := Try.underlying50
  have HN := hid hn
  have HB := hid hb
  have HC := hid hC
  have HA := hid hA
  have HP := hid (show ∀ c : Int, parseE l = c ↔ parseE l = c from fun _ => Iff.rfl)
  have HZ := hid (heap_alloc_new w (.cells #[.int .u64 0, .int .i64 0, .int .i64 0, .int .i64 0, .int .i64 0, .int .i64 0, .int .i64 0, .int .u64 0, .slice none 0 0] 52))
  have HKA := hid ((Keeps.refl NoB w).alloc (.cells #[.int .u64 0, .int .i64 0, .int .i64 0, .int .i64 0, .int .i64 0, .int .i64 0, .int .i64 0, .int .u64 0, .slice none 0 0] 52))
  obtain ⟨wa, hwa⟩ : ∃ wa, w.alloc (.cells #[.int .u64 0, .int .i64 0, .int .i64 0, .int .i64 0, .int .i64 0, .int .i64 0, .int .i64 0, .int .u64 0, .slice none 0 0] 52) = wa := ⟨_, rfl⟩
  rw [hwa] at HZ HKA
  obtain ⟨z0, hz0⟩ : ∃ z, w.heap.size = z := ⟨_, rfl⟩
  have HZ0 := hid hz0
  rw [hz0] at HZ
  clear hn hb hC hA
  by_cases h42 : n < 42
  · have d0 : decide ((n : Int) < 42) = true := decide_eq_true (by omega)
    have HPE := hid (show parseE l = 4 by unfold parseE; rw [HN.out, if_pos h42])
    clear h42
    go_enter Try.func17, Try.ntmps17
    obtain ⟨_, ⟨f0, f1, f2, f3, f4, f5, f6, f7, f8⟩⟩ := hcells9 HZ.out
    go_wp2_with fail
    have hfin := hid (set9_heap HZ.out (.int .u64 0) (.int .i64 0) (.int .i64 0) (.int .i64 0) (.int .i64 0) (.int .i64 0) (.int .i64 0) (.int .u64 0) (.slice none 0 0))
    have hkf := hid (HKA.out.then (set9_keeps wa z0 (.int .u64 0) (.int .i64 0) (.int .i64 0) (.int .i64 0) (.int .i64 0) (.int .i64 0) (.int .i64 0) (.int .u64 0) (.slice none 0 0)) (fun i h hl => by have h : i = z0 := h; have := HZ0.out; omega))
    unfold set9 set8 at hfin hkf
    refine bodyPost_ret (results_cell_then rfl _ _ z0 52 _ (0, 0) _ rfl hfin.out hup rfl (by kernel_rfl)) rfl ?_
    exact ⟨hkf.out, .inl ⟨by rw [HPE.out]; decide, by rw [HPE.out]; rfl⟩⟩
  have d0 : decide ((n : Int) < 42) = false := decide_eq_false (by omega)
  have d0n : decide (n < 42) = false := decide_eq_false (by omega)
  have h42' : 42 ≤ n := by omega
  have HPE0 := hid (show ∀ c : Int, ((if numB (l.take 2) ≠ 16716 then 5 else if numB ((l.drop 2).take 1) ≠ 1 then 6 else if hokB (hdN (l.drop 3)) = false then 1 else if (l.length : Int) ≠ 42 + (hdN (l.drop 3)).par.b then 7 else if rightL l = false then 8 else 0 : Int) = c) → parseE l = c by intro c hc; unfold parseE; rw [if_neg (by rw [HN.out]; exact h42)]; exact hc)
  clear h42
  go_enter Try.func17, Try.ntmps17
  go_wp2_with fail
  refine (read_calls l A n cap R wa HN.out HA.out (HB.out.kept HKA.out) hm).mono ?_
  rintro e w1 ⟨g, rfl, hr1, hk1⟩
  have HR1 := hid hr1
  have HZ1 := hid (hk1.heap HZ.out (fun h => h))
  have HK1 := hid (HKA.out.fresh hk1)
  obtain ⟨base, hbase⟩ : ∃ b, wa.heap.size = b := ⟨_, rfl⟩
  have HBS := hid (show z0 < base by have := lt_of_heap HZ.out; omega)
  rw [hbase] at HR1
  have HGB := hid (show base ≤ g from by obtain ⟨_, _, _, _, _, _, h⟩ := HR1.out; exact h)
  clear hwa hr1 hk1 hbase hz0
  go_wp2_with fail
  have hl2 := HN.out
  refine (take_calls' g base l 2 w1 HR1.out (by omega) (by omega) (by omega)).mono ?_
  rintro e w2 ⟨rfl, hr2, hk2⟩
  have HR2 := hid hr2
  have HZ2 := hid (hk2.heap HZ1.out (by have := HBS.out; have := HGB.out; show ¬ z0 = g; omega))
  have HK2 := hid (HK1.out.then hk2 (fun i h hl => by have h : i = g := h; have := HZ0.out; have := HBS.out; have := HGB.out; omega))
  clear hr2 hk2 hl2
  obtain ⟨mg, hmg⟩ : ∃ m, numB (l.take 2) = m := ⟨_, rfl⟩
  rw [hmg] at HPE0 ⊢
  clear hmg
  by_cases hm1 : mg = 16716
  case neg =>
    have hne : ((mg : Int) != 16716) = true := by simp; omega
    have HPE := hid (HPE0.out 5 (if_pos hm1))
    clear hm1
    obtain ⟨_, ⟨f0, f1, f2, f3, f4, f5, f6, f7, f8⟩⟩ := hcells9 HZ2.out
    go_wp2_with fail
    have hfin := hid (set9_heap HZ2.out (.int .u64 0) (.int .i64 0) (.int .i64 0) (.int .i64 0) (.int .i64 0) (.int .i64 0) (.int .i64 0) (.int .u64 0) (.slice none 0 0))
    have hkf := hid (HK2.out.then (set9_keeps w2 z0 (.int .u64 0) (.int .i64 0) (.int .i64 0) (.int .i64 0) (.int .i64 0) (.int .i64 0) (.int .i64 0) (.int .u64 0) (.slice none 0 0)) (fun i h hl => by have h : i = z0 := h; have := HZ0.out; omega))
    unfold set9 set8 at hfin hkf
    refine bodyPost_ret (results_cell_then rfl _ _ z0 52 _ (0, 0) _ rfl hfin.out hup rfl (by kernel_rfl)) rfl ?_
    exact ⟨hkf.out, .inl ⟨by rw [HPE.out]; decide, by rw [HPE.out]; rfl⟩⟩
  subst hm1
  have HPE1 := hid (fun (c : Int) h => HPE0.out c ((if_neg (by simp)).trans h))
  clear HPE0
  go_wp2_with fail
  have hl2 := HN.out
  refine (take_calls' g base (l.drop 2) 1 w2 HR2.out (by omega) (by omega) (by rw [List.length_drop]; omega)).mono ?_
  rintro e w3 ⟨rfl, hr3, hk3⟩
  rw [List.drop_drop] at hr3
  have HR3 := hid hr3
  have HZ3 := hid (hk3.heap HZ2.out (by have := HBS.out; have := HGB.out; show ¬ z0 = g; omega))
  have HK3 := hid (HK2.out.then hk3 (fun i h hl => by have h : i = g := h; have := HZ0.out; have := HBS.out; have := HGB.out; omega))
  clear hr3 hk3 hl2
  obtain ⟨vs, hvs⟩ : ∃ m, numB ((l.drop 2).take 1) = m := ⟨_, rfl⟩
  rw [hvs] at HPE1 ⊢
  clear hvs
  by_cases hm2 : vs = 1
  case neg =>
    have hne : ((vs : Int) != 1) = true := by simp; omega
    have HPE := hid (HPE1.out 6 (if_pos hm2))
    clear hm2
    obtain ⟨_, ⟨f0, f1, f2, f3, f4, f5, f6, f7, f8⟩⟩ := hcells9 HZ3.out
    go_wp2_with fail
    have hfin := hid (set9_heap HZ3.out (.int .u64 0) (.int .i64 0) (.int .i64 0) (.int .i64 0) (.int .i64 0) (.int .i64 0) (.int .i64 0) (.int .u64 0) (.slice none 0 0))
    have hkf := hid (HK3.out.then (set9_keeps w3 z0 (.int .u64 0) (.int .i64 0) (.int .i64 0) (.int .i64 0) (.int .i64 0) (.int .i64 0) (.int .i64 0) (.int .u64 0) (.slice none 0 0)) (fun i h hl => by have h : i = z0 := h; have := HZ0.out; omega))
    unfold set9 set8 at hfin hkf
    refine bodyPost_ret (results_cell_then rfl _ _ z0 52 _ (0, 0) _ rfl hfin.out hup rfl (by kernel_rfl)) rfl ?_
    exact ⟨hkf.out, .inl ⟨by rw [HPE.out]; decide, by rw [HPE.out]; rfl⟩⟩
  subst hm2
  have HPE2 := hid (fun (c : Int) h => HPE1.out c ((if_neg (by simp)).trans h))
  clear HPE1
  go_wp2_with fail
  refine (header_calls g base (l.drop 3) w3 HR3.out (by rw [List.length_drop, HN.out]; omega)).mono ?_
  rintro e w4 ⟨rfl, hr4, hk4⟩
  rw [List.drop_drop] at hr4
  have HR4 := hid hr4
  have HZ4 := hid (hk4.heap HZ3.out (by have := HBS.out; have := HGB.out; show ¬ z0 = g; omega))
  have HK4 := hid (HK3.out.then hk4 (fun i h hl => by have h : i = g := h; have := HZ0.out; have := HBS.out; have := HGB.out; omega))
  have HPP := hid (show parseP l = (l.drop 38).take (hdN (l.drop 3)).par.b.toNat from rfl)
  clear hr4 hk4
  obtain ⟨h, hh⟩ : ∃ h, hdN (l.drop 3) = h := ⟨_, rfl⟩
  have HHD := hid hh
  rw [hh] at HPE2 HPP ⊢
  unfold Hd.val Hd.cells
  have HFC := hid (fun (W : World) => fcheck_calls h W)
  unfold Hd.val Hd.cells at HFC
  have HH5 := hid (heap_alloc_new w4 (.cells #[.int .u64 (h.session : Int), .int .i64 h.par.n, .int .i64 h.par.b, .int .i64 h.par.q, .int .i64 h.par.eps, .int .i64 h.par.f, .int .i64 h.len, .int .u64 (h.id : Int)] 50))
  have HKS5 := hid ((Keeps.refl NoB w4).alloc (.cells #[.int .u64 (h.session : Int), .int .i64 h.par.n, .int .i64 h.par.b, .int .i64 h.par.q, .int .i64 h.par.eps, .int .i64 h.par.f, .int .i64 h.len, .int .u64 (h.id : Int)] 50))
  obtain ⟨w5, hw5⟩ : ∃ w5, w4.alloc (.cells #[.int .u64 (h.session : Int), .int .i64 h.par.n, .int .i64 h.par.b, .int .i64 h.par.q, .int .i64 h.par.eps, .int .i64 h.par.f, .int .i64 h.len, .int .u64 (h.id : Int)] 50) = w5 := ⟨_, rfl⟩
  rw [hw5] at HH5 HKS5
  obtain ⟨hb, hhb⟩ : ∃ hb, w4.heap.size = hb := ⟨_, rfl⟩
  rw [hhb] at HH5
  have HR5 := hid (HR4.out.kept HKS5.out)
  have HZ5 := hid (HKS5.out.heap HZ4.out (fun h => h))
  have HK5 := hid (HK4.out.fresh HKS5.out)
  obtain ⟨⟨b0, b1, b2, b3, b4, b5, b6, b7⟩, _⟩ := hcells8 HH5.out
  clear hh HKS5
  go_wp2_with fail
  clear hw5 hhb
  refine (HFC.out w5).mono ?_
  rintro e w6 ⟨rfl, hk6⟩
  have HR6 := hid (HR5.out.kept hk6)
  have HZ6 := hid (hk6.heap HZ5.out (fun h => h))
  have HH6 := hid (hk6.heap HH5.out (fun h => h))
  have HK6 := hid (HK5.out.fresh hk6)
  clear hk6 b0 b1 b2 b3 b4 b5 b6 b7
  by_cases hok : h.ok
  case neg =>
    have hfk : fchkN h = 1 := by unfold fchkN; rw [hokB_false hok]; rfl
    have HPE := hid (HPE2.out 1 (if_pos (hokB_false hok)))
    rw [hfk]
    clear hok hfk
    obtain ⟨_, ⟨f0, f1, f2, f3, f4, f5, f6, f7, f8⟩⟩ := hcells9 HZ6.out
    go_wp2_with fail
    have hfin := hid (set9_heap HZ6.out (.int .u64 0) (.int .i64 0) (.int .i64 0) (.int .i64 0) (.int .i64 0) (.int .i64 0) (.int .i64 0) (.int .u64 0) (.slice none 0 0))
    have hkf := hid (HK6.out.then (set9_keeps w6 z0 (.int .u64 0) (.int .i64 0) (.int .i64 0) (.int .i64 0) (.int .i64 0) (.int .i64 0) (.int .i64 0) (.int .u64 0) (.slice none 0 0)) (fun i h hl => by have h : i = z0 := h; have := HZ0.out; omega))
    unfold set9 set8 at hfin hkf
    refine bodyPost_ret (results_cell_then rfl _ _ z0 52 _ (0, 0) _ rfl hfin.out hup rfl (by kernel_rfl)) rfl ?_
    exact ⟨hkf.out, .inl ⟨by rw [HPE.out]; decide, by rw [HPE.out]; rfl⟩⟩
  have hfk : fchkN h = 0 := by unfold fchkN; rw [hokB_true hok]; rfl
  have HPE3 := hid (fun (c : Int) hc => HPE2.out c ((if_neg (by rw [hokB_true hok]; simp)).trans hc))
  rw [hfk]
  have hbb := hok.1.2.2.1
  have hbb2 := hok.1.2.2.2.1
  obtain ⟨B, hB⟩ : ∃ B, h.par.b.toNat = B := ⟨_, rfl⟩
  have HBI := hid (show h.par.b = (B : Int) by omega)
  have HBN := hid hB
  have HB1 := hid (show 1 ≤ B ∧ B ≤ 65535 by omega)
  clear hfk HPE2 HFC
  obtain ⟨⟨b0, b1, b2, b3, b4, b5, b6, b7⟩, _⟩ := hcells8 HH6.out
  by_cases hlen : (n : Int) = 42 + h.par.b
  case neg =>
    have hne : ((n : Int) != 42 + h.par.b) = true := by simp; exact hlen
    have HPE := hid (HPE3.out 7 (if_pos (by rw [HN.out]; exact hlen)))
    clear hlen hok
    obtain ⟨_, ⟨f0, f1, f2, f3, f4, f5, f6, f7, f8⟩⟩ := hcells9 HZ6.out
    go_wp2_with fail
    have hfin := hid (set9_heap HZ6.out (.int .u64 0) (.int .i64 0) (.int .i64 0) (.int .i64 0) (.int .i64 0) (.int .i64 0) (.int .i64 0) (.int .u64 0) (.slice none 0 0))
    have hkf := hid (HK6.out.then (set9_keeps w6 z0 (.int .u64 0) (.int .i64 0) (.int .i64 0) (.int .i64 0) (.int .i64 0) (.int .i64 0) (.int .i64 0) (.int .u64 0) (.slice none 0 0)) (fun i h hl => by have h : i = z0 := h; have := HZ0.out; omega))
    unfold set9 set8 at hfin hkf
    refine bodyPost_ret (results_cell_then rfl _ _ z0 52 _ (0, 0) _ rfl hfin.out hup rfl (by kernel_rfl)) rfl ?_
    exact ⟨hkf.out, .inl ⟨by rw [HPE.out]; decide, by rw [HPE.out]; rfl⟩⟩
  have hne : ((n : Int) != 42 + h.par.b) = false := by simp; exact hlen
  have HNB := hid (show n = 42 + B by have := HBI.out; omega)
  have HPE4 := hid (fun (c : Int) hc => HPE3.out c ((if_neg (by rw [HN.out]; exact fun hx => hx hlen)).trans hc))
  obtain ⟨tb, hcd, htb⟩ := HC.out.kept HK6.out
  have HCD := hid hcd
  have c0 : w6.cell? ⟨cd, 0, none⟩ = some (.pointer (some ⟨tb, 0, none⟩)) := by simp [World.cell?, hcd]
  have HRT := hid (crcRight_calls tb l A n cap R w6 htb HN.out hc (HB.out.kept HK6.out) hm)
  clear hlen hok hcd htb HPE3
  by_cases hrt : rightL l = true
  case neg =>
    have hrt : rightL l = false := by simpa using hrt
    have HPE := hid (HPE4.out 8 (if_pos hrt))
    rw [hrt] at HRT
    clear hrt
    go_wp2_with fail
    refine HRT.out.mono ?_
    rintro e w7 ⟨rfl, hk7⟩
    have HZ7 := hid (hk7.heap HZ6.out (fun h => h))
    have HK7 := hid (HK6.out.fresh hk7)
    clear hk7 b0 b1 b2 b3 b4 b5 b6 b7 c0
    obtain ⟨_, ⟨f0, f1, f2, f3, f4, f5, f6, f7, f8⟩⟩ := hcells9 HZ7.out
    go_wp2_with fail
    have hfin := hid (set9_heap HZ7.out (.int .u64 0) (.int .i64 0) (.int .i64 0) (.int .i64 0) (.int .i64 0) (.int .i64 0) (.int .i64 0) (.int .u64 0) (.slice none 0 0))
    have hkf := hid (HK7.out.then (set9_keeps w7 z0 (.int .u64 0) (.int .i64 0) (.int .i64 0) (.int .i64 0) (.int .i64 0) (.int .i64 0) (.int .i64 0) (.int .u64 0) (.slice none 0 0)) (fun i h hl => by have h : i = z0 := h; have := HZ0.out; omega))
    unfold set9 set8 at hfin hkf
    refine bodyPost_ret (results_cell_then rfl _ _ z0 52 _ (0, 0) _ rfl hfin.out hup rfl (by kernel_rfl)) rfl ?_
    exact ⟨hkf.out, .inl ⟨by rw [HPE.out]; decide, by rw [HPE.out]; rfl⟩⟩
  have HPE := hid (HPE4.out 0 (if_neg (by rw [hrt]; simp)))
  rw [hrt] at HRT
  clear hrt HPE4
  go_wp2_with fail
  refine HRT.out.mono ?_
  rintro e w7 ⟨rfl, hk7⟩
  have HR7 := hid (HR6.out.kept hk7)
  have HZ7 := hid (hk7.heap HZ6.out (fun h => h))
  have HH7 := hid (hk7.heap HH6.out (fun h => h))
  have HK7 := hid (HK6.out.fresh hk7)
  clear hk7 b0 b1 b2 b3 b4 b5 b6 b7 c0 hne
  obtain ⟨⟨b0, b1, b2, b3, b4, b5, b6, b7⟩, _⟩ := hcells8 HH7.out
  rw [HBI.out] at b2
  go_wp2_with fail
  have hl38 : (l.drop (35 + 3)).length = n - 38 := by rw [List.length_drop, HN.out]
  refine (cut_calls' g base (l.drop (35 + 3)) B w7 HR7.out (by have := HNB.out; omega) (by have := HB1.out; omega) (by omega)).mono ?_
  rintro e w8 ⟨v8, rfl, ho8, hr8, hk8⟩
  obtain ⟨g8, c8, hv8⟩ := OwnInts.form ho8 (by rw [enc8_length, List.length_take, hl38]; have := HB1.out; have := HNB.out; omega)
  rw [enc8_length, List.length_take, hl38, Nat.min_eq_left (by have := HNB.out; omega)] at hv8
  subst hv8
  have HO8 := hid ho8
  have HZ8 := hid (hk8.heap HZ7.out (by have := HBS.out; have := HGB.out; show ¬ z0 = g; omega))
  have HHG := hid (show hb ≠ g from fun e => by have h1 := HH7.out; obtain ⟨_, _, h2, _⟩ := HR7.out; rw [e] at h1; have h3 := h1.symm.trans h2; simp at h3)
  have HH8 := hid (hk8.heap HH7.out HHG.out)
  have HK8 := hid (HK7.out.then hk8 (fun i h hl => by have h : i = g := h; have := HZ0.out; have := HBS.out; have := HGB.out; omega))
  have HW7 := hid (show z0 < w7.heap.size from lt_of_heap HZ7.out)
  clear ho8 hr8 hk8 hl38 b0 b1 b2 b3 b4 b5 b6 b7
  obtain ⟨⟨b0, b1, b2, b3, b4, b5, b6, b7⟩, _⟩ := hcells8 HH8.out
  obtain ⟨_, ⟨f0, f1, f2, f3, f4, f5, f6, f7, f8⟩⟩ := hcells9 HZ8.out
  go_wp2_with fail
  have hfin := hid (set9_heap HZ8.out (.int .u64 (h.session : Int)) (.int .i64 h.par.n) (.int .i64 h.par.b) (.int .i64 h.par.q) (.int .i64 h.par.eps) (.int .i64 h.par.f) (.int .i64 h.len) (.int .u64 (h.id : Int)) (.slice (some ⟨g8, 0, none⟩) B c8))
  have hks := hid (set9_keeps w8 z0 (.int .u64 (h.session : Int)) (.int .i64 h.par.n) (.int .i64 h.par.b) (.int .i64 h.par.q) (.int .i64 h.par.eps) (.int .i64 h.par.f) (.int .i64 h.len) (.int .u64 (h.id : Int)) (.slice (some ⟨g8, 0, none⟩) B c8))
  have hkf := hid (HK8.out.then hks.out (fun i h hl => by have h : i = z0 := h; have := HZ0.out; omega))
  have hof := hid (OwnInts.lower (OwnInts.keeps HO8.out hks.out (fun b hb e => by have := (OwnInts.base_le HO8.out b hb).1; have := HW7.out; have e : b = z0 := e; omega)) (base' := z0) (by have := HW7.out; omega))
  unfold set9 set8 at hfin hkf hof
  refine bodyPost_ret (results_cell_then rfl _ _ z0 52 _ (0, 0) _ rfl hfin.out hup rfl (by kernel_rfl)) rfl ?_
  refine ⟨hkf.out, .inr ⟨HPE.out, ?_⟩⟩
  rw [HHD.out, HPP.out, HBN.out]
  refine ⟨_, _, rfl, ?_⟩
  rw [HZ0.out]
  exact hof.out
end Go.Proofs.Ytnnkfopopanfjaa
