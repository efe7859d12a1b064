/- Who sends frames one by one: the walks of send's functions. Conditions: numbers are of their kinds. -/
import Derived.Test.YtnnkfopopanfjaaGreatEmitNew
import Derived.Test.YtnnkfopopanfjaaGreatG3
set_option linter.unusedVariables false
set_option linter.unusedSimpArgs false
namespace Go.Proofs.YtnnkfopopanfjaaGreat
open Go.RowKit

/-- The next one of 64 bits. -/
theorem nxt_ex (n : Nat) : ∃ m : Nat, ((n : Int) + 1) % 18446744073709551616 = (m : Int) ∧ m < 18446744073709551616 ∧ m = (n + 1) % 18446744073709551616 :=
  ⟨(n + 1) % 18446744073709551616, by omega, Nat.mod_lt _ (by decide), rfl⟩
noncomputable def nxt (n : Nat) : Nat := Classical.choose (nxt_ex n)
theorem nxt_int (n : Nat) : ((n : Int) + 1) % 18446744073709551616 = (nxt n : Int) := (Classical.choose_spec (nxt_ex n)).1
theorem nxt_wrap (n : Nat) : IntKind.u64.wrap ((n : Int) + 1) = (nxt n : Int) := by
  rw [← nxt_int]
  unfold IntKind.wrap
  simp [IntKind.bits, IntKind.signed]
theorem nxt_lt (n : Nat) : nxt n < 18446744073709551616 := (Classical.choose_spec (nxt_ex n)).2.1
theorem nxt_eq (n : Nat) : nxt n = (n + 1) % 18446744073709551616 := (Classical.choose_spec (nxt_ex n)).2.2
theorem cells4' {w : World} {b : Nat} {x0 x1 x2 x3 : Value} {T : TypeId} {fr : Nat × Nat} (h : w.heap[b]? = some (.cells #[x0, x1, x2, x3] T fr)) :
    w.cell? ⟨b, 0, none⟩ = some x0 ∧ w.cell? ⟨b, 1, none⟩ = some x1 ∧ w.cell? ⟨b, 2, none⟩ = some x2 ∧ w.cell? ⟨b, 3, none⟩ = some x3 := by simp [World.cell?, h]
theorem free4' {w : World} {b : Nat} {x : Array Value} {T : TypeId} (h : w.heap[b]? = some (.cells x T (0, 0))) (o : Nat) : w.frozen? ⟨b, o, none⟩ = false := by simp [World.frozen?, h]
/-- A sender: its encoder stays where the sender alone turns. -/
def SndBox (w : World) (s c : Nat) (next sent : Nat) (over : Bool) : Prop := w.heap[s]? = some (.cells #[.pointer (some ⟨c, 0, none⟩), .int .u64 (next : Int), .int .i64 (sent : Int), .bool over] 48 (0, 0))
def EncStay (w : World) (s c : Nat) (p : Par) (session : Nat) (obj : List UInt8) : Prop := ∀ W, Keeps (· = s) w W → EncAt W c p session obj
theorem EncStay.keeps {w w1 : World} {s c : Nat} {p : Par} {session : Nat} {obj : List UInt8} (h : EncStay w s c p session obj) (hk : Keeps (· = s) w w1) : EncStay w1 s c p session obj := fun W hW => h W (hk.then hW (fun i h _ => h))
theorem EncStay.kept {w w1 : World} {s c : Nat} {p : Par} {session : Nat} {obj : List UInt8} (h : EncStay w s c p session obj) (hk : Keeps NoB w w1) : EncStay w1 s c p session obj := h.keeps (hk.mono (fun _ h _ => h.elim))
def SndAt (w : World) (s : Nat) (p : Par) (session : Nat) (obj : List UInt8) (next sent : Nat) (over : Bool) : Prop := ∃ c, SndBox w s c next sent over ∧ EncStay w s c p session obj
theorem SndAt.kept {w w1 : World} {s : Nat} {p : Par} {session : Nat} {obj : List UInt8} {next sent : Nat} {over : Bool} (h : SndAt w s p session obj next sent over) (hk : Keeps NoB w w1) : SndAt w1 s p session obj next sent over := by
  obtain ⟨c, h1, h2⟩ := h
  exact ⟨c, hk.heap h1 (fun h => h), h2.kept hk⟩
theorem SndAt.keeps {w w1 : World} {s : Nat} {S : Nat → Prop} {p : Par} {session : Nat} {obj : List UInt8} {next sent : Nat} {over : Bool} (h : SndAt w s p session obj next sent over) (hk : Keeps S w w1) (hs : ¬ S s) (he : ∀ c, EncStay w s c p session obj → EncStay w1 s c p session obj) : SndAt w1 s p session obj next sent over := by
  obtain ⟨c, h1, h2⟩ := h
  exact ⟨c, hk.heap h1 hs, he c h2⟩
theorem SndBox.setNext {w : World} {s c next sent : Nat} {over : Bool} (h : SndBox w s c next sent over) (n : Nat) : SndBox (w.setCell ⟨s, 1, none⟩ (.int .u64 (n : Int))) s c n sent over := by
  have h2 := heap_setAt h 1 (.int .u64 (n : Int))
  exact h2
theorem SndBox.setSent {w : World} {s c next sent : Nat} {over : Bool} (h : SndBox w s c next sent over) (n : Nat) : SndBox (w.setCell ⟨s, 2, none⟩ (.int .i64 (n : Int))) s c next n over := by
  have h2 := heap_setAt h 2 (.int .i64 (n : Int))
  exact h2
theorem SndBox.setOver {w : World} {s c next sent : Nat} {over : Bool} (h : SndBox w s c next sent over) : SndBox (w.setCell ⟨s, 3, none⟩ (.bool true)) s c next sent true := by
  have h2 := heap_setAt h 3 (.bool true)
  exact h2
theorem EncStay.set {w : World} {s c : Nat} {p : Par} {session : Nat} {obj : List UInt8} (h : EncStay w s c p session obj) (o : Nat) (u : Value) : EncStay (w.setCell ⟨s, o, none⟩ u) s c p session obj := h.keeps (Keeps.one w s o u)

set_option maxHeartbeats 1000000 in
theorem sndID_box (s c next sent : Nat) (over : Bool) (w : World) (hb : SndBox w s c next sent over) :
    Calls Tryz.prog 9 #[.pointer (some ⟨s, 0, none⟩)] w fun e w' => e = .returned (.int .u64 (next : Int)) ∧ Keeps NoB w w' := by
  obtain ⟨c0, c1, c2, c3⟩ := cells4' hb
  clear hb
  go_enter Tryz.func9, Tryz.ntmps9
  go_wp2_with fail
  go_ret
  exact ⟨rfl, Keeps.refl _ _⟩
theorem sndID_calls (s : Nat) (p : Par) (session : Nat) (obj : List UInt8) (next sent : Nat) (over : Bool) (w : World) (h : SndAt w s p session obj next sent over) :
    Calls Tryz.prog 9 #[.pointer (some ⟨s, 0, none⟩)] w fun e w' => e = .returned (.int .u64 (next : Int)) ∧ Keeps NoB w w' :=
  let ⟨c, hb, _⟩ := h
  sndID_box s c next sent over w hb
set_option maxHeartbeats 1000000 in
theorem sndSent_box (s c next sent : Nat) (over : Bool) (w : World) (hb : SndBox w s c next sent over) :
    Calls Tryz.prog 11 #[.pointer (some ⟨s, 0, none⟩)] w fun e w' => e = .returned (.int .i64 (sent : Int)) ∧ Keeps NoB w w' := by
  obtain ⟨c0, c1, c2, c3⟩ := cells4' hb
  clear hb
  go_enter Tryz.func11, Tryz.ntmps11
  go_wp2_with fail
  go_ret
  exact ⟨rfl, Keeps.refl _ _⟩
theorem sndSent_calls (s : Nat) (p : Par) (session : Nat) (obj : List UInt8) (next sent : Nat) (over : Bool) (w : World) (h : SndAt w s p session obj next sent over) :
    Calls Tryz.prog 11 #[.pointer (some ⟨s, 0, none⟩)] w fun e w' => e = .returned (.int .i64 (sent : Int)) ∧ Keeps NoB w w' :=
  let ⟨c, hb, _⟩ := h
  sndSent_box s c next sent over w hb
set_option maxHeartbeats 1000000 in
theorem sndStop_calls (s : Nat) (p : Par) (session : Nat) (obj : List UInt8) (next sent : Nat) (over : Bool) (w : World) (h : SndAt w s p session obj next sent over) :
    Calls Tryz.prog 12 #[.pointer (some ⟨s, 0, none⟩)] w fun e w' => e = .returned (.bool (!over)) ∧ SndAt w' s p session obj next sent true ∧ Keeps (· = s) w w' := by
  obtain ⟨c, hb, he⟩ := h
  obtain ⟨c0, c1, c2, c3⟩ := cells4' hb
  have f3 := free4' hb 3
  have HB := hid hb
  have HE := hid he
  clear hb he
  go_enter Tryz.func12, Tryz.ntmps12
  go_wp2_with fail
  go_ret
  exact ⟨rfl, ⟨c, SndBox.setOver HB.out, HE.out.set _ _⟩, Keeps.one _ _ _ _⟩
set_option maxHeartbeats 1000000 in
theorem sndNext_no (s : Nat) (p : Par) (session : Nat) (obj : List UInt8) (next sent : Nat) (w : World) (h : SndAt w s p session obj next sent true) :
    Calls Tryz.prog 7 #[.pointer (some ⟨s, 0, none⟩)] w fun e w' => e = .returned (.tuple #[.slice none 0 0, .bool false]) ∧ Keeps NoB w w' := by
  obtain ⟨c, hb, _⟩ := h
  obtain ⟨c0, c1, c2, c3⟩ := cells4' hb
  clear hb
  go_enter Tryz.func7, Tryz.ntmps7
  go_wp2_with fail
  go_ret2
  exact ⟨rfl, Keeps.refl _ _⟩
set_option maxHeartbeats 1000000 in
theorem sndSend_no (s : Nat) (p : Par) (session : Nat) (obj : List UInt8) (next sent : Nat) (A : Option Addr) (n cap : Nat) (w : World) (h : SndAt w s p session obj next sent true) :
    Calls Tryz.prog 10 #[.pointer (some ⟨s, 0, none⟩), .slice A n cap] w fun e w' => e = .returned (.slice none 0 0) ∧ Keeps NoB w w' := by
  obtain ⟨c, hb, _⟩ := h
  obtain ⟨c0, c1, c2, c3⟩ := cells4' hb
  clear hb
  go_enter Tryz.func10, Tryz.ntmps10
  go_wp2_with fail
  go_ret
  exact ⟨rfl, Keeps.refl _ _⟩
set_option maxHeartbeats 1000000 in
set_option maxRecDepth 20000 in
theorem sndNext_core (s c : Nat) (p : Par) (session : Nat) (obj : List UInt8) (next sent : Nat) (w : World) (hb : SndBox w s c next sent false) (he : EncStay w s c p session obj) (hm : p.may) (hl : (obj.length : Int) ≤ p.n * p.b) (hs : session < 18446744073709551616) (hi : next < 18446744073709551616) (hn : sent ≤ 1000000000) :
    Calls Tryz.prog 7 #[.pointer (some ⟨s, 0, none⟩)] w fun e w' => ∃ (A5 : Option Addr) (c5 : Nat), e = .returned (.tuple #[.slice A5 (42 + p.b.toNat) c5, .bool true]) ∧ OwnB w' w.heap.size (.slice A5 (42 + p.b.toNat) c5) (frameN p session obj next) ∧ SndBox w' s c (nxt next) (sent + 1) false ∧ Keeps (· = s) w w' := by
  have HB := hid hb
  have HE := hid he
  have HSL := hid (lt_of_heap hb)
  have HFR := hid (fun (W : World) (hW : Keeps NoB w W) => frame_calls c p session obj next W (he W (hW.mono (fun _ h _ => h.elim))) hm hl hs hi)
  have HCC := hid (fun (W : World) (hW : Keeps NoB w W) => cells4' (hW.heap hb (fun h => h)))
  have HNX := hid (nxt_wrap next)
  obtain ⟨B, hB⟩ : ∃ B, p.b.toNat = B := ⟨_, rfl⟩
  rw [hB] at HFR ⊢
  generalize frameN p session obj next = fr at *
  obtain ⟨c0, c1, c2, c3⟩ := HCC.out w (Keeps.refl _ _)
  clear hb he hB hm
  go_enter Tryz.func7, Tryz.ntmps7
  go_wp2_with fail
  clear c0 c1 c2 c3
  have HKd := hid (Keeps.refl NoB w).drew
  refine wp_region_list [([], [9], []), ([0], [10], [9]), ([0, 1], [11], [9, 10]), ([0, 1, 2], [12], [9, 10, 11]), ([], [13], []), ([4], [14], [13]), ([4, 5], [15], [13, 14]), ([4, 5, 6], [16], [13, 14, 15]), ([0, 1, 2, 3, 4, 5, 6, 7], [17], [9, 10, 11, 12, 13, 14, 15, 16]), ([0, 1, 2, 3, 4, 5, 6, 7, 8], [4], [9, 10, 11, 12, 13, 14, 15, 16, 17])] [9, 10, 11, 12, 13, 14, 15, 16, 17, 4] (Keeps NoB) (fun (i : Nat) => ([(fun rs__ U => (rs__.getD 0 undef) = Value.pointer (some ⟨s, 0, none⟩)), (fun rs__ U => (rs__.getD 0 undef) = Value.pointer (some ⟨s, 0, none⟩)), (fun rs__ U => (rs__.getD 0 undef) = Value.pointer (some ⟨s, 0, none⟩)), (fun rs__ U => (rs__.getD 0 undef) = Value.pointer (some ⟨c, 0, none⟩)), (fun rs__ U => (rs__.getD 0 undef) = Value.pointer (some ⟨s, 0, none⟩)), (fun rs__ U => (rs__.getD 0 undef) = Value.pointer (some ⟨s, 0, none⟩)), (fun rs__ U => (rs__.getD 0 undef) = Value.pointer (some ⟨s, 1, none⟩)), (fun rs__ U => (rs__.getD 0 undef) = Value.int .u64 (next : Int)), (fun rs__ U => ∃ A5 c5, (rs__.getD 0 undef) = Value.slice A5 (42 + B) c5 ∧ Hid (OwnB U w.heap.size (Value.slice A5 (42 + B) c5) fr)), (fun rs__ U => ∃ A5 c5, (rs__.getD 0 undef) = Value.slice A5 (42 + B) c5 ∧ Hid (OwnB U w.heap.size (Value.slice A5 (42 + B) c5) fr))] : List (List Value → World → Prop)).getD i (fun _ _ => True)) (by kernel_rfl) (by kernel_rfl) (by kernel_rfl) (fun _ _ _ h1 h2 => h1.fresh h2) (fun _ => Keeps.refl _ _) (RL.cons ?s0 (RL.cons ?s1 (RL.cons ?s2 (RL.cons ?s3 (RL.cons ?s4 (RL.cons ?s5 (RL.cons ?s6 (RL.cons ?s7 (RL.cons ?s8 (RL.cons ?s9 (RL.nil _ _))))))))))) ?fin
  case s0 =>
    intro V wx hE hd
    clear hd
    intro K hK
    simp only [rput, List.foldl_cons, List.foldl_nil, Act.put, List.setIfInBounds_toArray, List.set_cons_zero, List.set_cons_succ]
    go_simp; (with_reducible refine hK.out _ _ ?_ ?_); exact rfl; exact ⟨Keeps.refl _ _, rfl⟩
  case s1 =>
    intro V wx hE hd
    obtain ⟨u0, hb0, hu0, p0⟩ : ∃ U, Keeps NoB w.drew U ∧ Keeps NoB U wx ∧ ((V 9) = Value.pointer (some ⟨s, 0, none⟩)) := hd 0 (by decide)
    clear hd
    clear hb0 hu0
    intro K hK
    simp only [rput, List.foldl_cons, List.foldl_nil, Act.put, List.setIfInBounds_toArray, List.set_cons_zero, List.set_cons_succ, p0]
    go_simp; (with_reducible refine hK.out _ _ ?_ ?_); exact rfl; exact ⟨Keeps.refl _ _, rfl⟩
  case s2 =>
    intro V wx hE hd
    obtain ⟨u1, hb1, hu1, p1⟩ : ∃ U, Keeps NoB w.drew U ∧ Keeps NoB U wx ∧ ((V 10) = Value.pointer (some ⟨s, 0, none⟩)) := hd 1 (by decide)
    clear hd
    clear hb1 hu1
    intro K hK
    simp only [rput, List.foldl_cons, List.foldl_nil, Act.put, List.setIfInBounds_toArray, List.set_cons_zero, List.set_cons_succ, p1]
    go_simp; (with_reducible refine hK.out _ _ ?_ ?_); exact rfl; exact ⟨Keeps.refl _ _, rfl⟩
  case s3 =>
    intro V wx hE hd
    obtain ⟨u2, hb2, hu2, p2⟩ : ∃ U, Keeps NoB w.drew U ∧ Keeps NoB U wx ∧ ((V 11) = Value.pointer (some ⟨s, 0, none⟩)) := hd 2 (by decide)
    clear hd
    clear hb2 hu2
    intro K hK
    simp only [rput, List.foldl_cons, List.foldl_nil, Act.put, List.setIfInBounds_toArray, List.set_cons_zero, List.set_cons_succ, p2]
    obtain ⟨c0, c1, c2, c3⟩ := HCC.out wx (HKd.out.fresh hE); go_simp; (with_reducible refine hK.out _ _ ?_ ?_); exact rfl; exact ⟨Keeps.refl _ _, rfl⟩
  case s4 =>
    intro V wx hE hd
    clear hd
    intro K hK
    simp only [rput, List.foldl_cons, List.foldl_nil, Act.put, List.setIfInBounds_toArray, List.set_cons_zero, List.set_cons_succ]
    go_simp; (with_reducible refine hK.out _ _ ?_ ?_); exact rfl; exact ⟨Keeps.refl _ _, rfl⟩
  case s5 =>
    intro V wx hE hd
    obtain ⟨u4, hb4, hu4, p4⟩ : ∃ U, Keeps NoB w.drew U ∧ Keeps NoB U wx ∧ ((V 13) = Value.pointer (some ⟨s, 0, none⟩)) := hd 4 (by decide)
    clear hd
    clear hb4 hu4
    intro K hK
    simp only [rput, List.foldl_cons, List.foldl_nil, Act.put, List.setIfInBounds_toArray, List.set_cons_zero, List.set_cons_succ, p4]
    go_simp; (with_reducible refine hK.out _ _ ?_ ?_); exact rfl; exact ⟨Keeps.refl _ _, rfl⟩
  case s6 =>
    intro V wx hE hd
    obtain ⟨u5, hb5, hu5, p5⟩ : ∃ U, Keeps NoB w.drew U ∧ Keeps NoB U wx ∧ ((V 14) = Value.pointer (some ⟨s, 0, none⟩)) := hd 5 (by decide)
    clear hd
    clear hb5 hu5
    intro K hK
    simp only [rput, List.foldl_cons, List.foldl_nil, Act.put, List.setIfInBounds_toArray, List.set_cons_zero, List.set_cons_succ, p5]
    go_simp; (with_reducible refine hK.out _ _ ?_ ?_); exact rfl; exact ⟨Keeps.refl _ _, rfl⟩
  case s7 =>
    intro V wx hE hd
    obtain ⟨u6, hb6, hu6, p6⟩ : ∃ U, Keeps NoB w.drew U ∧ Keeps NoB U wx ∧ ((V 15) = Value.pointer (some ⟨s, 1, none⟩)) := hd 6 (by decide)
    clear hd
    clear hb6 hu6
    intro K hK
    simp only [rput, List.foldl_cons, List.foldl_nil, Act.put, List.setIfInBounds_toArray, List.set_cons_zero, List.set_cons_succ, p6]
    obtain ⟨c0, c1, c2, c3⟩ := HCC.out wx (HKd.out.fresh hE); go_simp; (with_reducible refine hK.out _ _ ?_ ?_); exact rfl; exact ⟨Keeps.refl _ _, rfl⟩
  case s8 =>
    intro V wx hE hd
    obtain ⟨u3, hb3, hu3, p3⟩ : ∃ U, Keeps NoB w.drew U ∧ Keeps NoB U wx ∧ ((V 12) = Value.pointer (some ⟨c, 0, none⟩)) := hd 3 (by decide)
    obtain ⟨u7, hb7, hu7, p7⟩ : ∃ U, Keeps NoB w.drew U ∧ Keeps NoB U wx ∧ ((V 16) = Value.int .u64 (next : Int)) := hd 7 (by decide)
    clear hd
    clear hb3 hu3
    clear hb7 hu7
    intro K hK
    simp only [rput, List.foldl_cons, List.foldl_nil, Act.put, List.setIfInBounds_toArray, List.set_cons_zero, List.set_cons_succ, p3, p7]
    go_simp; refine (HFR.out wx (HKd.out.fresh hE)).mono ?_; rintro e w9 ⟨A5, c5, rfl, ho9, hk9⟩; (with_reducible refine hK.out _ _ ?_ ?_); exact rfl; exact ⟨hk9, A5, c5, rfl, hid (OwnInts.lower ho9 (HKd.out.fresh hE).size)⟩
  case s9 =>
    intro V wx hE hd
    obtain ⟨u8, hb8, hu8, p8⟩ : ∃ U, Keeps NoB w.drew U ∧ Keeps NoB U wx ∧ (∃ A5 c5, (V 17) = Value.slice A5 (42 + B) c5 ∧ Hid (OwnB U w.heap.size (Value.slice A5 (42 + B) c5) fr)) := hd 8 (by decide)
    clear hd
    obtain ⟨A5, c5, q8, how⟩ := p8
    intro K hK
    simp only [rput, List.foldl_cons, List.foldl_nil, Act.put, List.setIfInBounds_toArray, List.set_cons_zero, List.set_cons_succ, q8]
    go_simp; (with_reducible refine hK.out _ _ ?_ ?_); exact rfl; exact ⟨Keeps.refl _ _, A5, c5, rfl, hid (OwnInts.kept how.out hu8)⟩
  case fin =>
    intro V w1 hE hd
    obtain ⟨u9, hb9, hu9, p9⟩ : ∃ U, Keeps NoB w.drew U ∧ Keeps NoB U w1 ∧ (∃ A5 c5, (V 4) = Value.slice A5 (42 + B) c5 ∧ Hid (OwnB U w.heap.size (Value.slice A5 (42 + B) c5) fr)) := hd 9 (by decide)
    clear hd
    obtain ⟨A5, c5, q9, hox⟩ := p9
    simp only [rput, List.foldl_cons, List.foldl_nil, Act.put, List.setIfInBounds_toArray, List.set_cons_zero, List.set_cons_succ, q9]
    have HO1 := hid (OwnInts.kept hox.out hu9)
    have HK1 := hid (HKd.out.fresh hE)
    clear hox hu9 hb9 hE
    obtain ⟨c0, c1, c2, c3⟩ := HCC.out w1 HK1.out
    have HB1 := hid (show SndBox w1 s c next sent false from HK1.out.heap HB.out (fun h => h))
    have f1 := free4' HB1.out 1
    have f2 := free4' HB1.out 2
    have hnx := HNX.out
    go_wp2_with fail
    go_ret2
    have hB2 := (HB1.out.setNext (nxt next)).setSent (sent + 1)
    have hK2 := ((HK1.out.mono (T := (· = s)) (fun _ h _ => h.elim)).setCell (p := ⟨s, 1, none⟩) (fun _ => rfl) (.int .u64 (nxt next : Int))).setCell (p := ⟨s, 2, none⟩) (fun _ => rfl) (.int .i64 ((sent + 1 : Nat) : Int))
    have hO2 := OwnInts.keeps (OwnInts.keeps HO1.out (Keeps.one w1 s 1 (.int .u64 (nxt next : Int))) (fun b hb e => by have := (OwnInts.base_le HO1.out b hb).1; have := HSL.out; omega)) (Keeps.one _ s 2 (.int .i64 ((sent + 1 : Nat) : Int))) (fun b hb e => by have := (OwnInts.base_le HO1.out b hb).1; have := HSL.out; omega)
    have e1 : ((sent + 1 : Nat) : Int) = (sent : Int) + 1 := by omega
    rw [e1] at hB2 hK2 hO2
    exact ⟨_, _, rfl, hO2, hB2, hK2⟩
theorem sndNext_yes (s : Nat) (p : Par) (session : Nat) (obj : List UInt8) (next sent : Nat) (w : World) (h : SndAt w s p session obj next sent false) (hm : p.may) (hl : (obj.length : Int) ≤ p.n * p.b) (hs : session < 18446744073709551616) (hi : next < 18446744073709551616) (hn : sent ≤ 1000000000) :
    Calls Tryz.prog 7 #[.pointer (some ⟨s, 0, none⟩)] w fun e w' => ∃ (A5 : Option Addr) (c5 : Nat), e = .returned (.tuple #[.slice A5 (42 + p.b.toNat) c5, .bool true]) ∧ OwnB w' w.heap.size (.slice A5 (42 + p.b.toNat) c5) (frameN p session obj next) ∧ SndAt w' s p session obj (nxt next) (sent + 1) false ∧ Keeps (· = s) w w' := by
  obtain ⟨c, hb, he⟩ := h
  refine (sndNext_core s c p session obj next sent w hb he hm hl hs hi hn).mono ?_
  rintro e w' ⟨A5, c5, h1, h2, h3, h4⟩
  exact ⟨A5, c5, h1, h2, ⟨c, h3, he.keeps h4⟩, h4⟩
set_option maxHeartbeats 1000000 in
set_option maxRecDepth 20000 in
theorem sndNew_no (p : Par) (session first : Nat) (obj : List UInt8) (A : Option Addr) (n c : Nat) (hn : obj.length = n) (w : World) (hm : ¬ p.may) :
    Calls Tryz.prog 6 #[p.val, .int .u64 (session : Int), .slice A n c, .int .u64 (first : Int)] w fun e w' => e = .returned (.tuple #[.pointer none, .int .i64 1]) ∧ Keeps NoB w w' := by
  have hu := Tryz.underlying23
  have HE := hid (fun (W : World) => emitNew_no p session obj A c W hm)
  rw [hn] at HE
  clear hm hn
  unfold Par.val at HE ⊢
  go_enter Tryz.func6, Tryz.ntmps6
  go_wp2_with fail
  refine (HE.out _).mono ?_
  rintro e w1 ⟨rfl, HK1⟩
  have HK1 := hid (((Keeps.refl NoB w).alloc _).fresh HK1)
  go_wp2_with fail
  go_ret2
  exact ⟨rfl, HK1.out⟩
set_option maxHeartbeats 1000000 in
set_option maxRecDepth 20000 in
theorem sndNew_long (p : Par) (session first : Nat) (obj : List UInt8) (A : Option Addr) (n c : Nat) (hn : obj.length = n) (w : World) (hm : p.may) (hl : p.n * p.b < n) (hlen : n ≤ 9223372036854775807) :
    Calls Tryz.prog 6 #[p.val, .int .u64 (session : Int), .slice A n c, .int .u64 (first : Int)] w fun e w' => e = .returned (.tuple #[.pointer none, .int .i64 10]) ∧ Keeps NoB w w' := by
  have hu := Tryz.underlying23
  have HE := hid (fun (W : World) => emitNew_long p session obj A c W hm (by rw [hn]; exact hl) (by rw [hn]; exact hlen))
  rw [hn] at HE
  clear hm hn hl hlen
  unfold Par.val at HE ⊢
  go_enter Tryz.func6, Tryz.ntmps6
  go_wp2_with fail
  refine (HE.out _).mono ?_
  rintro e w1 ⟨rfl, HK1⟩
  have HK1 := hid (((Keeps.refl NoB w).alloc _).fresh HK1)
  go_wp2_with fail
  go_ret2
  exact ⟨rfl, HK1.out⟩
set_option maxHeartbeats 1000000 in
set_option maxRecDepth 20000 in
theorem sndNew_yes (p : Par) (session first : Nat) (obj : List UInt8) (A : Option Addr) (n c : Nat) (R : Nat → Prop) (hn : obj.length = n) (w : World) (hm : p.may) (hs : session < 18446744073709551616) (ho : BytesIn R w A obj) (hcap : n ≤ c) (hl : (n : Int) ≤ p.n * p.b) :
    Calls Tryz.prog 6 #[p.val, .int .u64 (session : Int), .slice A n c, .int .u64 (first : Int)] w fun e w' => ∃ s, e = .returned (.tuple #[.pointer (some ⟨s, 0, none⟩), .int .i64 0]) ∧ (∀ W, Keeps (fun b => b < w.heap.size) w' W → SndAt W s p session obj first 0 false) ∧ w.heap.size ≤ s ∧ Keeps NoB w w' := by
  have hu := Tryz.underlying23
  have HE := hid (fun (W : World) (hW : Keeps NoB w W) => emitNew_core p session obj A c R W hm hs (ho.kept hW) (by rw [hn]; exact hcap) (by rw [hn]; exact hl))
  rw [hn] at HE
  clear hm hn hl hcap ho
  unfold Par.val at HE ⊢
  have HKA := hid ((Keeps.refl NoB w).alloc (.cells #[.int .i64 p.n, .int .i64 p.b, .int .i64 p.q, .int .i64 p.eps, .int .i64 p.f] 23))
  go_enter Tryz.func6, Tryz.ntmps6
  go_wp2_with fail
  refine (HE.out _ HKA.out).mono ?_
  rintro e w1 ⟨c1, rfl, hs1, HK1⟩
  have HS1 := hid hs1
  have HK1' := hid HK1
  have HK1 := hid (HKA.out.fresh HK1)
  clear hs1
  go_wp2_with fail
  go_ret2
  have hz1 := HK1'.out.size
  simp only [World.size_alloc] at hz1
  refine ⟨_, rfl, fun W hW => ⟨c1, hW.heap (heap_alloc_new w1 _) (fun e => by have e : w1.heap.size < w.heap.size := e; omega), fun W2 hW2 => HS1.out W2 ?_⟩, by omega, HK1.out.alloc _⟩
  exact (((Keeps.refl _ w1).alloc _).then hW (fun i h _ => by show i < (World.alloc w _).heap.size; simp only [World.size_alloc]; omega)).then hW2 (fun i h hl => absurd hl (by have h : i = w1.heap.size := h; omega))
end Go.Proofs.YtnnkfopopanfjaaGreat
