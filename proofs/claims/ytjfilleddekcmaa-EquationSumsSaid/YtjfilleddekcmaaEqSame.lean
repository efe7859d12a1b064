/- Are two equations one: the program's walk. Conditions: what is read lies there. -/
import Derived.Test.YtjfilleddekcmaaEqAdd
set_option linter.unusedVariables false
namespace Go.Proofs.Ytjfilleddekcmaa
open Go.RowKit

theorem equal_calls (xs ys : List Int) (A B : Option Addr) (c d : Nat) (w : World) (ha : IntsAt w .i64 A xs) (hb : IntsAt w .i64 B ys) :
    Calls Try.prog 51 #[.slice A xs.length c, .slice B ys.length d] w fun e w' => e = .returned (.bool (decide (xs = ys))) ∧ Keeps NoB w w' := by
  by_cases hl : xs.length = ys.length
  · rcases Nat.eq_zero_or_pos xs.length with h0 | h0
    · have e1 : xs = [] := List.length_eq_zero_iff.1 h0
      have e2 : ys = [] := List.length_eq_zero_iff.1 (by omega)
      subst e1 e2
      refine (Try.slices_Equal_int_empty A B c 0 d w (by omega)).mono ?_
      rintro e w' ⟨rfl, rfl⟩
      exact ⟨by simp, Keeps.refl _ _⟩
    · obtain ⟨b1, o1, rfl, h1⟩ := ha.get h0
      obtain ⟨b2, o2, rfl, h2⟩ := hb.get (by omega)
      refine (Try.slices_Equal_int b1 o1 xs.length c b2 o2 ys.length d xs ys w (Nat.le_refl _) (Nat.le_refl _) ha.len hb.len h1 h2).mono ?_
      rintro e w' ⟨rfl, q, rfl⟩
      refine ⟨?_, (Keeps.refl _ w).drewN q⟩
      rw [List.take_length, List.take_length]
      congr 2
      rw [Bool.eq_iff_iff]; simp
  · refine (Try.slices_Equal_int_lens A B xs.length c ys.length d w hl).mono ?_
    rintro e w' ⟨rfl, rfl⟩
    exact ⟨by rw [decide_eq_false (fun e => hl (by rw [e]))], Keeps.refl _ _⟩
def sameE (a b : EqV) : Bool := decide (a.of = b.of) && decide (a.val = b.val)
set_option maxHeartbeats 800000 in
set_option maxRecDepth 20000 in
theorem esame_calls (x y : EqV) (A1 A2 B1 B2 : Option Addr) (c1 c2 d1 d2 : Nat) (R : Nat → Prop) (w : World) (h1 : IntsAt w .i64 A1 x.of) (h2 : BytesIn R w A2 x.val) (h3 : IntsAt w .i64 B1 y.of) (h4 : BytesIn R w B2 y.val) :
    Calls Try.prog 25 #[.agg #[.slice A1 x.of.length c1, .slice A2 x.val.length c2], .agg #[.slice B1 y.of.length d1, .slice B2 y.val.length d2]] w fun e w' => e = .returned (.bool (sameE x y)) ∧ Keeps NoB w w' := by
  obtain ⟨xo, xv⟩ := x
  obtain ⟨yo, yv⟩ := y
  dsimp only at *
  obtain ⟨w2, hw2⟩ : ∃ w2, (w.alloc (.cells #[.slice A1 xo.length c1, .slice A2 xv.length c2] 29)).alloc (.cells #[.slice B1 yo.length d1, .slice B2 yv.length d2] 29) = w2 := ⟨_, rfl⟩
  have HK := hid (show Keeps NoB w w2 by rw [← hw2]; exact ((Keeps.refl NoB w).alloc _).alloc _)
  have H1 := hid (h1.kept HK.out)
  have H3 := hid (h3.kept HK.out)
  have H2 := hid (h2.kept HK.out)
  have H4 := hid (h4.kept HK.out)
  clear h1 h2 h3 h4
  have b1 := box_two w (.slice A1 xo.length c1) (.slice A2 xv.length c2) 29
  have ca0 : w2.cell? ⟨w.heap.size, 0, none⟩ = some (.slice A1 xo.length c1) := by rw [← hw2]; exact ((Keeps.refl NoB _).alloc _).cell b1.1 (fun h => h)
  have ca1 : w2.cell? ⟨w.heap.size, 1, none⟩ = some (.slice A2 xv.length c2) := by rw [← hw2]; exact ((Keeps.refl NoB _).alloc _).cell b1.2 (fun h => h)
  have b2 := box_two (w.alloc (.cells #[.slice A1 xo.length c1, .slice A2 xv.length c2] 29)) (.slice B1 yo.length d1) (.slice B2 yv.length d2) 29
  rw [World.size_alloc, hw2] at b2
  have cb0 := b2.1
  have cb1 := b2.2
  clear b1 b2
  by_cases hx : xo = yo
  · have hq := hid (show decide (xo = yo) = true from decide_eq_true hx)
    have hse := hid (show sameE ⟨xo, xv⟩ ⟨yo, yv⟩ = decide (xv = yv) by simp [sameE, hx])
    by_cases hy : xv = yv
    · have deq : ((strOf xv).toList == (strOf yv).toList) = true := by rw [hy]; simp
      have hz := hid (show decide (xv = yv) = true from decide_eq_true hy)
      clear hx hy
      go_enter Try.func25, Try.ntmps25
      go_wp2_with fail
      refine (equal_calls xo yo A1 B1 c1 d1 w2 H1.out H3.out).mono ?_
      rintro e w3 ⟨rfl, HK3⟩
      have HK2 := hid (HK.out.fresh HK3)
      have ca1 := HK3.cell ca1 (fun h => h)
      have cb1 := HK3.cell cb1 (fun h => h)
      have e1 := conv_run 27 9 Try.underlying27 Try.underlying9 (H2.out.kept HK3) c2
      have e2 := conv_run 27 9 Try.underlying27 Try.underlying9 (H4.out.kept HK3) d2
      rw [hq.out]
      clear hw2
      go_wp2_with fail
      go_ret
      rw [hse.out, hz.out]
      exact ⟨rfl, HK2.out⟩
    · have deq : ((strOf xv).toList == (strOf yv).toList) = false := by rw [strOf_toList, strOf_toList]; simpa using hy
      have hz := hid (show decide (xv = yv) = false from decide_eq_false hy)
      clear hx hy
      go_enter Try.func25, Try.ntmps25
      go_wp2_with fail
      refine (equal_calls xo yo A1 B1 c1 d1 w2 H1.out H3.out).mono ?_
      rintro e w3 ⟨rfl, HK3⟩
      have HK2 := hid (HK.out.fresh HK3)
      have ca1 := HK3.cell ca1 (fun h => h)
      have cb1 := HK3.cell cb1 (fun h => h)
      have e1 := conv_run 27 9 Try.underlying27 Try.underlying9 (H2.out.kept HK3) c2
      have e2 := conv_run 27 9 Try.underlying27 Try.underlying9 (H4.out.kept HK3) d2
      rw [hq.out]
      clear hw2
      go_wp2_with fail
      go_ret
      rw [hse.out, hz.out]
      exact ⟨rfl, HK2.out⟩
  · have hq := hid (show decide (xo = yo) = false from decide_eq_false hx)
    have hse := hid (show sameE ⟨xo, xv⟩ ⟨yo, yv⟩ = false by simp [sameE, hx])
    clear hx
    go_enter Try.func25, Try.ntmps25
    go_wp2_with fail
    refine (equal_calls xo yo A1 B1 c1 d1 w2 H1.out H3.out).mono ?_
    rintro e w3 ⟨rfl, HK3⟩
    have HK2 := hid (HK.out.fresh HK3)
    rw [hq.out]
    clear hw2
    go_wp2_with fail
    go_ret
    rw [hse.out]
    exact ⟨rfl, HK2.out⟩
end Go.Proofs.Ytjfilleddekcmaa
