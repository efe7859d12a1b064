/- A sample, as the reference draws it: its walk. Conditions: the numbers are of their kinds; below is at most 2^30. -/
import Derived.Test.YtpkkaicpbihjfaaRef
set_option linter.unusedVariables false
namespace Go.Proofs.Ytpkkaicpbihjfaa
open Go.RowKit

def pickN (l : List Int) (j x : Nat) : Int := if (x : Int) ∈ l then (j : Int) else (x : Int)
/-- The state behind i draws, and what was drawn, in its order. -/
noncomputable def drawN (s lo : Nat) : Nat → Nat × List Int
  | 0 => (s, [])
  | i + 1 => ((belowN (drawN s lo i).1 (lo + i + 1)).1, (drawN s lo i).2 ++ [pickN (drawN s lo i).2 (lo + i) (belowN (drawN s lo i).1 (lo + i + 1)).2])
theorem drawN_lt (s lo : Nat) (hs : s < 18446744073709551616) (i : Nat) : (drawN s lo i).1 < 18446744073709551616 := by
  cases i with
  | zero => exact hs
  | succ i =>
    have h := drawN_lt s lo hs i
    show (belowN (drawN s lo i).1 (lo + i + 1)).1 < _
    exact belowN_lt _ _ h
theorem drawN_length (s lo i : Nat) : (drawN s lo i).2.length = i := by
  induction i with
  | zero => rfl
  | succ i ih =>
    show ((drawN s lo i).2 ++ [_]).length = _
    rw [List.length_append, ih]; rfl
/-- Numbers, put in their order one by one. -/
def srt (l : List Int) : List Int := l.foldl (fun a y => ins y a) []
theorem srt_snoc (l : List Int) (y : Int) : srt (l ++ [y]) = ins y (srt l) := by unfold srt; rw [List.foldl_append]; rfl
theorem mem_ins (n x : Int) (l : List Int) : x ∈ ins n l ↔ x = n ∨ x ∈ l := by
  induction l with
  | nil => simp [ins]
  | cons y r ih =>
    unfold ins
    split
    · simp
    · rw [List.mem_cons, ih, List.mem_cons]
      constructor
      · rintro (h | h | h)
        · exact .inr (.inl h)
        · exact .inl h
        · exact .inr (.inr h)
      · rintro (h | h | h)
        · exact .inr (.inl h)
        · exact .inl h
        · exact .inr (.inr h)
theorem srt_length (l : List Int) : (srt l).length = l.length := by
  suffices h : ∀ (l a : List Int), (l.foldl (fun a y => ins y a) a).length = a.length + l.length by rw [srt, h]; simp
  intro l
  induction l with
  | nil => intro a; simp
  | cons y r ih => intro a; rw [List.foldl_cons, ih, ins_length, List.length_cons]; omega
theorem mem_srt (x : Int) (l : List Int) : x ∈ srt l ↔ x ∈ l := by
  suffices h : ∀ (l a : List Int), x ∈ l.foldl (fun a y => ins y a) a ↔ x ∈ a ∨ x ∈ l by rw [srt, h]; simp
  intro l
  induction l with
  | nil => intro a; simp
  | cons y r ih =>
    intro a
    rw [List.foldl_cons, ih, mem_ins, List.mem_cons]
    constructor
    · rintro ((h | h) | h)
      · exact .inr (.inl h)
      · exact .inl h
      · exact .inr (.inr h)
    · rintro (h | h | h)
      · exact .inl (.inr h)
      · exact .inl (.inl h)
      · exact .inr h
/-- How many are drawn; from where on. -/
def cntN (below many : Int) : Nat := (if many > below then below else many).toNat
def loN (below many : Int) : Nat := below.toNat - cntN below many
/-- What is drawn, rising. -/
noncomputable def someN (s : Nat) (below many : Int) : List Int := srt (drawN s (loN below many) (cntN below many)).2
noncomputable def someS (s : Nat) (below many : Int) : Nat := (drawN s (loN below many) (cntN below many)).1

set_option maxHeartbeats 800000 in
theorem rsome_core (s : Nat) (below many' : Int) (cnt lo : Nat) (many : Int) (w : World) (hs : s < 18446744073709551616) (hb : below ≤ 1073741824) (hb' : -9223372036854775808 ≤ below) (hm0 : -9223372036854775808 ≤ many') (hm1 : many' ≤ below)
    (hmm : (if many > below then below else many) = many') (hc : cnt = many'.toNat) (hl : lo = below.toNat - cnt) :
    Calls Try.prog 56 #[.int .u64 (s : Int), .int .i64 below, .int .i64 many] w fun e w' => ∃ A c, e = .returned (.tuple #[.int .u64 ((drawN s lo cnt).1 : Nat), .slice A cnt c]) ∧ cnt ≤ c ∧ IntsAt w' .i64 A (srt (drawN s lo cnt).2) ∧ Keeps NoB w w' := by
  have HC := hid hc
  have HL := hid hl
  clear hc hl
  by_cases hgt : many > below
  · obtain rfl : below = many' := by rw [if_pos hgt] at hmm; exact hmm
    have hd : decide (below < many) = true := decide_eq_true hgt
    clear hmm
    go_enter Try.func56, Try.ntmps56
    go_wp2_with fail
    go_loopw [0, 8, 9] (fun v0 v8 v9 wr => ∃ (i : Nat) (st : Nat) (l : List Int) (A : Option Addr) (c : Nat), i ≤ below.toNat ∧ v9 = .int .i64 i ∧ v0 = .int .u64 st ∧ v8 = .slice A l.length c ∧ l.length ≤ i ∧ l.length ≤ c ∧ Hid (drawN s lo i = (st, (drawN s lo i).2)) ∧ Hid (l = srt (drawN s lo i).2) ∧ Hid (IntsAt wr .i64 A l) ∧ Hid (Keeps NoB w wr)) (fun _ _ v9 _ => below.toNat - (intOf v9).toNat)
    case atStart =>
      obtain ⟨A, c, e, h1, h2⟩ := (OwnInts.empty w w.heap.size .i64 3 (Nat.le_refl _)).reads
      exact ⟨0, s, [], A, c, Nat.zero_le _, rfl, rfl, e, Nat.le_refl _, h1, rfl, rfl, h2, (Keeps.refl _ w).alloc _⟩
    case round =>
      obtain ⟨i, st, l, A, c, hi, rfl, rfl, rfl, hli, hlc, HS, HLL, HAT, HK⟩ := hrel
      have hst := hid (show st < 18446744073709551616 by have h1 := congrArg Prod.fst HS.out; have h2 := drawN_lt s lo hs i; rw [h1] at h2; exact h2)
      by_cases hlt : (i : Int) < below
      · have hj1 := hid (show (i : Int) + 1 = ((lo + i + 1 : Nat) : Int) by have := HL.out; have := HC.out; omega)
        have hj0 := hid (show (i : Int) = ((lo + i : Nat) : Int) by have := HL.out; have := HC.out; omega)
        have hn9 := hid (show lo + i + 1 ≤ 9223372036854775807 by have := HL.out; have := HC.out; omega)
        go_wp2_with fail
        rw [hj1.out]
        refine (rbelow_calls st (lo + i + 1) _ hn9.out).mono ?_
        rintro e w1 ⟨rfl, HK1⟩
        have HK1 := hid HK1
        have hx := hid (show drawN s lo (i + 1) = ((belowN st (lo + i + 1)).1, (drawN s lo i).2 ++ [pickN (drawN s lo i).2 (lo + i) (belowN st (lo + i + 1)).2]) by
          show ((belowN (drawN s lo i).1 (lo + i + 1)).1, (drawN s lo i).2 ++ [pickN (drawN s lo i).2 (lo + i) (belowN (drawN s lo i).1 (lo + i + 1)).2]) = _
          rw [congrArg Prod.fst HS.out])
        generalize hB : belowN st (lo + i + 1) = B at *
        obtain ⟨st1, x⟩ := B
        clear hB
        go_wp2_with fail
        refine (has_calls l (x : Int) A c _ (HAT.out.kept HK1.out)).mono ?_
        rintro e w2 ⟨rfl, HK2⟩
        have HK2 := hid HK2
        by_cases hin : (x : Int) ∈ l
        · have hd : decide ((x : Int) ∈ l) = true := decide_eq_true hin
          have hp := hid (show pickN (drawN s lo i).2 (lo + i) x = (i : Int) by rw [hj0.out]; unfold pickN; rw [if_pos ((mem_srt _ _).1 (HLL.out ▸ hin))])
          go_wp2_with fail
          refine (insert_calls l ((i : Int)) A c _ ((HAT.out.kept HK1.out).kept HK2.out) (by have := hli; omega)).mono ?_
          rintro e w3 ⟨v, rfl, hown, HK3⟩
          have hnew := hid (show ins ((i : Int)) l = srt (drawN s lo (i + 1)).2 by rw [hx.out]; rw [srt_snoc, hp.out, ← HLL.out])
          have hst1 := hid (show drawN s lo (i + 1) = (st1, (drawN s lo (i + 1)).2) by rw [hx.out])
          obtain ⟨A1, c1, rfl, hc1, hat1⟩ := hown.reads
          have hat1 := hid hat1
          have HK3 := hid HK3
          clear hown
          have hlen := hid (ins_length ((i : Int)) l)
          go_wp2_with fail
          go_roundw
          case rel => exact ⟨i + 1, st1, ins ((i : Int)) l, A1, c1, by omega, by go_num, rfl, rfl, by rw [hlen.out]; omega, hc1, hst1, hnew, hat1, ((HK.out.fresh HK1.out).fresh HK2.out).fresh HK3.out⟩
          case measure => simp [intOf]; omega
        · have hd : decide ((x : Int) ∈ l) = false := decide_eq_false hin
          have hp := hid (show pickN (drawN s lo i).2 (lo + i) x = (x : Int) by unfold pickN; rw [if_neg (fun h => hin (HLL.out ▸ (mem_srt _ _).2 h))])
          go_wp2_with fail
          refine (insert_calls l (x : Int) A c _ ((HAT.out.kept HK1.out).kept HK2.out) (by have := hli; omega)).mono ?_
          rintro e w3 ⟨v, rfl, hown, HK3⟩
          have hnew := hid (show ins (x : Int) l = srt (drawN s lo (i + 1)).2 by rw [hx.out]; rw [srt_snoc, hp.out, ← HLL.out])
          have hst1 := hid (show drawN s lo (i + 1) = (st1, (drawN s lo (i + 1)).2) by rw [hx.out])
          obtain ⟨A1, c1, rfl, hc1, hat1⟩ := hown.reads
          have hat1 := hid hat1
          have HK3 := hid HK3
          clear hown
          have hlen := hid (ins_length (x : Int) l)
          go_wp2_with fail
          go_roundw
          case rel => exact ⟨i + 1, st1, ins (x : Int) l, A1, c1, by omega, by go_num, rfl, rfl, by rw [hlen.out]; omega, hc1, hst1, hnew, hat1, ((HK.out.fresh HK1.out).fresh HK2.out).fresh HK3.out⟩
          case measure => simp [intOf]; omega
      · have hic : i = cnt := by have := HC.out; omega
        subst hic
        go_wp2_with fail
        go_ret2
        have hlen : l.length = i := by rw [HLL.out, srt_length, drawN_length]
        refine ⟨A, c, ?_, by omega, by rw [← HLL.out]; exact HAT.out, HK.out⟩
        rw [congrArg Prod.fst HS.out, ← hlen]
        rfl
  · obtain rfl : many = many' := by rw [if_neg hgt] at hmm; exact hmm
    have hd : decide (below < many) = false := decide_eq_false hgt
    clear hmm
    go_enter Try.func56, Try.ntmps56
    go_wp2_with fail
    go_loopw [0, 8, 9] (fun v0 v8 v9 wr => ∃ (i : Nat) (st : Nat) (l : List Int) (A : Option Addr) (c : Nat), i ≤ many.toNat ∧ v9 = .int .i64 i ∧ v0 = .int .u64 st ∧ v8 = .slice A l.length c ∧ l.length ≤ i ∧ l.length ≤ c ∧ Hid (drawN s lo i = (st, (drawN s lo i).2)) ∧ Hid (l = srt (drawN s lo i).2) ∧ Hid (IntsAt wr .i64 A l) ∧ Hid (Keeps NoB w wr)) (fun _ _ v9 _ => many.toNat - (intOf v9).toNat)
    case atStart =>
      obtain ⟨A, c, e, h1, h2⟩ := (OwnInts.empty w w.heap.size .i64 3 (Nat.le_refl _)).reads
      exact ⟨0, s, [], A, c, Nat.zero_le _, rfl, rfl, e, Nat.le_refl _, h1, rfl, rfl, h2, (Keeps.refl _ w).alloc _⟩
    case round =>
      obtain ⟨i, st, l, A, c, hi, rfl, rfl, rfl, hli, hlc, HS, HLL, HAT, HK⟩ := hrel
      have hst := hid (show st < 18446744073709551616 by have h1 := congrArg Prod.fst HS.out; have h2 := drawN_lt s lo hs i; rw [h1] at h2; exact h2)
      by_cases hlt : (i : Int) < many
      · have hj1 := hid (show below - many + (i : Int) + 1 = ((lo + i + 1 : Nat) : Int) by have := HL.out; have := HC.out; omega)
        have hj0 := hid (show below - many + (i : Int) = ((lo + i : Nat) : Int) by have := HL.out; have := HC.out; omega)
        have hn9 := hid (show lo + i + 1 ≤ 9223372036854775807 by have := HL.out; have := HC.out; omega)
        go_wp2_with fail
        rw [hj1.out]
        refine (rbelow_calls st (lo + i + 1) _ hn9.out).mono ?_
        rintro e w1 ⟨rfl, HK1⟩
        have HK1 := hid HK1
        have hx := hid (show drawN s lo (i + 1) = ((belowN st (lo + i + 1)).1, (drawN s lo i).2 ++ [pickN (drawN s lo i).2 (lo + i) (belowN st (lo + i + 1)).2]) by
          show ((belowN (drawN s lo i).1 (lo + i + 1)).1, (drawN s lo i).2 ++ [pickN (drawN s lo i).2 (lo + i) (belowN (drawN s lo i).1 (lo + i + 1)).2]) = _
          rw [congrArg Prod.fst HS.out])
        generalize hB : belowN st (lo + i + 1) = B at *
        obtain ⟨st1, x⟩ := B
        clear hB
        go_wp2_with fail
        refine (has_calls l (x : Int) A c _ (HAT.out.kept HK1.out)).mono ?_
        rintro e w2 ⟨rfl, HK2⟩
        have HK2 := hid HK2
        by_cases hin : (x : Int) ∈ l
        · have hd : decide ((x : Int) ∈ l) = true := decide_eq_true hin
          have hp := hid (show pickN (drawN s lo i).2 (lo + i) x = below - many + (i : Int) by rw [hj0.out]; unfold pickN; rw [if_pos ((mem_srt _ _).1 (HLL.out ▸ hin))])
          go_wp2_with fail
          refine (insert_calls l (below - many + (i : Int)) A c _ ((HAT.out.kept HK1.out).kept HK2.out) (by have := hli; omega)).mono ?_
          rintro e w3 ⟨v, rfl, hown, HK3⟩
          have hnew := hid (show ins (below - many + (i : Int)) l = srt (drawN s lo (i + 1)).2 by rw [hx.out]; rw [srt_snoc, hp.out, ← HLL.out])
          have hst1 := hid (show drawN s lo (i + 1) = (st1, (drawN s lo (i + 1)).2) by rw [hx.out])
          obtain ⟨A1, c1, rfl, hc1, hat1⟩ := hown.reads
          have hat1 := hid hat1
          have HK3 := hid HK3
          clear hown
          have hlen := hid (ins_length (below - many + (i : Int)) l)
          go_wp2_with fail
          go_roundw
          case rel => exact ⟨i + 1, st1, ins (below - many + (i : Int)) l, A1, c1, by omega, by go_num, rfl, rfl, by rw [hlen.out]; omega, hc1, hst1, hnew, hat1, ((HK.out.fresh HK1.out).fresh HK2.out).fresh HK3.out⟩
          case measure => simp [intOf]; omega
        · have hd : decide ((x : Int) ∈ l) = false := decide_eq_false hin
          have hp := hid (show pickN (drawN s lo i).2 (lo + i) x = (x : Int) by unfold pickN; rw [if_neg (fun h => hin (HLL.out ▸ (mem_srt _ _).2 h))])
          go_wp2_with fail
          refine (insert_calls l (x : Int) A c _ ((HAT.out.kept HK1.out).kept HK2.out) (by have := hli; omega)).mono ?_
          rintro e w3 ⟨v, rfl, hown, HK3⟩
          have hnew := hid (show ins (x : Int) l = srt (drawN s lo (i + 1)).2 by rw [hx.out]; rw [srt_snoc, hp.out, ← HLL.out])
          have hst1 := hid (show drawN s lo (i + 1) = (st1, (drawN s lo (i + 1)).2) by rw [hx.out])
          obtain ⟨A1, c1, rfl, hc1, hat1⟩ := hown.reads
          have hat1 := hid hat1
          have HK3 := hid HK3
          clear hown
          have hlen := hid (ins_length (x : Int) l)
          go_wp2_with fail
          go_roundw
          case rel => exact ⟨i + 1, st1, ins (x : Int) l, A1, c1, by omega, by go_num, rfl, rfl, by rw [hlen.out]; omega, hc1, hst1, hnew, hat1, ((HK.out.fresh HK1.out).fresh HK2.out).fresh HK3.out⟩
          case measure => simp [intOf]; omega
      · have hic : i = cnt := by have := HC.out; omega
        subst hic
        go_wp2_with fail
        go_ret2
        have hlen : l.length = i := by rw [HLL.out, srt_length, drawN_length]
        refine ⟨A, c, ?_, by omega, by rw [← HLL.out]; exact HAT.out, HK.out⟩
        rw [congrArg Prod.fst HS.out, ← hlen]
        rfl
end Go.Proofs.Ytpkkaicpbihjfaa
