/- The references' draws, lists that rise, and samples: their walks. Conditions: numbers are of their kinds; lengths bounded where lists grow. -/
import Derived.Test.YtpkkaicpbihjfaaRng
set_option linter.unusedVariables false
namespace Go.Proofs.Ytpkkaicpbihjfaa
open Go.RowKit

set_option maxHeartbeats 400000 in
theorem rnext_calls (s : Nat) (w : World) :
    Calls Try.prog 54 #[.int .u64 (s : Int)] w fun e w' => e = .returned (.tuple #[.int .u64 (nxS s : Nat), .int .u64 (nxV s : Nat)]) ∧ w' = w := by
  have HN := hid (nxS_eq s)
  go_enter Try.func54, Try.ntmps54
  go_wp2_with fail
  rw [HN.out]
  refine (rmix_calls (nxS s) (nxS_lt s) _).mono ?_
  rintro e w' ⟨rfl, rfl⟩
  go_wp2_with fail
  go_ret2
  exact ⟨rfl, rfl⟩

set_option maxHeartbeats 400000 in
theorem rbelow_calls (s n : Nat) (w : World) (hn : n ≤ 9223372036854775807) :
    Calls Try.prog 91 #[.int .u64 (s : Int), .int .i64 (n : Int)] w fun e w' => e = .returned (.tuple #[.int .u64 ((belowN s n).1 : Nat), .int .i64 ((belowN s n).2 : Nat)]) ∧ Keeps NoB w w' := by
  by_cases h0 : n = 0
  · subst h0
    rw [belowN_zero]
    go_enter Try.func91, Try.ntmps91
    go_wp2_with fail
    go_ret2
    exact ⟨rfl, Keeps.refl _ _⟩
  · have hp : 1 ≤ n := by omega
    clear h0
    have hlt : decide ((n : Int) < 1) = false := by simp; omega
    have hne : ((n : Int) == 0) = false := by simp; omega
    have HB := hid (belowN_pos s n hp)
    go_enter Try.func91, Try.ntmps91
    go_wp2_with fail
    rw [few_eq' n hp hn]
    go_loopw [0, 8, 9] (fun v0 v8 v9 wr => ∃ i p x : Nat, i ≤ 16 ∧ v9 = .int .i64 i ∧ v0 = .int .u64 p ∧ v8 = .int .u64 x ∧ Hid (i ≤ 15 → tries (fewN n) 15 s = tries (fewN n) (15 - i) p) ∧ Hid (i = 16 → tries (fewN n) 15 s = (p, x)) ∧ Hid (Keeps NoB w wr)) (fun _ _ v9 _ => 16 - (intOf v9).toNat)
    case atStart => exact ⟨0, s, 0, by omega, rfl, rfl, rfl, fun _ => rfl, fun h => absurd h (by omega), Keeps.refl _ _⟩
    case round =>
      obtain ⟨i, p, x, hi, rfl, rfl, rfl, HT, HT2, HK⟩ := hrel
      by_cases hlt : i < 16
      · go_wp2_with fail
        refine (rnext_calls p _).mono ?_
        rintro e w2 ⟨rfl, rfl⟩
        by_cases hfew : nxV p < fewN n
        · have hd : decide (fewN n ≤ nxV p) = false := decide_eq_false (by omega)
          go_wp2_with fail
          go_roundw
          case rel => exact ⟨i + 1, nxS p, nxV p, by omega, by go_num, rfl, rfl, hid (fun h => by rw [HT.out (by omega), show 15 - i = (15 - (i + 1)) + 1 by omega, tries_succ, if_pos hfew]), hid (fun h => by rw [HT.out (by omega), show 15 - i = 0 by omega]; rfl), HK⟩
          case measure => simp [intOf]; omega
        · have hd : decide (fewN n ≤ nxV p) = true := decide_eq_true (by omega)
          have ht := hid (show belowN s n = (nxS p, nxV p % n) by rw [HB.out, HT.out (by omega), tries_le _ _ _ hfew])
          go_wp2_with fail
          go_quiet (fail)
          go_wp2_with fail
          go_ret2
          rw [ht.out]
          refine ⟨congrArg (fun x => Ending.returned (.tuple #[.int .u64 (nxS p : Nat), .int .i64 x])) ?_, HK.out.drewN _⟩
          exact rem_eq _ n hp hn
      · obtain rfl : i = 16 := by omega
        have ht := hid (show belowN s n = (p, x % n) by rw [HB.out, HT2.out rfl])
        go_wp2_with fail
        go_quiet (fail)
        go_wp2_with fail
        go_ret2
        rw [ht.out]
        refine ⟨congrArg (fun y => Ending.returned (.tuple #[.int .u64 (p : Nat), .int .i64 y])) ?_, HK.out.drewN _⟩
        exact rem_eq _ n hp hn
theorem has_step (xs : List Int) (n : Int) (k : Nat) (h : k < xs.length) : decide (n ∈ xs.take (k + 1)) = (decide (n ∈ xs.take k) || (gi xs k == n)) := by
  rw [List.take_succ_eq_append_getElem h, gi_eq xs k h]
  rw [Bool.eq_iff_iff]
  simp only [List.mem_append, List.mem_singleton, Bool.or_eq_true, decide_eq_true_eq, beq_iff_eq]
  constructor
  · rintro (h | h)
    · exact .inl h
    · exact .inr h.symm
  · rintro (h | h)
    · exact .inl h
    · exact .inr h.symm
set_option maxHeartbeats 400000 in
theorem has_calls (xs : List Int) (n : Int) (A : Option Addr) (c : Nat) (w : World) (h : IntsAt w .i64 A xs) :
    Calls Try.prog 92 #[.slice A xs.length c, .int .i64 n] w fun e w' => e = .returned (.bool (decide (n ∈ xs))) ∧ Keeps NoB w w' := by
  have hlen := h.len
  have HA := hid h
  clear h
  go_enter Try.func92, Try.ntmps92
  go_wp2_with fail
  go_loopw [5] (fun v5 wr => ∃ k : Nat, k ≤ xs.length ∧ v5 = .int .i64 k ∧ Hid (¬ n ∈ xs.take k) ∧ Hid (Keeps NoB w wr)) (fun v5 _ => xs.length - (intOf v5).toNat)
  case atStart => exact ⟨0, Nat.zero_le _, rfl, by simp [Hid], Keeps.refl _ w⟩
  case round =>
    obtain ⟨k, hk, rfl, HN, HK⟩ := hrel
    by_cases hlt : k < xs.length
    · obtain ⟨b, off, rfl, h1⟩ := HA.out.get (by omega)
      have c1 : wr.cell? ⟨b, off + k, none⟩ = some (.int .i64 (gi xs k)) := HK.out.cell (h1 k hlt) (fun h => h)
      clear h1
      have hs := has_step xs n k hlt
      rw [decide_eq_false HN.out, Bool.false_or] at hs
      by_cases he : gi xs k = n
      · have hd : (gi xs k == n) = true := by simp [he]
        have hin := hid (show n ∈ xs from by rw [← he]; exact gi_mem xs k hlt)
        clear hs he
        go_wp2_with fail
        go_ret
        exact ⟨congrArg (fun x => Ending.returned (.bool x)) (decide_eq_true hin.out).symm, HK.out⟩
      · have hd : (gi xs k == n) = false := by simp [he]
        have hs2 := hid (of_decide_eq_false (hs.trans hd))
        clear hs he
        go_wp2_with fail
        go_roundw
        case rel => exact ⟨k + 1, by omega, by go_num, hs2, HK⟩
        case measure => simp [intOf]; omega
    · obtain rfl : k = xs.length := by omega
      have hin := HN.out
      rw [List.take_length] at hin
      have hin := hid hin
      go_wp2_with fail
      go_ret
      exact ⟨congrArg (fun x => Ending.returned (.bool x)) (decide_eq_false hin.out).symm, HK.out⟩

theorem drop_gi (xs : List Int) (k : Nat) (h : k < xs.length) : xs.drop k = gi xs k :: xs.drop (k + 1) := by
  rw [gi_eq xs k h]; exact List.drop_eq_getElem_cons h
/-- A number put among some that rise. -/
def ins (n : Int) : List Int → List Int
  | [] => [n]
  | x :: r => if n < x then n :: x :: r else x :: ins n r
theorem ins_length (n : Int) (xs : List Int) : (ins n xs).length = xs.length + 1 := by
  induction xs with
  | nil => rfl
  | cons x r ih => unfold ins; split <;> simp [ih]
theorem info_int : (Try.prog.info? 3).map (fun i => (i.zero, i.size, i.bytes)) = some (some (.int .i64 0), 1, 8) := by kernel_rfl
set_option maxHeartbeats 400000 in
theorem insert_calls (xs : List Int) (n : Int) (A : Option Addr) (c : Nat) (w : World) (h : IntsAt w .i64 A xs) (hb : xs.length ≤ 1073741824) :
    Calls Try.prog 93 #[.slice A xs.length c, .int .i64 n] w fun e w' => ∃ v, e = .returned v ∧ OwnInts w' w.heap.size .i64 3 v (ins n xs) ∧ Keeps NoB w w' := by
  have HA := hid h
  clear h
  have hu := Try.underlying62
  go_enter Try.func93, Try.ntmps93
  go_wp2_with fail
  go_loopw [5, 6, 7] (fun v5 v6 v7 wr => ∃ (k : Nat) (ys : List Int) (b : Bool), k ≤ xs.length ∧ v7 = .int .i64 k ∧ v6 = .bool b ∧ ys.length ≤ k + 1 ∧ (b = false → ys.length ≤ k) ∧ OwnInts wr w.heap.size .i64 3 v5 ys ∧ Hid (ins n xs = ys ++ (if b then xs.drop k else ins n (xs.drop k))) ∧ Hid (Keeps NoB w wr)) (fun _ _ v7 _ => xs.length - (intOf v7).toNat)
  case atStart => exact ⟨0, [], false, Nat.zero_le _, rfl, rfl, by simp, by simp, OwnInts.empty w _ _ _ (Nat.le_refl _), rfl, (Keeps.refl _ w).alloc _⟩
  case round =>
    obtain ⟨k, ys, b, hk, rfl, rfl, hy1, hy2, hown, HI, HK⟩ := hrel
    have hsz := HK.out.size
    by_cases hlt : k < xs.length
    · obtain ⟨b0, off, rfl, h1⟩ := HA.out.get (by omega)
      have c1 : wr.cell? ⟨b0, off + k, none⟩ = some (.int .i64 (gi xs k)) := HK.out.cell (h1 k hlt) (fun h => h)
      have H1 := hid (h1 k hlt)
      clear h1
      have hdr := hid (drop_gi xs k hlt)
      cases b with
      | true =>
        go_wp2_with (at_builtin; refine wpList_app1 _ rfl _ _ 62 rfl w.heap.size 3 .i64 8 hu info_int _ _ rfl (OwnInts.alloc (by assumption) _) _ _ _ rfl (cell_one _ _ _) (by first | omega | (simp only [List.length_append, List.length_cons, List.length_nil]; omega)) (by first | omega | (simp only [List.length_append, List.length_cons, List.length_nil]; omega)) (by simp; omega) ?_; intro v1 w1 hown1 hgr1 _)
        go_roundw
        case rel => exact ⟨k + 1, ys ++ [gi xs k], true, by omega, by go_num, rfl, by simp; omega, by simp, hown1, hid (by rw [HI.out, hdr.out]; simp), (HK.out.alloc _).own (hown.alloc _) hgr1 (Nat.le_refl _)⟩
        case measure => simp [intOf]; omega
      | false =>
        have hy3 := hy2 rfl
        clear hy2
        by_cases hn : n < gi xs k
        · have hd : decide (n < gi xs k) = true := decide_eq_true hn
          have tok1 : True := trivial
          go_wp2_with (first
            | (at_builtin; have _t := tok1; go_must (refine wpList_app1 _ rfl _ _ 62 rfl w.heap.size 3 .i64 8 hu info_int _ _ rfl (hown.alloc _) _ _ _ rfl (cell_one _ _ _) (by omega) (by omega) (by simp; omega) ?_); intro v1 w1 hown1 hgr1 _; clear tok1 _t; have HK1 := hid ((HK.out.alloc _).own (hown.alloc _) hgr1 (Nat.le_refl _)); have c2 := HK1.out.cell H1.out (fun h => h); have hsz1 := HK1.out.size)
            | (at_builtin; go_must (refine wpList_app1 _ rfl _ _ 62 rfl w.heap.size 3 .i64 8 hu info_int _ _ rfl (hown1.alloc _) _ _ _ rfl (cell_one _ _ _) (by first | omega | (simp only [List.length_append, List.length_cons, List.length_nil]; omega)) (by first | omega | (simp only [List.length_append, List.length_cons, List.length_nil]; omega)) (by simp; omega) ?_); intro v2 w2 hown2 hgr2 _))
          go_roundw
          case rel => exact ⟨k + 1, ys ++ [n] ++ [gi xs k], true, by omega, by go_num, rfl, by simp; omega, by simp, hown2, hid (by rw [HI.out, hdr.out]; simp [ins, hn]), (HK1.out.alloc _).own (hown1.alloc _) hgr2 (Nat.le_refl _)⟩
          case measure => simp [intOf]; omega
        · have hd : decide (n < gi xs k) = false := decide_eq_false hn
          have hn := hid hn
          go_wp2_with (at_builtin; refine wpList_app1 _ rfl _ _ 62 rfl w.heap.size 3 .i64 8 hu info_int _ _ rfl (OwnInts.alloc (by assumption) _) _ _ _ rfl (cell_one _ _ _) (by first | omega | (simp only [List.length_append, List.length_cons, List.length_nil]; omega)) (by first | omega | (simp only [List.length_append, List.length_cons, List.length_nil]; omega)) (by simp; omega) ?_; intro v1 w1 hown1 hgr1 _)
          go_roundw
          case rel => exact ⟨k + 1, ys ++ [gi xs k], false, by omega, by go_num, rfl, by simp; omega, by simp; omega, hown1, hid (by rw [HI.out, hdr.out]; simp [ins, hn.out]), (HK.out.alloc _).own (hown.alloc _) hgr1 (Nat.le_refl _)⟩
          case measure => simp [intOf]; omega
    · obtain rfl : k = xs.length := by omega
      cases b with
      | true =>
        go_wp2_with fail
        go_ret
        refine ⟨_, rfl, ?_, HK.out⟩
        have := HI.out
        simp only [List.drop_length, if_true, List.append_nil] at this
        rw [this]; exact hown
      | false =>
        have hy3 := hy2 rfl
        clear hy2
        go_wp2_with (at_builtin; refine wpList_app1 _ rfl _ _ 62 rfl w.heap.size 3 .i64 8 hu info_int _ _ rfl (OwnInts.alloc (by assumption) _) _ _ _ rfl (cell_one _ _ _) (by first | omega | (simp only [List.length_append, List.length_cons, List.length_nil]; omega)) (by first | omega | (simp only [List.length_append, List.length_cons, List.length_nil]; omega)) (by simp; omega) ?_; intro v1 w1 hown1 hgr1 _)
        go_ret
        refine ⟨_, rfl, ?_, (HK.out.alloc _).own (hown.alloc _) hgr1 (Nat.le_refl _)⟩
        have := HI.out
        rw [List.drop_length] at this
        rw [this]; exact hown1
end Go.Proofs.Ytpkkaicpbihjfaa
