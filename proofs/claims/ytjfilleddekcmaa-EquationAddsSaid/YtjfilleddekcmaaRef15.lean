/- The numbers that are there an odd number of times: the reference's walk. Condition: a length that the list's reads bear. -/
import Derived.Test.YtjfilleddekcmaaSeqVals
import Derived.Test.YtjfilleddekcmaaOddMath
import Derived.BigQuiet
set_option linter.unusedVariables false
namespace Go.Proofs.Ytjfilleddekcmaa
open Go.RowKit

theorem count_take (xs : List Int) (x : Int) (k : Nat) (h : k < xs.length) : (xs.take (k + 1)).count x = (xs.take k).count x + (if gi xs k = x then 1 else 0) := by
  rw [List.take_succ_eq_append_getElem h, List.count_append, gi_eq xs k h]
  simp [List.count_singleton]
set_option maxHeartbeats 400000 in
theorem count_calls (xs : List Int) (n : Int) (A : Option Addr) (c : Nat) (w : World) (h : IntsAt w .i64 A xs) (hl : xs.length ≤ 1073741824) :
    Calls Try.prog 46 #[.slice A xs.length c, .int .i64 n] w fun e w' => e = .returned (.int .i64 ((xs.count n : Nat) : Int)) ∧ w' = w := by
  have HC := hid h
  have HT := hid (count_take xs n)
  have HF := hid (show (xs.take xs.length).count n = xs.count n by rw [List.take_length])
  have HLE := hid (show ∀ k, (xs.take k).count n ≤ xs.length from fun k => Nat.le_trans List.count_le_length (by rw [List.length_take]; omega))
  clear h
  obtain ⟨m, hm⟩ : ∃ m, xs.length = m := ⟨_, rfl⟩
  rw [hm] at hl ⊢
  have hmm := hid hm
  clear hm
  go_enter Try.func46, Try.ntmps46
  go_wp2_with fail
  go_loop [5, 6] (fun v5 v6 => ∃ k q : Nat, k ≤ m ∧ v6 = .int .i64 (k : Int) ∧ v5 = .int .i64 (q : Int) ∧ q ≤ 1073741824 ∧ Hid ((xs.take k).count n = q)) (fun _ v6 => m - (intOf v6).toNat)
  case atStart => exact ⟨0, 0, Nat.zero_le _, rfl, rfl, Nat.zero_le _, hid rfl⟩
  case round =>
    obtain ⟨k, q, hk, rfl, rfl, hq9, HQ⟩ := hrel
    by_cases hlt : k < m
    · obtain ⟨b, off, rfl, hc⟩ := HC.out.get (by rw [hmm.out]; omega)
      have c1 := hc k (by rw [hmm.out]; exact hlt)
      have ht := HT.out k (by rw [hmm.out]; exact hlt)
      have hle := HLE.out (k + 1)
      rw [hmm.out] at hle
      have p0 : (0 : Int) ≤ (k : Int) := by omega
      have p1 : (k : Int) < (m : Int) := by omega
      clear hc
      by_cases hx : gi xs k = n
      · have hq : (gi xs k == n) = true := by simp [hx]
        rw [if_pos hx, HQ.out] at ht
        have HT2 := hid ht
        rw [ht] at hle
        clear ht hx
        go_wp2_with fail
        go_round
        case rel => exact ⟨k + 1, q + 1, by omega, by go_num, by go_num, by omega, HT2⟩
        case measure => simp [intOf]; omega
      · have hq : (gi xs k == n) = false := by simp [hx]
        rw [if_neg hx, HQ.out] at ht
        have HT2 := hid ht
        clear ht hx hle
        go_wp2_with fail
        go_round
        case rel => exact ⟨k + 1, q, by omega, by go_num, rfl, hq9, HT2⟩
        case measure => simp [intOf]; omega
    · obtain rfl : k = m := by omega
      go_wp2_with fail
      go_ret
      refine ⟨?_, rfl⟩
      have h1 := HF.out
      rw [hmm.out, HQ.out] at h1
      rw [← h1]; rfl
/-- The best of the first k numbers: where it stands; -1: there is none. -/
def Best (l : List Int) (m k : Nat) (v : Value) : Prop :=
  (v = .int .i64 (-1) ∧ ∀ j, j < k → ¬ Cand l m (gi l j)) ∨ ∃ b : Nat, b < k ∧ v = .int .i64 (b : Int) ∧ Cand l m (gi l b) ∧ ∀ j, j < k → Cand l m (gi l j) → gi l b ≤ gi l j
theorem below_succ {p : Nat → Prop} {k : Nat} (h : ∀ j, j < k → p j) (hk : p k) : ∀ j, j < k + 1 → p j := fun j hj => by
  by_cases e : j = k
  · rw [e]; exact hk
  · exact h j (by omega)
theorem Best.no {l : List Int} {m k : Nat} {v : Value} (h : Best l m k v) (hc : ¬ Cand l m (gi l k)) : Best l m (k + 1) v := by
  rcases h with ⟨e, h⟩ | ⟨b, hb, e, h1, h2⟩
  · exact .inl ⟨e, below_succ h hc⟩
  · exact .inr ⟨b, by omega, e, h1, below_succ h2 (fun h => absurd h hc)⟩
theorem Best.keep {l : List Int} {m k b : Nat} (hb : b < k) (h1 : Cand l m (gi l b)) (h2 : ∀ j, j < k → Cand l m (gi l j) → gi l b ≤ gi l j) (hc : ¬ gi l k < gi l b) : Best l m (k + 1) (.int .i64 (b : Int)) :=
  .inr ⟨b, by omega, rfl, h1, below_succ h2 (fun _ => by omega)⟩
theorem Best.first {l : List Int} {m k : Nat} (h : ∀ j, j < k → ¬ Cand l m (gi l j)) (hc : Cand l m (gi l k)) : Best l m (k + 1) (.int .i64 (k : Int)) :=
  .inr ⟨k, by omega, rfl, hc, below_succ (fun j hj hj2 => absurd hj2 (h j hj)) (fun _ => Int.le_refl _)⟩
theorem Best.take {l : List Int} {m k b : Nat} (h2 : ∀ j, j < k → Cand l m (gi l j) → gi l b ≤ gi l j) (hc : Cand l m (gi l k)) (hlt : gi l k < gi l b) : Best l m (k + 1) (.int .i64 (k : Int)) :=
  .inr ⟨k, by omega, rfl, hc, below_succ (fun j hj hj2 => by have := h2 j hj hj2; omega) (fun _ => Int.le_refl _)⟩
theorem rem_odd (n : Nat) (h : n % 2 = 1) : (((n : Nat) : Int) % 2 == 1) = true := by simp; omega
theorem rem_even (n : Nat) (h : ¬ n % 2 = 1) : (((n : Nat) : Int) % 2 == 1) = false := by simp; omega
theorem gi_take (xs : List Int) (m q : Nat) (h : q < m) : gi (xs.take m) q = gi xs q := by
  unfold gi; rw [List.getD_eq_getElem?_getD, List.getD_eq_getElem?_getD, List.getElem?_take_of_lt h]
theorem OwnInts.reads_at {w : World} {base : Nat} {k : IntKind} {e : TypeId} {A : Option Addr} {n c : Nat} {xs : List Int} (h : OwnInts w base k e (.slice A n c) xs) (h0 : 0 < xs.length) : ∃ b off, A = some ⟨b, off, none⟩ ∧ ∀ j, j < xs.length → w.cell? ⟨b, off + j, none⟩ = some (.int k (gi xs j)) := by
  obtain ⟨A', c', e', _, hat⟩ := h.reads
  injection e' with e1 e2 e3
  subst e1
  exact hat.get h0
def lenOf : Value → Nat
  | .slice _ n _ => n
  | _ => 0
set_option maxHeartbeats 4000000 in
set_option maxRecDepth 20000 in
theorem rodd_calls (xs : List Int) (A : Option Addr) (c : Nat) (w : World) (h : IntsAt w .i64 A xs) (hl : xs.length ≤ 1073741824) :
    Calls Try.prog 19 #[.slice A xs.length c] w fun e w' => ∃ v, e = .returned v ∧ OwnInts w' w.heap.size .i64 3 v (oddN xs) ∧ Keeps NoB w w' := by
  have HC := hid h
  have hu := Try.underlying25
  have HLO := hid (Nat.le_trans (oddN_length xs) hl)
  clear h
  obtain ⟨n, hn⟩ : ∃ n, xs.length = n := ⟨_, rfl⟩
  rw [hn] at hl ⊢
  have hnn := hid hn
  clear hn
  go_enter Try.func19, Try.ntmps19
  go_wp2_with fail
  go_loopw [3] (fun v3 wr => ∃ m : Nat, m ≤ (oddN xs).length ∧ Hid (OwnInts wr w.heap.size .i64 3 v3 ((oddN xs).take m)) ∧ Hid (Keeps NoB w wr)) (fun v3 _ => 2000000000 - (lenOf v3))
  case atStart => exact ⟨0, Nat.zero_le _, OwnInts.empty _ _ _ _ (Nat.le_refl _), hid ((Keeps.refl NoB w).alloc _)⟩
  case round =>
    obtain ⟨m, hm, HO, HK⟩ := hrel
    obtain ⟨Ao, co, rfl, hco, hato⟩ := HO.out.reads
    have hlen : ((oddN xs).take m).length = m := by rw [List.length_take]; omega
    rw [hlen] at HO hco ⊢
    have HAO := hid hato
    have hm9 : m ≤ 1073741824 := Nat.le_trans hm HLO.out
    have HM := hid hm
    have hlen := hid hlen
    clear hato hco hm
    go_wp2_with fail
    go_loopw [4, 5] (fun v4 v5 wr => ∃ k : Nat, k ≤ n ∧ v5 = .int .i64 (k : Int) ∧ Hid (Best xs m k v4) ∧ Hid (OwnInts wr w.heap.size .i64 3 (.slice Ao m co) ((oddN xs).take m)) ∧ Hid (Keeps NoB w wr)) (fun _ v5 _ => n - (intOf v5).toNat)
    case atStart => exact ⟨0, Nat.zero_le _, rfl, .inl ⟨rfl, fun j hj => absurd hj (Nat.not_lt_zero _)⟩, HO, HK⟩
    case round =>
      obtain ⟨k, hk, rfl, HB, HO, HK⟩ := hrel
      by_cases hlt : k < n
      · obtain ⟨b, off, rfl, hc⟩ := HC.out.get (by rw [hnn.out]; omega)
        have c1 := HK.out.cell (hc k (by rw [hnn.out]; exact hlt)) (fun h => h)
        have hcg := hid hc
        have p0 : (0 : Int) ≤ (k : Int) := by omega
        have p1 : (k : Int) < (n : Int) := by omega
        clear hc
        have HCC := hid (show ∀ w' : World, IntsAt w' .i64 (some ⟨b, off, none⟩) xs → Calls Try.prog 46 #[.slice (some ⟨b, off, none⟩) n c, .int .i64 (gi xs k)] w' fun e w2 => e = .returned (.int .i64 ((xs.count (gi xs k) : Nat) : Int)) ∧ w2 = w' from fun w' h => by
          have h9 := count_calls xs (gi xs k) (some ⟨b, off, none⟩) c w' h (by rw [hnn.out]; exact hl)
          rw [hnn.out] at h9; exact h9)
        by_cases hodd : (xs.count (gi xs k)) % 2 = 1
        · have HODD := hid hodd
          have hrem := rem_odd _ hodd
          have HOD := hid hodd
          clear hodd
          cases m with
          | zero =>
            have hz : (((0 : Nat) : Int) == 0) = true := rfl
            have HCD := hid (show Cand xs 0 (gi xs k) from ⟨HOD.out, .inl rfl⟩)
            rcases HB.out with ⟨rfl, hno⟩ | ⟨b9, hb9, rfl, hcb, hle9⟩
            · have HBN := hid (Best.first hno HCD.out)
              clear hno
              go_wp2_with fail
              go_quiet (first | (go_at_call 46; refine Calls.quiet_of_same (HCC.out _ (HC.out.kept (HK.out.drewN _)))))
              go_wp2_with fail
              go_roundw
              case rel => exact ⟨k + 1, by omega, by go_num, HBN, hid (HO.out.drewN _), hid (HK.out.drewN _)⟩
              case measure => simp [intOf]; omega
            · have c9 := HK.out.cell (hcg.out b9 (by rw [hnn.out]; omega)) (fun h => h)
              have p2 : (0 : Int) ≤ (b9 : Int) := by omega
              have p3 : (b9 : Int) < (n : Int) := by omega
              have d3 : decide ((b9 : Int) < 0) = false := decide_eq_false (by omega)
              by_cases hx9 : gi xs k < gi xs b9
              · have d9 : decide (gi xs k < gi xs b9) = true := decide_eq_true hx9
                have HBN := hid (Best.take hle9 HCD.out hx9)
                clear hcb hle9 hx9
                go_wp2_with fail
                go_quiet (first | (go_at_call 46; refine Calls.quiet_of_same (HCC.out _ (HC.out.kept (HK.out.drewN _)))))
                go_wp2_with fail
                go_roundw
                case rel => exact ⟨k + 1, by omega, by go_num, HBN, hid (HO.out.drewN _), hid (HK.out.drewN _)⟩
                case measure => simp [intOf]; omega
              · have d9 : decide (gi xs k < gi xs b9) = false := decide_eq_false hx9
                have HBN := hid (Best.keep hb9 hcb hle9 hx9)
                clear hcb hle9 hx9
                go_wp2_with fail
                go_quiet (first | (go_at_call 46; refine Calls.quiet_of_same (HCC.out _ (HC.out.kept (HK.out.drewN _)))))
                go_wp2_with fail
                go_roundw
                case rel => exact ⟨k + 1, by omega, by go_num, HBN, hid (HO.out.drewN _), hid (HK.out.drewN _)⟩
                case measure => simp [intOf]; omega
          | succ q =>
            have hz : (((q : Nat) : Int) + 1 == 0) = false := by simp; omega
            have hsub : IntKind.i64.wrap ((q : Nat) : Int) = (q : Int) := IntWalk.i64_in _ (by omega)
            have p5 : (0 : Int) ≤ (q : Int) := by omega
            have p6 : (q : Int) < (q : Int) + 1 := by omega
            obtain ⟨bo, oo, rfl, hco2⟩ := HO.out.reads_at (by rw [hlen.out]; omega)
            have c2 := hco2 q (by rw [hlen.out]; omega)
            have ht2 : gi ((oddN xs).take (q + 1)) q = gi (oddN xs) q := gi_take _ _ _ (by omega)
            rw [ht2] at c2
            clear hco2 ht2
            by_cases hgt : gi (oddN xs) q < gi xs k
            · have d1 : decide (gi (oddN xs) q < gi xs k) = true := decide_eq_true hgt
              have HGT := hid hgt
              clear hgt
              have HCD := hid (show Cand xs (q + 1) (gi xs k) from ⟨HOD.out, .inr HGT.out⟩)
              rcases HB.out with ⟨rfl, hno⟩ | ⟨b9, hb9, rfl, hcb, hle9⟩
              · have HBN := hid (Best.first hno HCD.out)
                clear hno
                go_wp2_with fail
                go_quiet (first | (go_at_call 46; refine Calls.quiet_of_same (HCC.out _ (HC.out.kept (HK.out.drewN _)))))
                go_wp2_with fail
                go_roundw
                case rel => exact ⟨k + 1, by omega, by go_num, HBN, hid (HO.out.drewN _), hid (HK.out.drewN _)⟩
                case measure => simp [intOf]; omega
              · have c9 := HK.out.cell (hcg.out b9 (by rw [hnn.out]; omega)) (fun h => h)
                have p2 : (0 : Int) ≤ (b9 : Int) := by omega
                have p3 : (b9 : Int) < (n : Int) := by omega
                have d3 : decide ((b9 : Int) < 0) = false := decide_eq_false (by omega)
                by_cases hx9 : gi xs k < gi xs b9
                · have d9 : decide (gi xs k < gi xs b9) = true := decide_eq_true hx9
                  have HBN := hid (Best.take hle9 HCD.out hx9)
                  clear hcb hle9 hx9
                  go_wp2_with fail
                  go_quiet (first | (go_at_call 46; refine Calls.quiet_of_same (HCC.out _ (HC.out.kept (HK.out.drewN _)))))
                  go_wp2_with fail
                  go_roundw
                  case rel => exact ⟨k + 1, by omega, by go_num, HBN, hid (HO.out.drewN _), hid (HK.out.drewN _)⟩
                  case measure => simp [intOf]; omega
                · have d9 : decide (gi xs k < gi xs b9) = false := decide_eq_false hx9
                  have HBN := hid (Best.keep hb9 hcb hle9 hx9)
                  clear hcb hle9 hx9
                  go_wp2_with fail
                  go_quiet (first | (go_at_call 46; refine Calls.quiet_of_same (HCC.out _ (HC.out.kept (HK.out.drewN _)))))
                  go_wp2_with fail
                  go_roundw
                  case rel => exact ⟨k + 1, by omega, by go_num, HBN, hid (HO.out.drewN _), hid (HK.out.drewN _)⟩
                  case measure => simp [intOf]; omega
            · have d1 : decide (gi (oddN xs) q < gi xs k) = false := decide_eq_false hgt
              have HBN := hid (HB.out.no (fun h => by rcases h.2 with h | h; omega; exact hgt h))
              clear hgt
              go_wp2_with fail
              go_quiet (fail)
              go_wp2_with fail
              go_roundw
              case rel => exact ⟨k + 1, by omega, by go_num, HBN, hid (HO.out.drewN _), hid (HK.out.drewN _)⟩
              case measure => simp [intOf]; omega
        · have HODD := hid hodd
          have hrem := rem_even _ hodd
          have HOD := hid hodd
          clear hodd
          cases m with
          | zero =>
            have hz : (((0 : Nat) : Int) == 0) = true := rfl
            have HBN := hid (HB.out.no (fun h => HOD.out h.1))
            go_wp2_with fail
            go_quiet (first | (go_at_call 46; refine Calls.quiet_of_same (HCC.out _ (HC.out.kept (HK.out.drewN _)))))
            go_wp2_with fail
            go_roundw
            case rel => exact ⟨k + 1, by omega, by go_num, HBN, hid (HO.out.drewN _), hid (HK.out.drewN _)⟩
            case measure => simp [intOf]; omega
          | succ q =>
            have hz : (((q : Nat) : Int) + 1 == 0) = false := by simp; omega
            have hsub : IntKind.i64.wrap ((q : Nat) : Int) = (q : Int) := IntWalk.i64_in _ (by omega)
            have p5 : (0 : Int) ≤ (q : Int) := by omega
            have p6 : (q : Int) < (q : Int) + 1 := by omega
            obtain ⟨bo, oo, rfl, hco2⟩ := HO.out.reads_at (by rw [hlen.out]; omega)
            have c2 := hco2 q (by rw [hlen.out]; omega)
            have ht2 : gi ((oddN xs).take (q + 1)) q = gi (oddN xs) q := gi_take _ _ _ (by omega)
            rw [ht2] at c2
            clear hco2 ht2
            by_cases hgt : gi (oddN xs) q < gi xs k
            · have d1 : decide (gi (oddN xs) q < gi xs k) = true := decide_eq_true hgt
              have HGT := hid hgt
              clear hgt
              have HBN := hid (HB.out.no (fun h => HOD.out h.1))
              go_wp2_with fail
              go_quiet (first | (go_at_call 46; refine Calls.quiet_of_same (HCC.out _ (HC.out.kept (HK.out.drewN _)))))
              go_wp2_with fail
              go_roundw
              case rel => exact ⟨k + 1, by omega, by go_num, HBN, hid (HO.out.drewN _), hid (HK.out.drewN _)⟩
              case measure => simp [intOf]; omega
            · have d1 : decide (gi (oddN xs) q < gi xs k) = false := decide_eq_false hgt
              have HBN := hid (HB.out.no (fun h => by rcases h.2 with h | h; omega; exact hgt h))
              clear hgt
              go_wp2_with fail
              go_quiet (fail)
              go_wp2_with fail
              go_roundw
              case rel => exact ⟨k + 1, by omega, by go_num, HBN, hid (HO.out.drewN _), hid (HK.out.drewN _)⟩
              case measure => simp [intOf]; omega
      · obtain rfl : k = n := by omega
        rcases HB.out with ⟨rfl, hno⟩ | ⟨b9, hb9, rfl, hcb, hle9⟩
        · have hend := hid (cand_none HM.out (by rw [hnn.out]; exact hno))
          clear hno
          go_wp2_with fail
          go_ret
          refine ⟨_, rfl, ?_, HK.out⟩
          have h9 := HO.out
          rw [hend.out, List.take_length] at h9
          rw [hend.out]
          exact h9
        · obtain ⟨b, off, rfl, hc⟩ := HC.out.get (by rw [hnn.out]; omega)
          have c9 := HK.out.cell (hc b9 (by rw [hnn.out]; exact hb9)) (fun h => h)
          obtain ⟨hm2, he9⟩ := cand_least hcb (by rw [hnn.out]; exact hle9) HM.out
          have HM2 := hid hm2
          have HE9 := hid (show (oddN xs).take (m + 1) = (oddN xs).take m ++ [gi xs b9] by rw [List.take_succ_eq_append_getElem hm2, he9, gi_eq _ m hm2])
          have p2 : (0 : Int) ≤ (b9 : Int) := by omega
          have p3 : (b9 : Int) < (k : Int) := by omega
          have d3 : decide ((b9 : Int) < 0) = false := decide_eq_false (by omega)
          have hm8 : m + 1 ≤ 1073741824 := Nat.le_trans hm2 HLO.out
          clear hc hcb hle9 hm2 he9
          go_wp2_with (at_builtin; go_must (refine wpList_app1 _ rfl _ _ 25 rfl w.heap.size 3 .i64 8 hu info_int _ _ rfl (OwnInts.alloc HO.out _) _ _ _ rfl (cell_one _ _ _) (by rw [hlen.out]; omega) (by rw [hlen.out]; omega) (by have := HK.out.size; simp at this ⊢; omega) ?_); intro v4 w4 hown4 hgr4 _)
          have hown5 : OwnInts w4 w.heap.size .i64 3 v4 ((oddN xs).take (m + 1)) := by rw [HE9.out]; exact hown4
          have hlen5 : ((oddN xs).take (m + 1)).length = m + 1 := by rw [List.length_take]; have := HM2.out; omega
          obtain ⟨A5, c5, rfl, _, _⟩ := hown5.reads
          rw [hlen5] at *
          go_roundw
          case rel => exact ⟨m + 1, HM2.out, hid hown5, hid ((HK.out.alloc _).own (OwnInts.alloc HO.out _) hgr4 (Nat.le_refl _))⟩
          case measure => simp [lenOf]; omega
end Go.Proofs.Ytjfilleddekcmaa
