/- The walk of the law SampleAll: it returns true and writes nothing that was there. No condition but that the numbers are of their kinds. -/
import Derived.Test.YtdjfacdlcnnjnaaLaw09
import Derived.Test.YtdjfacdlcnnjnaaSampleAllMath
set_option linter.unusedVariables false
namespace Go.Proofs.Ytdjfacdlcnnjnaa
open Go.RowKit
/-- By how many of the first s seeds i is left out. -/
noncomputable def outN (n seed i : Nat) : Nat → Nat
  | 0 => 0
  | s + 1 => outN n seed i s + if (i : Int) ∈ someN (seedN [seed, s]) n ((n : Int) - 1) then 0 else 1
theorem outN_le (n seed i s : Nat) : outN n seed i s ≤ s := by
  induction s with
  | zero => exact Nat.le_refl _
  | succ s ih => unfold outN; split <;> omega
theorem outN_pos (n seed i : Nat) : ∀ s s', s' < s → ¬ (i : Int) ∈ someN (seedN [seed, s']) n ((n : Int) - 1) → 0 < outN n seed i s := by
  intro s
  induction s with
  | zero => intro s' h; omega
  | succ s ih =>
    intro s' h hn
    unfold outN
    rcases Nat.lt_or_ge s' s with h1 | h1
    · have := ih s' h1 hn; omega
    · obtain rfl : s' = s := by omega
      rw [if_neg hn]; omega
noncomputable def rowN (n seed s k : Nat) : List Int := (List.range n).map fun i => ((if i < k then outN n seed i (s + 1) else outN n seed i s : Nat) : Int)
theorem rowN_length (n seed s k : Nat) : (rowN n seed s k).length = n := by simp [rowN]
theorem rowN_gi (n seed s k i : Nat) (h : i < n) : gi (rowN n seed s k) i = ((if i < k then outN n seed i (s + 1) else outN n seed i s : Nat) : Int) := by simp [gi, rowN, h]
theorem rowN_full (n seed s : Nat) : rowN n seed s n = rowN n seed (s + 1) 0 := by
  unfold rowN
  apply List.map_congr_left
  intro i hi
  rw [if_pos (List.mem_range.1 hi), if_neg (Nat.not_lt_zero _)]
theorem rowN_set (n seed s k : Nat) (h : k < n) : (rowN n seed s k).set k ((outN n seed k (s + 1) : Nat) : Int) = rowN n seed s (k + 1) := by
  apply List.ext_getElem (by simp [rowN])
  intro i h1 h2
  rw [List.getElem_set]
  simp only [rowN, List.getElem_map, List.getElem_range]
  split
  · rename_i e; subst e; rw [if_pos (by omega)]
  · rename_i e
    by_cases hi : i < k
    · rw [if_pos hi, if_pos (by omega)]
    · rw [if_neg hi, if_neg (by omega)]
theorem rowN_same (n seed s k : Nat) (h : k < n) (he : outN n seed k (s + 1) = outN n seed k s) : rowN n seed s (k + 1) = rowN n seed s k := by
  unfold rowN
  apply List.map_congr_left
  intro i hi
  by_cases h1 : i < k
  · rw [if_pos h1, if_pos (by omega)]
  · by_cases h2 : i = k
    · subst h2; rw [if_pos (by omega), if_neg h1, he]
    · rw [if_neg h1, if_neg (by omega)]
set_option maxHeartbeats 1600000 in
set_option maxRecDepth 20000 in
theorem sampleAll_walk (a b : Int) (w : World) (ha : 0 ≤ a) (ha' : a ≤ 255) (hb : 0 ≤ b) (hb' : b < 18446744073709551616) :
    Calls Try.prog 8 #[.int .u8 a, .int .u64 b] w fun e w' => e = .returned (.bool true) ∧ Keeps NoB w w' := by
  obtain ⟨n, hn⟩ : ∃ n : Nat, 1 + a % 6 = (n : Int) := ⟨(1 + a % 6).toNat, by omega⟩
  obtain ⟨sd, hsd⟩ : ∃ sd : Nat, b % 64 = (sd : Int) := ⟨(b % 64).toNat, by omega⟩
  have hn1 : 1 ≤ n := by omega
  have hn6 : n ≤ 6 := by omega
  have hs64 : sd < 64 := by omega
  have HN := hid hn
  have HS := hid hsd
  clear hn hsd
  obtain ⟨i0, hi, hz0, hz1, hz2⟩ := info_parts info_int
  have hu := Try.underlying27
  go_enter Try.func8, Try.ntmps8
  go_wp2_with fail
  refine (speaks09_calls _).mono ?_
  rintro e w1 ⟨rfl, HK1⟩
  have HK1 := hid HK1
  go_wp2_with fail
  rw [HS.out, HN.out]
  refine (new_calls [sd] _ 1 _ (NatsAt.ofBlock [sd] (heap_alloc_new w1 _) (by simp) (by simp; omega))).mono ?_
  rintro e w2 ⟨g, rfl, hg, hr2, HK2⟩
  have hg := hid (Nat.le_trans (Nat.le_trans HK1.out.size (Nat.le_trans (Nat.le_succ _) (by rw [World.size_alloc] at hg; exact hg))) (Nat.le_refl g))
  have hr2 := hid hr2
  have HK2 := hid ((HK1.out.alloc _).fresh HK2)
  go_wp2_with fail
  refine (some_calls g (seedN [sd]) n n _ hr2.out (by omega) (by omega) (by omega) (by omega)).mono ?_
  rintro e w3 ⟨v3, rfl, hown3, hr3, HK3⟩
  obtain ⟨A3, c3, rfl, hc3, hat3⟩ := hown3.reads
  have hat3 := hid hat3
  have HK3 := hid (HK2.out.then HK3 (fun i (e : i = g) hi => by have := hg.out; omega))
  clear hown3 hr3
  have hall := hid (someN_all (seedN [sd]) n)
  have hlen : (someN (seedN [sd]) n n).length = n := by rw [hall.out]; simp
  have hgi := hid (show ∀ k, k < n → gi (someN (seedN [sd]) n n) k = (k : Int) by intro k hk; rw [hall.out]; simp [gi, hk])
  generalize someN (seedN [sd]) n n = l at *
  have hll : l.length ≤ n := by omega
  have hll2 : n ≤ l.length := by omega
  have HL := hid hlen
  clear hlen
  go_wp2_with fail
  go_loopw [29] (fun v wr => ∃ k : Nat, k ≤ n ∧ v = .int .i64 k ∧ Hid (Keeps NoB w3 wr)) (fun v _ => n - (intOf v).toNat)
  case atStart => exact ⟨0, Nat.zero_le _, rfl, Keeps.refl _ _⟩
  case round =>
    obtain ⟨k, hk, rfl, HK⟩ := hrel
    by_cases hlt : k < n
    · obtain ⟨b0, off, rfl, hh⟩ := hat3.out.get (by omega)
      have c1 : wr.cell? ⟨b0, off + k, none⟩ = some (.int .i64 (k : Int)) := by rw [← hgi.out k hlt]; exact HK.out.cell (hh k (by omega)) (fun h => h)
      clear hh
      have d2 : ((k : Int) != (k : Int)) = false := by simp
      go_wp2_with fail
      go_roundw
      case rel => exact ⟨k + 1, by omega, by go_num, HK⟩
      case measure => simp [intOf]; omega
    · obtain rfl : n = k := by omega
      have HK3 := hid (HK3.out.fresh HK.out)
      clear hat3 hgi hall HK2 HK1
      go_wp2_with (at_make; go_must (refine wpList_make_full _ rfl _ _ _ rfl w.heap.size 3 i0 (.int .i64 0) 1 hu hi hz0 hz1 .i64 .i64 _ _ n rfl rfl rfl rfl (by rw [hz2]; omega) (by unfold maxLen; omega) HK3.out.size ?_); intro w4 hown4 hgr4)
      have HK4 := hid (HK3.out.grown hgr4 (fun i e => by cases e))
      have hgo := hid (show w.heap.size ≤ wr.heap.size from HK3.out.size)
      have hown4 : OwnInts w4 w.heap.size .i64 3 (.slice (some ⟨wr.heap.size, 0, none⟩) n n) (rowN n sd 0 0) := by
        unfold OwnInts
        rw [rowN_length]
        have e : (madeCells (Value.int .i64 0).cells (n * 1)).toList = (rowN n sd 0 0).map (Value.int .i64) := by
          rw [Nat.mul_one]
          apply List.ext_getElem
          · simp [madeCells, rowN, Value.cells]
          · intro i h1 h2
            simp [madeCells, rowN, Value.cells, outN, Nat.mod_one]
        rw [← e]; exact hown4
      generalize wr.heap.size = gr at *
      clear hgr4
      go_loopw [47] (fun v wr => ∃ s : Nat, s ≤ 200 ∧ v = .int .u64 s ∧ OwnInts wr w.heap.size .i64 3 (.slice (some ⟨gr, 0, none⟩) n n) (rowN n sd s 0) ∧ Hid (Keeps NoB w wr)) (fun v _ => 200 - (intOf v).toNat)
      case atStart => exact ⟨0, Nat.zero_le _, rfl, hown4, HK4.out⟩
      case round =>
        obtain ⟨s, hs, rfl, hown, HKs⟩ := hrel
        by_cases hlt2 : s < 200
        · obtain ⟨wo, hwo⟩ : ∃ wo : World, wo = wr := ⟨_, rfl⟩
          subst hwo
          go_wp2_with fail
          refine (new_calls [sd, s] _ 2 _ (NatsAt.ofBlock [sd, s] (heap_alloc_new wo _) (by simp) (by simp; omega))).mono ?_
          rintro e w5 ⟨g5, rfl, hg5, hr5, HK5⟩
          have hg5 := hid (show wo.heap.size ≤ g5 by rw [World.size_alloc] at hg5; omega)
          have hr5 := hid hr5
          have hown5 : OwnInts w5 w.heap.size .i64 3 (.slice (some ⟨gr, 0, none⟩) n n) (rowN n sd s 0) := (hown.alloc _).kept HK5
          have HK5 := hid ((HKs.out.alloc _).fresh HK5)
          have hgr5 := hid (hown.base_le gr rfl)
          have hd1 := hid (show ((n : Int) - 1 ≤ n) by omega)
          go_wp2_with fail
          refine (some_calls g5 (seedN [sd, s]) n ((n : Int) - 1) _ hr5.out (by omega) (by omega) (by omega) (by omega)).mono ?_
          rintro e w6 ⟨v6, rfl, hown6, hr6, HK6⟩
          have hown7 : OwnInts w6 w.heap.size .i64 3 (.slice (some ⟨gr, 0, none⟩) n n) (rowN n sd s 0) := hown5.keeps HK6 (fun q hq (e : q = g5) => by have h1 := hgr5.out.2; have h2 := hg5.out; simp [Value.ownBlock] at hq; omega)
          have hb6 := hid hown6.base_le
          obtain ⟨A6, c6, rfl, hc6, hat6⟩ := hown6.reads
          have hne6 := hid (show ∀ b off, A6 = some ⟨b, off, none⟩ → 0 < (someN (seedN [sd, s]) n ((n : Int) - 1)).length → ¬ b = gr by
            intro q off e h0 hq
            have h1 := (hb6.out q (by rw [e]; rfl)).1
            have h2 := hown5.base_le gr rfl
            omega)
          have hat6 := hid hat6
          have HK6 := hid (HK5.out.then HK6 (fun i (e : i = g5) hi => by have := hg5.out; have := HKs.out.size; omega))
          have hS := hid (someN_sorted (seedN [sd, s]) n ((n : Int) - 1))
          have hL := hid (someN_length (seedN [sd, s]) n ((n : Int) - 1))
          have hll : (someN (seedN [sd, s]) n ((n : Int) - 1)).length ≤ 6 := by rw [hL.out]; have := cnt_le (n : Int) ((n : Int) - 1); omega
          have hO := hid (show ∀ i, outN n sd i (s + 1) = outN n sd i s + if (i : Int) ∈ someN (seedN [sd, s]) n ((n : Int) - 1) then 0 else 1 from fun _ => rfl)
          generalize someN (seedN [sd, s]) n ((n : Int) - 1) = l6 at *
          clear hown6 hr6 hown5 hr5 hown
          go_wp2_with fail
          go_loopw [59] (fun v wr2 => ∃ k : Nat, k ≤ n ∧ v = .int .i64 k ∧ OwnInts wr2 w.heap.size .i64 3 (.slice (some ⟨gr, 0, none⟩) n n) (rowN n sd s k) ∧ Hid (IntsAt wr2 .i64 A6 l6) ∧ Hid (Keeps NoB w wr2)) (fun v _ => n - (intOf v).toNat)
          case atStart => exact ⟨0, Nat.zero_le _, rfl, hown7, hat6.out, HK6.out⟩
          case round =>
            obtain ⟨k, hk, rfl, hown, hat, HK⟩ := hrel
            by_cases hlt3 : k < n
            · go_wp2_with fail
              refine (shas_calls l6 (k : Int) A6 c6 _ hat.out hS.out (by omega)).mono ?_
              rintro e w8 ⟨rfl, HK8⟩
              have hown8 := hown.kept HK8
              have hat8 := hid (hat.out.kept HK8)
              have HK8 := hid (HK.out.fresh HK8)
              have hOk := hid (hO.out k)
              by_cases hin : (k : Int) ∈ l6
              · have hd : decide ((k : Int) ∈ l6) = true := decide_eq_true hin
                have e8 := rowN_same n sd s k hlt3 (by rw [hOk.out, if_pos hin]; rfl)
                rw [← e8] at hown8
                clear e8
                go_wp2_with fail
                go_roundw
                case rel => exact ⟨k + 1, by omega, by go_num, hown8, hat8, HK8⟩
                case measure => simp [intOf]; omega
              · have hd : decide ((k : Int) ∈ l6) = false := decide_eq_false hin
                have hcell : w8.cell? ⟨gr, k, none⟩ = some (.int .i64 ((outN n sd k s : Nat) : Int)) := by
                  have := hown8.cell (j := k) (by rw [rowN_length]; exact hlt3)
                  rw [rowN_gi _ _ _ _ _ hlt3, if_neg (Nat.lt_irrefl k)] at this
                  exact this
                have hfr := hown8.free k
                have hle := outN_le n sd k s
                have hset := hid (show OwnInts (w8.setCell ⟨gr, k, none⟩ (.int .i64 ((outN n sd k s : Nat) + 1))) w.heap.size .i64 3 (.slice (some ⟨gr, 0, none⟩) n n) (rowN n sd s (k + 1)) by
                  have := hown8.set (j := k) (by rw [rowN_length]; exact hlt3) (((outN n sd k (s + 1) : Nat) : Int))
                  rw [rowN_set _ _ _ _ hlt3, hOk.out, if_neg hin] at this
                  exact this)
                have hgr8 := hid (hown8.base_le gr rfl)
                have hat9 := hid (hat8.out.keeps (Keeps.one w8 gr k (.int .i64 ((outN n sd k s : Nat) + 1))) hne6.out)
                have HK9 := hid (HK8.out.setCell (p := ⟨gr, k, none⟩) (fun h => absurd h (by have := hgr8.out.1; simp only; omega)) (.int .i64 ((outN n sd k s : Nat) + 1)))
                clear hown8
                generalize outN n sd k s = oc at *
                go_wp2_with fail
                go_roundw
                case rel => exact ⟨k + 1, by omega, by go_num, hset.out, hat9, HK9⟩
                case measure => simp [intOf]; omega
            · obtain rfl : n = k := by omega
              rw [rowN_full] at hown
              go_wp2_with fail
              go_roundw
              case rel => exact ⟨s + 1, by omega, by go_num, hown, HK⟩
              case measure => simp [intOf]; omega
        · obtain rfl : 200 = s := by omega
          go_wp2_with fail
          go_loopw [76] (fun v wr2 => ∃ k : Nat, k ≤ n ∧ v = .int .i64 k ∧ OwnInts wr2 w.heap.size .i64 3 (.slice (some ⟨gr, 0, none⟩) n n) (rowN n sd 200 0) ∧ Hid (Keeps NoB w wr2)) (fun v _ => n - (intOf v).toNat)
          case atStart => exact ⟨0, Nat.zero_le _, rfl, hown, HKs.out⟩
          case round =>
            obtain ⟨k, hk, rfl, hown2, HK⟩ := hrel
            by_cases hlt3 : k < n
            · have hcell := hown2.cell (j := k) (by rw [rowN_length]; exact hlt3)
              rw [rowN_gi _ _ _ _ _ hlt3, if_neg (Nat.not_lt_zero k)] at hcell
              have hpos : 0 < outN n sd k 200 := by
                obtain ⟨s, h1, h2⟩ := left_out n sd k hn1 hn6 hs64 hlt3
                exact outN_pos n sd k 200 s h1 h2
              have hne : (((outN n sd k 200 : Nat) : Int) == 0) = false := by simp; omega
              generalize outN n sd k 200 = oc at *
              go_wp2_with fail
              go_roundw
              case rel => exact ⟨k + 1, by omega, by go_num, hown2, HK⟩
              case measure => simp [intOf]; omega
            · go_wp2_with fail
              go_ret
              exact ⟨rfl, HK.out⟩
end Go.Proofs.Ytdjfacdlcnnjnaa
