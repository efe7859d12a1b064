/- The law ClosureOrder: its walk. Conditions: lengths that memory bears. -/
import Derived.Test.YtkjaacpcnjakcaaSpeaks16
import Derived.Test.YtkjaacpcnjakcaaBig16
import Derived.Test.YtkjaacpcnjakcaaClosureReaches
import Derived.IntWalk
set_option linter.unusedVariables false
namespace Go.Proofs.Ytkjaacpcnjakcaa
open Go.RowKit

/-- The equations, the last one first, each twice. -/
def backN (eqs : List (List Int)) (k : Nat) : List (List Int) := (List.range k).flatMap fun i => [gl eqs (eqs.length - 1 - i), gl eqs (eqs.length - 1 - i)]
theorem backN_succ (eqs : List (List Int)) (k : Nat) : backN eqs (k + 1) = backN eqs k ++ [gl eqs (eqs.length - 1 - k), gl eqs (eqs.length - 1 - k)] := by
  unfold backN; rw [List.range_succ, List.flatMap_append]; simp
theorem backN_length (eqs : List (List Int)) (k : Nat) : (backN eqs k).length = 2 * k := by
  induction k with
  | zero => rfl
  | succ k ih => rw [backN_succ, List.length_append, ih]; simp; omega
theorem mem_backN (eqs : List (List Int)) (of : List Int) : of ∈ backN eqs eqs.length ↔ of ∈ eqs := by
  unfold backN
  rw [List.mem_flatMap]
  constructor
  · rintro ⟨i, hi, h⟩
    have hi := List.mem_range.1 hi
    have : of = gl eqs (eqs.length - 1 - i) := by simpa using h
    rw [this]; exact gl_mem (by omega)
  · intro h
    obtain ⟨j, hj, rfl⟩ := List.getElem_of_mem h
    refine ⟨eqs.length - 1 - j, List.mem_range.2 (by omega), ?_⟩
    rw [show eqs.length - 1 - (eqs.length - 1 - j) = j by omega, gl_eq eqs j hj]
    simp
theorem backN_flat (eqs : List (List Int)) (k : Nat) (h : ∀ of ∈ eqs, of.length ≤ 400) (hk : k ≤ eqs.length) : (backN eqs k).flatten.length ≤ 800 * k := by
  induction k with
  | zero => simp [backN]
  | succ k ih =>
    have h1 := ih (by omega)
    rw [backN_succ, List.flatten_append, List.length_append]
    have h2 := h (gl eqs (eqs.length - 1 - k)) (gl_mem (by omega))
    simp only [List.flatten_cons, List.flatten_nil, List.append_nil, List.length_append]
    omega
theorem reach_back (all : Int) (eqs : List (List Int)) : reachN all (backN eqs eqs.length) = reachN all eqs := reachN_same (mem_backN eqs)
theorem reach_more (all : Int) (eqs more : List (List Int)) : ∀ x ∈ reachN all eqs, x ∈ reachN all (backN eqs eqs.length ++ more) := by
  intro x hx
  rw [mem_reachN] at *
  exact hx.mono (fun of h => List.mem_append_left _ ((mem_backN eqs of).2 h))
set_option maxHeartbeats 1600000 in
set_option maxRecDepth 20000 in
theorem closureOrder_calls (al : Int) (eqs more : List (List Int)) (A A2 : Option Addr) (c c2 : Nat) (w : World) (h : RowsAt w A eqs) (h2 : RowsAt w A2 more) (hA2 : A2 = none → c2 = 0) (hmx : ∀ of ∈ eqs, of.length ≤ 140737488355328) (hmx2 : ∀ of ∈ more, of.length ≤ 140737488355328) (ha0 : 0 ≤ al) (ha1 : al ≤ 255) :
    Calls Try.prog 7 #[.int .u8 al, .slice A eqs.length c, .slice A2 more.length c2] w fun e w' => e = .returned (.bool true) ∧ Keeps NoB w w' := by
  have hl := h.1
  have hl2 := h2.1
  have HE := hid h
  have HE2 := hid h2
  have HA2 := hid hA2
  obtain ⟨news, hnl, hnc, hnn⟩ := h2.cells
  have HNL := hid hnl
  have HNC := hid hnc
  have HNN := hid hnn
  clear hnl hnc hnn
  have HMX := hid hmx
  have HMX2 := hid hmx2
  have HBS := hid (backN_succ eqs)
  have HBL := hid (backN_length eqs)
  have HBF := hid (fun k => backN_flat eqs k)
  have hum := Try.underlying22
  clear h h2 hmx hmx2 hA2
  have HBG := hid (fun (w0 : World) (h0 : RowsAt w0 A eqs) => big16_calls eqs A c w0 h0 HMX.out)
  have HBG2 := hid (fun (w0 : World) (h0 : RowsAt w0 A2 more) => big16_calls more A2 c2 w0 h0 HMX2.out)
  have HR1 := hid (fun (all : Int) (w0 : World) (h0 : RowsAt w0 A eqs) (hB : eqs.flatten.length ≤ 1000000) (hr : ∀ of ∈ eqs, of.length ≤ 1000000) (hn : eqs.length ≤ 1000000) (ha : all ≤ 9223372036854775807) => reach_calls all eqs A c w0 h0 hB hr hn ha)
  obtain ⟨m, hm⟩ : ∃ m, eqs.length = m := ⟨_, rfl⟩
  obtain ⟨m2, hm2⟩ : ∃ m, more.length = m := ⟨_, rfl⟩
  rw [hm] at hl HBG HR1 ⊢
  rw [hm2] at hl2 HBG2 HNL ⊢
  have HM := hid hm
  have HM2 := hid hm2
  clear hm hm2
  go_enter Try.func7, Try.ntmps7
  go_wp2_with fail
  refine (speaks16_calls w).mono ?_
  rintro e w1 ⟨rfl, hk1⟩
  have HK1 := hid hk1
  have HE1 := hid (HE.out.kept hk1)
  have HE21 := hid (HE2.out.kept hk1)
  clear hk1
  go_wp2_with fail
  refine (HBG.out w1 HE1.out).mono ?_
  rintro e w2 ⟨b, rfl, hb, rfl⟩
  cases b with
  | true =>
    go_wp2_with fail
    go_ret
    exact ⟨rfl, HK1.out⟩
  | false =>
    have hs := hb rfl
    have HS1 := hid hs.flat
    have HS2 := hid hs.each
    have HS3 := hid hs.len
    clear hb hs
    go_wp2_with fail
    refine (HBG2.out _ HE21.out).mono ?_
    rintro e w3 ⟨b, rfl, hb, rfl⟩
    cases b with
    | true =>
      go_wp2_with fail
      go_ret
      exact ⟨rfl, HK1.out⟩
    | false =>
      have hs := hb rfl
      have HT1 := hid hs.flat
      have HT2 := hid hs.each
      have HT3 := hid hs.len
      clear hb hs
      have hm4 : m ≤ 400 := by have := HS3.out; have := HM.out; omega
      have hm24 : m2 ≤ 400 := by have := HT3.out; have := HM2.out; omega
      go_wp2_with fail
      obtain ⟨al2, hal2⟩ : ∃ x, al % 40 = x := ⟨_, rfl⟩
      rw [hal2]
      have hal3 : al2 ≤ 1000 := by omega
      clear hal2
      go_loopw [8, 9, 28] (fun v8 _ v28 wr => ∃ k : Nat, k ≤ m ∧ v28 = .int .i64 (k : Int) ∧ Hid (OwnNRows (fun b => b < w.heap.size) wr w.heap.size v8 (backN eqs k)) ∧ Hid (Keeps NoB w wr)) (fun _ _ v28 _ => m - (intOf v28).toNat)
      case atStart => exact ⟨0, Nat.zero_le _, rfl, hid (OwnNRows.nil _ _ _), HK1⟩
      case round =>
        obtain ⟨k, hk, rfl, HO, HK⟩ := hrel
        by_cases hlt : k < m
        · obtain ⟨b, off, rfl, hc⟩ := HE.out.2 (by rw [HM.out]; omega)
          obtain ⟨u, cu, hu⟩ := hc (m - 1 - k) (by rw [HM.out]; omega)
          have hul := hid (show NumsIn (fun b => b < w.heap.size) wr u (gl eqs (m - 1 - k)) by
            obtain ⟨A1, c1, h1, h2, h3, h4⟩ := hu
            exact NumsIn.keeps ⟨A1, c1, h1, h2, h3, h4, h4.lt⟩ HK.out (fun _ _ h => h))
          have cu2 := HK.out.cell cu (fun h => h)
          have p0 : (0 : Int) ≤ (m : Int) - 1 - (k : Int) := by omega
          have p1 : (m : Int) - 1 - (k : Int) < (m : Int) := by omega
          have p3 : (k : Int) ≤ (m : Int) - 1 := by omega
          have p2 : ((m : Int) - 1 - (k : Int)).toNat = m - 1 - k := by omega
          have hsz := HK.out.size
          have hbl := HBL.out k
          have HBK := hid (show backN eqs (k + 1) = backN eqs k ++ [gl eqs (m - 1 - k), gl eqs (m - 1 - k)] by rw [HBS.out, HM.out])
          clear hc cu hu
          obtain ⟨A1, c1, rfl, _, _, _⟩ := hul.out
          obtain ⟨of, hof⟩ : ∃ of, gl eqs (m - 1 - k) = of := ⟨_, rfl⟩
          rw [hof] at hul cu2 HBK
          clear hof
          have HKA := hid ((Keeps.refl NoB wr).alloc (.cells #[.slice A1 of.length c1, .slice A1 of.length c1] 27))
          have HUL := hid (show NumsIn (fun b => b < w.heap.size ∧ u8.ownBlock ≠ some b) (wr.alloc (.cells #[.slice A1 of.length c1, .slice A1 of.length c1] 27)) (.slice A1 of.length c1) of from (hul.out.keeps HKA.out (fun _ _ h => h)).mono (fun b _ hb => ⟨hb, fun e => by have := (HO.out.base_le b e).1; omega⟩))
          have HCE := hid (show ∀ ad : Addr, some (⟨wr.heap.size, 0, none⟩ : Addr) = some ad → ∀ (j : Nat) (u : Value), [Value.slice A1 of.length c1, Value.slice A1 of.length c1][j]? = some u → (wr.alloc (.cells #[.slice A1 of.length c1, .slice A1 of.length c1] 27)).cell? (ad.add j) = some u from fun ad e j u hj => by
            cases e
            rw [add_plain]
            unfold World.cell?
            rw [heap_alloc_new]
            match j, hj with
            | 0, hj => simpa using hj
            | 1, hj => simpa using hj)
          have hb1 : (backN eqs k).length + 2 ≤ 1000000000 := by omega
          have hb2 : w.heap.size ≤ wr.heap.size + 1 := by omega
          go_wp2_with fail
          have q1 : IntKind.i64.wrap ((m : Int) - 1) = (m : Int) - 1 := IntWalk.i64_in _ (by omega)
          have q2 : IntKind.i64.wrap ((m : Int) - 1 - (k : Int)) = (m : Int) - 1 - (k : Int) := IntWalk.i64_in _ (by omega)
          go_region_law ((refine step_appRows rfl _ _ 22 (fun b => b < w.heap.size) rfl w.heap.size hum u8 (backN eqs k) rfl (by exact HO.out.kept HKA.out.drew) (some ⟨wr.heap.size, 0, none⟩) _ [of, of] [.slice A1 of.length c1, .slice A1 of.length c1] rfl (fun e => by cases e) rfl (by exact HCE.out) (fun j u hj => by
            match j, hj with
            | 0, hj => simp at hj; subst hj; exact HUL.out
            | 1, hj => simp at hj; subst hj; exact HUL.out) (by exact hb1) (by simp; exact hb2) ?_; intro v6 w6 hown6 hgr6 hat6))
          all_goals
            clear q1 q2 p1 p2 p3
            have HO6 := hid (show OwnNRows (fun b => b < w.heap.size) w6 w.heap.size v6 (backN eqs (k + 1)) by rw [HBK.out]; exact hown6)
            have HK6 := hid ((HK.out.fresh HKA.out.drew).grown hgr6 (fun i e hi => by have := (HO.out.base_le i e.symm).1; omega))
            clear hown6 hgr6 hat6
            go_wp2_with fail
            go_roundw
            case rel => exact ⟨k + 1, by omega, by go_num, HO6, HK6⟩
            case measure => simp [intOf]; omega
        · obtain rfl : k = m := by omega
          have hbl : (backN eqs k).length ≤ 1000 := by have := HBL.out k; omega
          have hbf := HBF.out k (HS2.out) (by rw [HM.out]; exact Nat.le_refl _)
          have hrb := hid (show reachN al2 (backN eqs k) = reachN al2 eqs by rw [← HM.out]; exact reach_back al2 eqs)
          have hrm := hid (show ∀ x ∈ reachN al2 eqs, x ∈ reachN al2 (backN eqs k ++ more) by rw [← HM.out]; exact reach_more al2 eqs more)
          have hbe := hid (show ∀ of ∈ backN eqs k, of.length ≤ 400 from fun of hof => HS2.out of ((mem_backN eqs of).1 (by rw [HM.out]; exact hof)))
          have hsz := HK.out.size
          go_wp2_with fail
          refine (HR1.out al2 wr (HE.out.kept HK.out) (by have := HS1.out; omega) (fun of hof => by have := HS2.out of hof; omega) (by omega) (by omega)).mono ?_
          rintro e w4 ⟨v4, rfl, ho4, hk4⟩
          have HO4 := hid ho4
          have HOB4 := hid (HO.out.kept hk4)
          have HK4 := hid (HK.out.fresh hk4)
          have hsz4 := hk4.size
          clear ho4 hk4
          obtain ⟨Ab, cb, rfl, _, _, hrows⟩ := HOB4.out.reads
          have HRW := hid (reach_calls al2 (backN eqs k) Ab cb w4 hrows (by omega) (fun of hof => by have := hbe.out of hof; omega) (by omega) (by omega))
          rw [hrb.out] at HRW
          clear hrows
          go_wp2_with fail
          with_reducible refine HRW.out.mono ?_
          rintro e w5 ⟨v5, rfl, ho5, hk5⟩
          have HO5 := hid ho5
          have HO45 := hid (HO4.out.kept hk5)
          have HOB5 := hid (HOB4.out.kept hk5)
          have HK5 := hid (HK4.out.fresh hk5)
          have hsz5 := Nat.le_trans (Nat.le_trans hsz hsz4) hk5.size
          have HNN5 := hid (show ∀ (j : Nat) (u : Value), news[j]? = some u → NumsIn (fun b => b < w.heap.size ∧ (Value.slice Ab (backN eqs k).length cb).ownBlock ≠ some b) w5 u (gl more j) from fun j u hj => ((HNN.out j u hj).keeps HK5.out (fun _ _ h => h)).mono (fun b _ hb => ⟨hb, fun e => by have := (HOB5.out.base_le b e).1; omega⟩))
          have HNC5 := hid (show ∀ ad, A2 = some ad → ∀ (j : Nat) (u : Value), news[j]? = some u → w5.cell? (ad.add j) = some u from fun ad e j u hj => HK5.out.cell (HNC.out ad e j u hj) (fun h => h))
          have HAN := hid (show A2 = none → c2 = 0 ∧ more = [] from fun e => ⟨HA2.out e, by
            rcases Nat.eq_zero_or_pos more.length with h0 | h0
            · exact List.length_eq_zero_iff.1 h0
            · obtain ⟨b, off, e2, _⟩ := HE2.out.2 h0
              rw [e] at e2; cases e2⟩)
          have hfm : (backN eqs k ++ more).flatten.length ≤ 1000000 := by
            rw [List.flatten_append, List.length_append]
            have := HT1.out
            omega
          clear ho5 hk5
          obtain ⟨A5, c5, rfl, _, hat5⟩ := HO5.out.reads
          obtain ⟨A4, c4, rfl, _, hat4⟩ := HO45.out.reads
          have HAT5 := hid hat5
          have HAT4 := hid hat4
          clear hat5 hat4
          obtain ⟨ra, hra⟩ : ∃ ra, reachN al2 eqs = ra := ⟨_, rfl⟩
          rw [hra] at hrm HAT4 HAT5 HO5 HO45 ⊢
          clear hra
          obtain ⟨rl, hrl⟩ : ∃ rl, ra.length = rl := ⟨_, rfl⟩
          have HRL := hid hrl
          have hrll : rl ≤ 9223372036854775807 := by have := HAT4.out.len; omega
          have HSM := hid (fun (w0 : World) (h1 : IntsAt w0 .i64 A4 ra) (h2 : IntsAt w0 .i64 A5 ra) => same_calls ra ra A4 A5 c4 c5 w0 h1 h2)
          rw [same_self, hrl] at HSM
          rw [hrl]
          clear hrl
          go_wp2_with (at_builtin; go_must (refine wpList_appRowsA rfl _ _ 22 (fun b => b < w.heap.size) rfl w.heap.size hum _ (backN eqs k) rfl HOB5.out A2 c2 more news (by rw [HM2.out]; rfl) HAN.out (by rw [HNL.out, HM2.out]) HNC5.out HNN5.out (by rw [HM2.out]; omega) hsz5 ?_); intro v6 w6 hown6 hgr6 hat6)
          obtain ⟨Ab6, cb6, rfl, _, _, hrows6⟩ := hown6.reads
          have HK6 := hid (HK5.out.grown hgr6 (fun i e hi => by have := (HOB5.out.base_le i e.symm).1; omega))
          have HRW6 := hid (reach_calls al2 (backN eqs k ++ more) Ab6 cb6 w6 hrows6 hfm (fun of hof => by
            rcases List.mem_append.1 hof with h | h
            · have := hbe.out of h; omega
            · have := HT2.out of h; omega) (by rw [List.length_append, HM2.out]; omega) (by omega))
          have HO56 := hid (HO5.out.keeps (Keeps.ofGrown hgr6) (fun b hb e => own_apart HO5.out HOB5.out.choose_spec.2.1 (by decide) b hb e.symm))
          have HO46 := hid (HO45.out.keeps (Keeps.ofGrown hgr6) (fun b hb e => own_apart HO45.out HOB5.out.choose_spec.2.1 (by decide) b hb e.symm))
          clear hown6 hgr6 hat6 hrows6
          refine HRW6.out.mono ?_
          rintro e w7 ⟨v7, rfl, ho7, hk7⟩
          have HAT47 := hid (HO46.out.kept hk7).ints.1
          have HAT57 := hid (HO56.out.kept hk7).ints.1
          have HK7 := hid (HK6.out.fresh hk7)
          obtain ⟨A7, c7, rfl, _, hat7⟩ := ho7.reads
          have HAT7 := hid hat7
          clear ho7 hk7 hat7
          obtain ⟨rb, hrb2⟩ : ∃ rb, reachN al2 (backN eqs k ++ more) = rb := ⟨_, rfl⟩
          rw [hrb2] at hrm HAT7 ⊢
          clear hrb2
          go_wp2_with fail
          go_loopw [64] (fun v64 wr => ∃ j : Nat, j ≤ rl ∧ v64 = .int .i64 (j : Int) ∧ Hid (Keeps NoB w7 wr)) (fun v64 _ => rl - (intOf v64).toNat)
          case atStart => exact ⟨0, Nat.zero_le _, rfl, hid (Keeps.refl _ _)⟩
          case round =>
            obtain ⟨j, hj, rfl, HKj⟩ := hrel
            by_cases hlt : j < rl
            · obtain ⟨b4, o4, rfl, hc4⟩ := (HAT47.out.kept HKj.out).get (by rw [HRL.out]; omega)
              have cj := hc4 j (by rw [HRL.out]; exact hlt)
              have hin := hrm.out (gi ra j) (gi_mem ra j (by rw [HRL.out]; exact hlt))
              have p0 : (0 : Int) ≤ (j : Int) := by omega
              have p1 : (j : Int) < (rl : Int) := by omega
              have HH := hid (has_calls rb (gi ra j) A7 c7 wr (HAT7.out.kept HKj.out))
              rw [decide_eq_true hin] at HH
              clear hc4 hin
              generalize gi ra j = x at *
              go_wp2_with fail
              refine HH.out.mono ?_
              rintro e w8 ⟨rfl, hk8⟩
              have HK8 := hid (HKj.out.fresh hk8)
              clear hk8
              go_wp2_with fail
              go_roundw
              case rel => exact ⟨j + 1, by omega, by go_num, HK8⟩
              case measure => simp [intOf]; omega
            · obtain rfl : j = rl := by omega
              go_wp2_with fail
              refine (HSM.out wr (HAT47.out.kept HKj.out) (HAT57.out.kept HKj.out)).mono ?_
              rintro e w8 ⟨rfl, hk8⟩
              have HK8 := hid ((HK7.out.fresh HKj.out).fresh hk8)
              clear hk8
              go_wp2_with fail
              go_ret
              exact ⟨rfl, HK8.out⟩
end Go.Proofs.Ytkjaacpcnjakcaa
