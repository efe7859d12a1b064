/- How a degree is found in the table: the walks of degree's Of and of sort.Search at its question. Conditions: numbers are of their kinds. -/
import Derived.Test.YtnnkfopopanfjaaDegNew
set_option linter.unusedVariables false
namespace Go.Proofs.Ytnnkfopopanfjaa
open Go.RowKit

/-- What the search asks, and where it finds what it asks of. -/
structure AskAt (w : World) (bu bt t : Nat) (u : Nat) (l : List Int) : Prop where
  cu : w.heap[bu]? = some (.cells #[.int .u64 (u : Int)] 24 (0, 0))
  ct : w.heap[bt]? = some (.cells #[.pointer (some ⟨t, 0, none⟩)] 109 (0, 0))
  tab : TabAt w t l
theorem AskAt.kept {w w' : World} {bu bt t u : Nat} {l : List Int} (h : AskAt w bu bt t u l) (hk : Keeps NoB w w') : AskAt w' bu bt t u l :=
  ⟨hk.heap h.cu (fun h => h), hk.heap h.ct (fun h => h), h.tab.kept hk⟩
set_option maxHeartbeats 400000 in
theorem ask_calls (bu bt t u i : Nat) (l : List Int) (w : World) (h : AskAt w bu bt t u l) (hi : i < l.length) :
    Calls Try.prog 79 #[.int .i64 (i : Int), .pointer (some ⟨bu, 0, none⟩), .pointer (some ⟨bt, 0, none⟩)] w fun e w' => e = .returned (.bool (decide ((u : Int) < gi l i))) ∧ Keeps NoB w w' := by
  obtain ⟨h1, h2, A, c, h3, h4, h5⟩ := h
  obtain ⟨b, off, rfl, hc⟩ := h5.get (by omega)
  have c1 : w.cell? ⟨bu, 0, none⟩ = some (.int .u64 (u : Int)) := by simp [World.cell?, h1]
  have c2 : w.cell? ⟨bt, 0, none⟩ = some (.pointer (some ⟨t, 0, none⟩)) := by simp [World.cell?, h2]
  have c3 : w.cell? ⟨t, 0, none⟩ = some (.slice (some ⟨b, off, none⟩) l.length c) := by simp [World.cell?, h3]
  have c4 := hc i hi
  generalize gi l i = x at *
  have i0 : (0 : Int) ≤ (i : Int) := by omega
  have i1 : (i : Int) < (l.length : Int) := by omega
  have hl := h5.len
  clear h1 h2 h3 h5 hc
  go_enter Try.func79, Try.ntmps79
  go_wp2_with fail
  go_quiet (fail)
  go_wp2_with fail
  go_ret
  exact ⟨rfl, (Keeps.refl NoB w).drewN _⟩
theorem list_gi (l : List Int) : l = (List.range l.length).map (gi l) := by
  apply List.ext_getElem
  · simp
  · intro i h1 h2; simp [gi, h1]
theorem countP_gi (l : List Int) (q : Int → Bool) (k : Nat) (hk : k ≤ l.length) (h1 : ∀ t, t < k → q (gi l t) = true) (h2 : ∀ t, k ≤ t → t < l.length → q (gi l t) = false) : l.countP q = k := by
  rw [list_gi l, List.countP_map]
  exact countP_upto _ _ k hk h1 h2
set_option maxHeartbeats 1000000 in
theorem find_calls (bu bt t u : Nat) (l : List Int) (w : World) (h : AskAt w bu bt t u l) (hl : l.length < 4611686018427387904) (hm : l.Pairwise (· ≤ ·)) :
    Calls Try.prog 78 #[.int .i64 (l.length : Nat), .func (.func 79) #[] #[.pointer (some ⟨bu, 0, none⟩), .pointer (some ⟨bt, 0, none⟩)]] w fun e w' =>
      e = .returned (.int .i64 ((l.countP (fun x => !decide ((u : Int) < x)) : Nat) : Int)) ∧ Keeps NoB w w' := by
  have HM := hid hm
  have HA := hid h
  obtain ⟨n, hn⟩ : ∃ n, l.length = n := ⟨_, rfl⟩
  rw [hn] at hl ⊢
  have hn := hid hn
  clear hm h
  go_enter Try.func78, Try.ntmps78
  go_wp2_with fail
  go_loopw [5, 6] (fun v5 v6 wr => ∃ lo hi : Nat, v5 = .int .i64 (lo : Int) ∧ v6 = .int .i64 (hi : Int) ∧ lo ≤ hi ∧ hi ≤ n ∧ Hid (∀ t, t < lo → gi l t ≤ (u : Int)) ∧ Hid (∀ t, hi ≤ t → t < n → (u : Int) < gi l t) ∧ Hid (Keeps NoB w wr)) (fun v5 v6 _ => (intOf v6).toNat - (intOf v5).toNat)
  case atStart => exact ⟨0, n, rfl, rfl, Nat.zero_le _, Nat.le_refl _, fun t ht => absurd ht (Nat.not_lt_zero _), fun t h1 h2 => by omega, Keeps.refl _ _⟩
  case round =>
    obtain ⟨lo, hi, rfl, rfl, hlh, hin, H1, H2, HK⟩ := hrel
    by_cases hlt : lo < hi
    · have hx := ask_calls bu bt t u ((lo + hi) / 2) l wr (HA.out.kept HK.out) (by rw [hn.out]; omega)
      rw [show (((lo + hi) / 2 : Nat) : Int) = ((lo : Int) + (hi : Int)) / 2 by omega] at hx
      have HX := hid hx
      have H3 := hid (show ∀ a b, a ≤ b → b < n → gi l a ≤ gi l b from fun a b hab hb => by
        rcases Nat.lt_or_eq_of_le hab with h | h
        · have := List.pairwise_iff_getElem.1 HM.out a b (by rw [hn.out]; omega) (by rw [hn.out]; omega) h
          rw [gi_eq l a (by rw [hn.out]; omega), gi_eq l b (by rw [hn.out]; omega)]; exact this
        · rw [h]; exact Int.le_refl _)
      clear hx
      generalize hg : gi l ((lo + hi) / 2) = x at *
      have HG := hid hg
      clear hg
      by_cases hc : (u : Int) < x
      · have dc : decide ((u : Int) < x) = true := decide_eq_true hc
        rw [dc] at HX
        have HC := hid hc
        clear hc dc
        go_wp2_with (go_at_call 79; refine HX.out.mono ?_; rintro e w2 ⟨rfl, HK2⟩)
        go_roundw
        case rel => exact ⟨lo, (lo + hi) / 2, rfl, by go_num, by omega, by omega, H1, hid (fun t h1 h2 => by have := H3.out ((lo + hi) / 2) t h1 h2; rw [HG.out] at this; have := HC.out; omega), hid (HK.out.fresh HK2)⟩
        case measure => simp [intOf]; omega
      · have dc : decide ((u : Int) < x) = false := decide_eq_false hc
        rw [dc] at HX
        have HC := hid hc
        clear hc dc
        go_wp2_with (go_at_call 79; refine HX.out.mono ?_; rintro e w2 ⟨rfl, HK2⟩)
        go_roundw
        case rel => exact ⟨(lo + hi) / 2 + 1, hi, by go_num, rfl, by omega, by omega, hid (fun t h1 => by have := H3.out t ((lo + hi) / 2) (by omega) (by omega); rw [HG.out] at this; have := HC.out; omega), H2, hid (HK.out.fresh HK2)⟩
        case measure => simp [intOf]; omega
    · obtain rfl : lo = hi := by omega
      go_wp2_with fail
      go_ret
      refine ⟨?_, HK.out⟩
      rw [countP_gi l _ lo (by rw [hn.out]; exact hin) (fun t ht => by simp only [Bool.not_eq_true', decide_eq_false_iff_not]; exact Int.not_lt.2 (H1.out t ht)) (fun t h1 h2 => by simp only [Bool.not_eq_false', decide_eq_true_eq]; exact H2.out t h1 (by rw [← hn.out]; exact h2))]
      rfl
theorem degree_count (f e u : Nat) : 1 + (tabN f e (f - 1)).countP (fun x => !decide ((u : Int) < x)) = degreeN f e u := by
  unfold degreeN tabN
  rw [List.countP_map]
  congr 1
  congr 1
  funext i
  simp
theorem tab_sorted (f e : Nat) (he : 1000 < f * e) : (tabN f e (f - 1)).Pairwise (· ≤ ·) := by
  rw [List.pairwise_iff_getElem]
  intro i j hi hj hij
  rw [tabN_length] at hi hj
  simp only [tabN, List.getElem_map, List.getElem_range]
  have := deg_le f e he (i + 1) (by omega) (j - i) (by omega)
  rw [show i + 1 + (j - i) = j + 1 by omega] at this
  exact Int.ofNat_le.2 this
set_option maxHeartbeats 1000000 in
theorem dOf_calls (t f e u : Nat) (w : World) (h : TabAt w t (tabN f e (f - 1))) (hf : f ≤ 4096) (he : 1000 < f * e) (hu64 : u < 18446744073709551616) :
    Calls Try.prog 68 #[.pointer (some ⟨t, 0, none⟩), .int .u64 (u : Int)] w fun e' w' => e' = .returned (.int .i64 ((degreeN f e u : Nat) : Int)) ∧ Keeps NoB w w' := by
  have hd := hid (degree_count f e u)
  have hs := hid (tab_sorted f e he)
  have hl := hid (show (tabN f e (f - 1)).length ≤ 4096 by rw [tabN_length]; omega)
  have hcn := hid (List.countP_le_length (p := fun x => !decide ((u : Int) < x)) (l := tabN f e (f - 1)))
  have HT := hid h
  clear h
  generalize tabN f e (f - 1) = l at *
  obtain ⟨A, c, h3, h4, h5⟩ := HT.out
  have hbt := hid (heap_alloc_new w (.cells #[.pointer (some ⟨t, 0, none⟩)] 109))
  have hbu := hid (heap_alloc_new (w.alloc (.cells #[.pointer (some ⟨t, 0, none⟩)] 109)) (.cells #[.int .u64 (u : Int)] 24))
  have HK := hid (((Keeps.refl NoB w).alloc (.cells #[.pointer (some ⟨t, 0, none⟩)] 109)).alloc (.cells #[.int .u64 (u : Int)] 24))
  have HA := hid (AskAt.mk hbu.out (((Keeps.refl NoB (w.alloc (.cells #[.pointer (some ⟨t, 0, none⟩)] 109))).alloc (.cells #[.int .u64 (u : Int)] 24)).heap hbt.out (fun h => h)) (HT.out.kept HK.out))
  have c3 : ((w.alloc (.cells #[.pointer (some ⟨t, 0, none⟩)] 109)).alloc (.cells #[.int .u64 (u : Int)] 24)).cell? ⟨t, 0, none⟩ = some (.slice A l.length c) := HK.out.cell (by simp [World.cell?, h3]) (fun h => h)
  clear h3 h4 h5 hbt hbu
  go_enter Try.func68, Try.ntmps68
  go_wp2_with fail
  have HA2 := HA.out
  rw [World.size_alloc] at HA2
  refine (find_calls _ _ t u l _ HA2 (by have := hl.out; omega) hs.out).mono ?_
  rintro e' w2 ⟨rfl, HK2⟩
  have hcl := hcn.out
  have hll := hl.out
  generalize l.countP (fun x => !decide ((u : Int) < x)) = k at *
  go_wp2_with fail
  go_ret
  exact ⟨by rw [← hd.out]; simp, HK.out.fresh HK2⟩
end Go.Proofs.Ytnnkfopopanfjaa
