/- The blocks that follow, pass by pass: the reference's walk. Condition: lengths are small. -/
import Derived.Test.YtkjaacpcnjakcaaRef16
set_option linter.unusedVariables false
namespace Go.Proofs.Ytkjaacpcnjakcaa
open Go.RowKit

theorem ins_rising {l : List Int} (h : l.Pairwise (· < ·)) {x : Int} (hx : x ∉ l) : (ins x l).Pairwise (· < ·) :=
  rising_of (ins_sorted x l (h.imp (fun h => by omega))) ((ins_perm x l).nodup_iff.2 (List.nodup_cons.2 ⟨hx, nodup_of_rising h⟩))
theorem known_le {all : Int} {eqs : List (List Int)} {r : List Int} (hr : r.Pairwise (· < ·)) (h : ∀ x ∈ r, Follows all eqs x) : r.length ≤ eqs.flatten.length := by
  have e : r = (reachN all eqs).filter (fun x => decide (x ∈ r)) := rise_ext hr ((reachN_rising all eqs).filter _) (fun x => by
    rw [List.mem_filter, mem_reachN]
    exact ⟨fun hx => ⟨h x hx, by simpa using hx⟩, fun hx => by simpa using hx.2⟩)
  rw [e]
  exact Nat.le_trans (List.length_filter_le _ _) (reachN_length all eqs)
/-- Where a pass stands. -/
def Pass (all : Int) (eqs : List (List Int)) (L0 k : Nat) (known : List Int) (more : Bool) : Prop :=
  (more = true ∧ L0 < known.length) ∨ (more = false ∧ known.length = L0 ∧ ∀ j, j < k → fitsN all (gl eqs j) = true → (unkN known (gl eqs j)).length ≠ 1)
def lenV : Value → Nat
  | .slice _ n _ => n
  | _ => 0
def moreV : Value → Nat
  | .bool true => 1
  | _ => 0
structure KnownAt (all : Int) (eqs : List (List Int)) (w : World) (A : Option Addr) (known : List Int) : Prop where
  at_ : IntsAt w .i64 A known
  rising : known.Pairwise (· < ·)
  follow : ∀ y ∈ known, Follows all eqs y
set_option maxHeartbeats 1600000 in
set_option maxRecDepth 20000 in
theorem rreach_calls (all : Int) (eqs : List (List Int)) (A : Option Addr) (c : Nat) (w : World) (h : RowsAt w A eqs) (hB : eqs.flatten.length ≤ 1000000) (hr : ∀ of ∈ eqs, of.length ≤ 1000000) :
    Calls Try.prog 30 #[.int .i64 all, .slice A eqs.length c] w fun e w' => ∃ A' c', e = .returned (.slice A' (reachN all eqs).length c') ∧ (reachN all eqs).length ≤ c' ∧ IntsAt w' .i64 A' (reachN all eqs) ∧ Keeps NoB w w' := by
  have hl := h.1
  have HC := hid h
  have HB := hid hB
  have HR := hid (fun k (hk : k < eqs.length) => hr (gl eqs k) (by rw [gl_eq eqs k hk]; exact List.getElem_mem hk))
  have HMEM := hid (fun k (hk : k < eqs.length) => (show gl eqs k ∈ eqs by rw [gl_eq eqs k hk]; exact List.getElem_mem hk))
  have HALL := hid (show (∀ j, j < eqs.length → ∀ P : List Int → Prop, P (gl eqs j) → P (gl eqs j)) from fun _ _ _ h => h)
  obtain ⟨B, hBB⟩ : ∃ B, eqs.flatten.length = B := ⟨_, rfl⟩
  have HKL := hid (fun (r : List Int) (h1 : r.Pairwise (· < ·)) (h2 : ∀ x ∈ r, Follows all eqs x) => (show r.length ≤ B by rw [← hBB]; exact known_le h1 h2))
  rw [hBB] at hB
  have hBB := hid hBB
  clear h hr HALL
  obtain ⟨n, hn⟩ : ∃ n, eqs.length = n := ⟨_, rfl⟩
  rw [hn] at hl ⊢
  have hnn := hid hn
  clear hn
  go_enter Try.func30, Try.ntmps30
  go_wp2_with fail
  go_loopw [5, 6] (fun v5 v6 wr => ∃ (known : List Int) (more : Bool) (K : Option Addr) (ck : Nat), v5 = .slice K known.length ck ∧ known.length ≤ ck ∧ v6 = .bool more ∧ Hid (KnownAt all eqs wr K known) ∧ Hid (more = false → ∀ j, j < n → fitsN all (gl eqs j) = true → (unkN known (gl eqs j)).length ≠ 1) ∧ Hid (Keeps NoB w wr)) (fun v5 v6 _ => 2 * (B - lenV v5) + moreV v6)
  case atStart => exact ⟨[], true, _, _, rfl, Nat.le_refl _, rfl, ⟨⟨by simp, fun h => by simp at h⟩, List.Pairwise.nil, fun y hy => by simp at hy⟩, hid (fun h => by cases h), (Keeps.refl NoB w).alloc _⟩
  case round =>
    obtain ⟨known0, more0, K0, ck0, rfl, hck0, rfl, HK0, HD, HKP⟩ := hrel
    cases more0 with
    | false =>
      have hend := hid (reach_done HK0.out.rising HK0.out.follow (fun of hof hfit => by
        obtain ⟨j, hj, e⟩ := List.getElem_of_mem hof
        have := HD.out rfl j (by rw [← hnn.out]; exact hj)
        rw [gl_eq eqs j hj, e] at this
        exact this hfit))
      go_wp2_with fail
      go_ret
      rw [← hend.out]
      exact ⟨K0, ck0, rfl, hck0, HK0.out.at_, HKP.out⟩
    | true =>
      obtain ⟨L0, hL0⟩ : ∃ L, known0.length = L := ⟨_, rfl⟩
      rw [hL0] at hck0 ⊢
      have hL0 := hid hL0
      generalize hw0 : wr = wp at *
      clear hw0
      go_wp2_with fail
      go_loopw [5, 6, 7] (fun v5 v6 v7 wr => ∃ (k : Nat) (known : List Int) (more : Bool) (K : Option Addr) (ck : Nat), k ≤ n ∧ v7 = .int .i64 (k : Int) ∧ v5 = .slice K known.length ck ∧ known.length ≤ ck ∧ v6 = .bool more ∧ Hid (KnownAt all eqs wr K known) ∧ Hid (Pass all eqs L0 k known more) ∧ Hid (Keeps NoB w wr)) (fun _ _ v7 _ => n - (intOf v7).toNat)
      case atStart => exact ⟨0, known0, false, K0, ck0, Nat.zero_le _, rfl, by rw [hL0.out], by rw [hL0.out]; exact hck0, rfl, HK0, hid (.inr ⟨rfl, hL0.out, fun j hj => absurd hj (Nat.not_lt_zero _)⟩), HKP⟩
      case round =>
        obtain ⟨k, known, more, K, ck, hk, rfl, rfl, hck, rfl, HK, HPA, HKP⟩ := hrel
        by_cases hlt : k < n
        · obtain ⟨b, off, rfl, hc⟩ := (HC.out.kept HKP.out).2 (by rw [hnn.out]; omega)
          obtain ⟨u, cu, A1, c1, rfl, _, _, hat⟩ := hc k (by rw [hnn.out]; exact hlt)
          have HAT := hid hat
          have hrl := HR.out k (by rw [hnn.out]; exact hlt)
          have hmem := hid (HMEM.out k (by rw [hnn.out]; exact hlt))
          have p0 : (0 : Int) ≤ (k : Int) := by omega
          have p1 : (k : Int) < (n : Int) := by omega
          have hkl := HKL.out known HK.out.rising HK.out.follow
          clear hc hat
          obtain ⟨of, hof⟩ : ∃ of, gl eqs k = of := ⟨_, rfl⟩
          rw [hof] at cu HAT hrl hmem
          have HOF := hid hof
          clear hof
          go_wp2_with fail
          refine (rfits16_calls all of A1 c1 wr HAT.out).mono ?_
          rintro e w2 ⟨rfl, hk2⟩
          have HK2 := hid (HKP.out.fresh hk2)
          have cu := hk2.cell cu (fun h => h)
          have HAT := hid (HAT.out.kept hk2)
          have HKN := hid (show KnownAt all eqs w2 K known from ⟨HK.out.at_.kept hk2, HK.out.rising, HK.out.follow⟩)
          clear hk2
          by_cases hf : fitsN all of = true
          · rw [hf]
            have HF := hid hf
            clear hf
            go_wp2_with fail
            refine (rleft_calls known of K A1 ck c1 w2 HKN.out.at_ HAT.out (by omega)).mono ?_
            rintro e w3 ⟨v3, rfl, ho3, hk3⟩
            obtain ⟨A3, c3, rfl, _, hat3⟩ := ho3.reads
            have HAT3 := hid hat3
            have HK3 := hid (HK2.out.fresh hk3)
            have HKN3 := hid (show KnownAt all eqs w3 K known from ⟨HKN.out.at_.kept hk3, HKN.out.rising, HKN.out.follow⟩)
            clear ho3 hat3 hk3
            by_cases h1 : (unkN known of).length = 1
            · obtain ⟨x, hx⟩ : ∃ x, unkN known of = [x] := by
                match hu : unkN known of with
                | [] => rw [hu] at h1; simp at h1
                | [x] => exact ⟨x, rfl⟩
                | a :: b :: r => rw [hu] at h1; simp at h1
              have hfo := hid (follows_one HKN.out.follow hmem.out HF.out hx)
              have hxn := hid ((mem_unkN known of x).1 (by rw [hx]; exact List.mem_singleton.2 rfl)).2
              rw [hx] at HAT3 ⊢
              obtain ⟨b3, o3, rfl, hc3⟩ := HAT3.out.get (by simp)
              have cx : w3.cell? ⟨b3, o3, none⟩ = some (.int .i64 x) := hc3 0 (by simp)
              have d1 : (((([x] : List Int).length : Nat) : Int) == 1) = true := by simp
              clear hx h1 hc3
              go_wp2_with fail
              refine (insert_calls known x K ck w3 HKN3.out.at_ (by omega)).mono ?_
              rintro e w4 ⟨v4, rfl, ho4, hk4⟩
              obtain ⟨A4, c4, rfl, hc4, hat4⟩ := ho4.reads
              have HKN4 := hid (show KnownAt all eqs w4 A4 (ins x known) from ⟨hat4, ins_rising HKN3.out.rising hxn.out, fun y hy => by
                rcases (mem_ins x y known).1 hy with e | h
                · rw [e]; exact hfo.out
                · exact HKN3.out.follow y h⟩)
              have HK4 := hid (HK3.out.fresh hk4)
              have HP4 := hid (show Pass all eqs L0 (k + 1) (ins x known) true from .inl ⟨rfl, by
                rw [ins_length]
                rcases HPA.out with ⟨_, h⟩ | ⟨_, h, _⟩ <;> omega⟩)
              clear ho4 hat4 hk4
              go_wp2_with fail
              go_roundw
              case rel => exact ⟨k + 1, ins x known, true, A4, c4, by omega, by go_num, rfl, hc4, rfl, HKN4, HP4, HK4⟩
              case measure => simp [intOf]; omega
            · have d1 : ((((unkN known of).length : Nat) : Int) == 1) = false := by simp; omega
              have HP4 := hid (show Pass all eqs L0 (k + 1) known more from by
                rcases HPA.out with h | ⟨h2, h3, h4⟩
                · exact .inl h
                · refine .inr ⟨h2, h3, fun j hj hfj => ?_⟩
                  by_cases e : j = k
                  · rw [e, HOF.out]; exact h1
                  · exact h4 j (by omega) hfj)
              clear h1
              go_wp2_with fail
              go_roundw
              case rel => exact ⟨k + 1, known, more, K, ck, by omega, by go_num, rfl, hck, rfl, HKN3, HP4, HK3⟩
              case measure => simp [intOf]; omega
          · have hf : fitsN all of = false := by simpa using hf
            have HP4 := hid (show Pass all eqs L0 (k + 1) known more from by
              rcases HPA.out with h | ⟨h2, h3, h4⟩
              · exact .inl h
              · refine .inr ⟨h2, h3, fun j hj hfj => ?_⟩
                by_cases e : j = k
                · rw [e, HOF.out, hf] at hfj; cases hfj
                · exact h4 j (by omega) hfj)
            rw [hf]
            clear hf
            go_wp2_with fail
            go_roundw
            case rel => exact ⟨k + 1, known, more, K, ck, by omega, by go_num, rfl, hck, rfl, HKN, HP4, HK2⟩
            case measure => simp [intOf]; omega
        · obtain rfl : n = k := by omega
          have hkl := HKL.out known HK.out.rising HK.out.follow
          have hkl0 := HKL.out known0 HK0.out.rising HK0.out.follow
          have hpa := HPA.out
          go_wp2_with fail
          go_roundw
          case rel => exact ⟨known, more, K, ck, rfl, hck, rfl, HK, hid (fun hm => by
            rcases hpa with ⟨h, _⟩ | ⟨_, _, h⟩
            · rw [hm] at h; cases h
            · exact h), HKP⟩
          case measure =>
            rcases hpa with ⟨rfl, h⟩ | ⟨rfl, h, _⟩
            · simp [lenV, moreV]; omega
            · simp [lenV, moreV]; omega
end Go.Proofs.Ytkjaacpcnjakcaa
