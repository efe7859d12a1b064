/- Frames that are asked for by their IDs: the walk of send's Send. Conditions: numbers are of their kinds; the IDs lie elsewhere. -/
import Derived.Test.YtnnkfopopanfjaaGreatSend
import Derived.Test.YtnnkfopopanfjaaGreatBRows
set_option linter.unusedVariables false
set_option linter.unusedSimpArgs false
namespace Go.Proofs.YtnnkfopopanfjaaGreat
open Go.RowKit

noncomputable def framesN (p : Par) (session : Nat) (obj : List UInt8) (ids : List Nat) : List (List UInt8) := ids.map (frameN p session obj)
theorem framesN_take (p : Par) (session : Nat) (obj : List UInt8) (ids : List Nat) (k : Nat) (h : k < ids.length) : framesN p session obj (ids.take (k + 1)) = framesN p session obj (ids.take k) ++ [frameN p session obj (ids.getD k 0)] := by
  unfold framesN
  rw [List.take_succ_eq_append_getElem h, List.map_append]
  simp [h]
theorem framesN_length (p : Par) (session : Nat) (obj : List UInt8) (ids : List Nat) : (framesN p session obj ids).length = ids.length := by simp [framesN]
set_option maxHeartbeats 2000000 in
set_option maxRecDepth 20000 in
theorem sndSend_yes (s : Nat) (p : Par) (session : Nat) (obj : List UInt8) (next sent : Nat) (ids : List Nat) (D : Option Addr) (n d : Nat) (w : World) (h : SndAt w s p session obj next sent false) (hm : p.may) (hl : (obj.length : Int) ≤ p.n * p.b) (hs : session < 18446744073709551616) (hn : sent ≤ 1000000000) (hids : NatsAt w D ids) (hM : ids.length = n) (hn2 : n ≤ 1000) (hD : ∀ b off, D = some ⟨b, off, none⟩ → 0 < n → b ≠ s) :
    Calls Tryz.prog 10 #[.pointer (some ⟨s, 0, none⟩), .slice D n d] w fun e w' => ∃ v, e = .returned v ∧ OwnRows (fun b => w.heap.size ≤ b) w' w.heap.size v (framesN p session obj ids) ∧ SndAt w' s p session obj next (sent + n) false ∧ Keeps (· = s) w w' := by
  obtain ⟨c, hb, he⟩ := h
  have hus := Tryz.underlying39
  have HB := hid hb
  have HE := hid he
  have HSL := hid (lt_of_heap hb)
  have HM := hid hM
  have HFR := hid (fun (id : Nat) (W : World) (hW : EncAt W c p session obj) (hi : id < 18446744073709551616) => frame_calls c p session obj id W hW hm hl hs hi)
  have HFT := hid (fun (k : Nat) (hk : k < n) => framesN_take p session obj ids k (by rw [hM]; exact hk))
  have HFL := hid (fun (k : Nat) (hk : k ≤ n) => show (framesN p session obj (ids.take k)).length = k by rw [framesN_length, List.length_take]; omega)
  have HF0 := hid (show framesN p session obj (ids.take 0) = [] from rfl)
  have HFN := hid (show framesN p session obj ids = framesN p session obj (ids.take n) by rw [List.take_of_length_le (by omega)])
  rw [HFN.out]
  obtain ⟨F, hF⟩ : ∃ F, F = fun k => framesN p session obj (ids.take k) := ⟨_, rfl⟩
  have HF := hid hF
  have HFT := hid (fun (k : Nat) (hk : k < n) => show F (k + 1) = F k ++ [frameN p session obj (ids.getD k 0)] by rw [hF]; exact HFT.out k hk)
  have HFL := hid (fun (k : Nat) (hk : k ≤ n) => show (F k).length = k by rw [hF]; exact HFL.out k hk)
  have HF0 := hid (show F 0 = [] by rw [hF]; rfl)
  rw [show framesN p session obj (ids.take n) = F n by rw [hF]]
  clear hF HFN
  have HID := hid hids
  have HD := hid hD
  obtain ⟨B, hB⟩ : ∃ B, p.b.toNat = B := ⟨_, rfl⟩
  have hb2 := hm.2.2.2.1
  have HBB := hid (show B ≤ 65535 by omega)
  rw [hB] at HFR
  obtain ⟨c0, c1, c2, c3⟩ := cells4' hb
  clear hb he hB hm hids hD hM hl hb2
  go_enter Tryz.func10, Tryz.ntmps10
  go_wp2_with fail
  clear c0 c1 c2 c3
  go_loopw [5, 20] (fun v5 v20 wr => ∃ (k : Nat) (v : Value), k ≤ n ∧ v20 = .int .i64 (k : Int) ∧ v = v5 ∧ Hid (OwnRows (fun b => w.heap.size ≤ b) wr w.heap.size v (F k)) ∧ Hid (SndBox wr s c next (sent + k) false) ∧ Hid (Keeps (· = s) w wr)) (fun _ v20 _ => n - (intOf v20).toNat)
  case atStart => exact ⟨0, _, Nat.zero_le _, rfl, rfl, hid (by rw [HF0.out]; exact OwnRows.nil _ _ _), HB, Keeps.refl _ _⟩
  case round =>
    obtain ⟨k, v, hk, rfl, rfl, HO, HBr, HK⟩ := hrel
    by_cases hlt : k < n
    · obtain ⟨b, off, rfl, hc⟩ := HID.out.1.get (by rw [List.length_map, HM.out]; omega)
      have hck := HK.out.cell (hc k (by rw [List.length_map, HM.out]; exact hlt)) (HD.out b off rfl (by omega))
      rw [gi_map ids k (by rw [HM.out]; exact hlt)] at hck
      have hid64 := HID.out.2 (ids.getD k 0) (getD_mem ids 0 (by rw [HM.out]; exact hlt))
      have hft := hid (HFT.out k hlt)
      generalize ids.getD k 0 = id at *
      have HCL := hid (HFR.out id wr (HE.out wr HK.out) hid64)
      have HID64 := hid hid64
      generalize frameN p session obj id = fr at *
      clear hc hid64
      go_wp2_with fail
      refine HCL.out.mono ?_
      rintro e w5 ⟨A5, c5, rfl, ho5, hk5⟩
      have HK5 := hid hk5
      have HO5 := hid ho5
      have HRow := hid ((HO.out.kept hk5).kept ((Keeps.refl NoB w5).alloc (.cells #[.slice A5 (42 + B) c5] 25)))
      have HC1 := hid (cell_one w5 (.slice A5 (42 + B) c5) 25)
      have hri : RowIn (fun b => w.heap.size ≤ b ∧ v.ownBlock ≠ some b) (w5.alloc (.cells #[.slice A5 (42 + B) c5] 25)) (.slice A5 (42 + B) c5) fr := (RowIn.keeps (OwnB.row ho5) ((Keeps.refl NoB w5).alloc _) (fun _ _ h => h)).mono (fun b _ hb => by
        have h1 := OwnInts.base_le ho5 b hb
        have h2 := HK.out.size
        refine ⟨by omega, fun e => ?_⟩
        have h3 := OwnRows.base_le HO.out b e
        omega)
      have HRI := hid hri
      have hlk := HFL.out k hk
      have hbs : w.heap.size ≤ (w5.alloc (.cells #[.slice A5 (42 + B) c5] 25)).heap.size := by
        have h1 := HK.out.size
        have h2 := hk5.size
        simp only [World.size_alloc]; omega
      have HB5 := hid (show SndBox (w5.alloc (.cells #[.slice A5 (42 + B) c5] 25)) s c next (sent + k) false from ((Keeps.refl NoB w5).alloc _).heap (hk5.heap HBr.out (fun h => h)) (fun h => h))
      have HK5w := hid ((HK.out.fresh hk5).alloc (.cells #[.slice A5 (42 + B) c5] 25))
      have hsk : sent + k ≤ 1000001000 := by omega
      clear ho5 hk5 hri
      go_wp2_with (at_builtin; go_must (refine wpList_app1RowB rfl _ _ 39 (fun b => w.heap.size ≤ b) rfl w.heap.size hus _ (F k) rfl HRow.out w5.heap.size _ (.slice A5 (42 + B) c5) fr rfl HC1.out HRI.out (by rw [hlk]; omega) hbs ?_); intro v6 w6 hor6 hgr6 hob6; have HOR6 := hid hor6; have HB6 := hid (show SndBox w6 s c next (sent + k) false from (Keeps.ofGrown hgr6).heap HB5.out (fun e => by have h1 := OwnRows.base_le HO.out s e.symm; have := HSL.out; omega)); have HK6 := hid (HK5w.out.grown hgr6 (fun i e hi => by have h1 := OwnRows.base_le HO.out i e.symm; omega)); obtain ⟨c0, c1, c2, c3⟩ := cells4' HB6.out; have f2 := free4' HB6.out 2; clear hor6 hgr6 hob6)
      go_roundw
      case rel =>
        have e1 : ((sent + k : Nat) : Int) + 1 = ((sent + (k + 1) : Nat) : Int) := by omega
        refine ⟨k + 1, _, by omega, by go_num, rfl, hid ?_, hid ?_, hid ?_⟩
        · rw [hft.out]
          exact OwnRows.keeps HOR6.out (Keeps.one w6 s 2 _) (fun b hb e => by have := HSL.out; have e : b = s := e; omega) (fun b hb e => by have h1 := OwnRows.base_le HOR6.out b hb; have := HSL.out; have e : b = s := e; omega)
        · have h2 := SndBox.setSent HB6.out (sent + (k + 1))
          rw [← e1] at h2
          exact h2
        · exact HK6.out.then (Keeps.one w6 s 2 _) (fun i h _ => h)
      case measure => simp [intOf]; omega
    · obtain rfl : n = k := by omega
      go_wp2_with fail
      go_ret
      exact ⟨_, rfl, HO.out, ⟨c, HBr.out, HE.out.keeps HK.out⟩, HK.out⟩
end Go.Proofs.YtnnkfopopanfjaaGreat
