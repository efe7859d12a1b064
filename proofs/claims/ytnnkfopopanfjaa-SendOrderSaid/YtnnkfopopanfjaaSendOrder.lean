/- Frames that are asked for by their IDs are those that come by themselves: the walk of the law SendOrder. Conditions: numbers are of their kinds. -/
import Derived.Test.YtnnkfopopanfjaaLaw23
import Derived.Test.YtnnkfopopanfjaaG3
import Derived.BigQuiet
set_option linter.unusedVariables false
set_option linter.unusedSimpArgs false
namespace Go.Proofs.Ytnnkfopopanfjaa
open Go.RowKit
attribute [local go_sem ↓] Go.wp_at_zero Go.wp_at_succ

theorem info_u64s : (Try.prog.info? 24).map (fun i => (i.zero, i.size, i.bytes)) = some (some (.int .u64 0), 1, 8) := by kernel_rfl
/-- The IDs from one on. -/
noncomputable def itN (f : Nat) : Nat → Nat
  | 0 => f
  | k + 1 => nxt (itN f k)
theorem itN_lt {f : Nat} (h : f < 18446744073709551616) : ∀ k, itN f k < 18446744073709551616
  | 0 => h
  | k + 1 => nxt_lt _
noncomputable def idsN (f k : Nat) : List Nat := (List.range k).map (itN f)
theorem idsN_succ (f k : Nat) : idsN f (k + 1) = idsN f k ++ [itN f k] := by unfold idsN; rw [List.range_succ, List.map_append]; rfl
theorem idsN_length (f k : Nat) : (idsN f k).length = k := by simp [idsN]
theorem idsN_lt {f : Nat} (h : f < 18446744073709551616) (k : Nat) : ∀ x ∈ idsN f k, x < 18446744073709551616 := fun x hx => by
  obtain ⟨i, _, rfl⟩ := List.mem_map.1 hx
  exact itN_lt h i
noncomputable def rowsF (p : Par) (session : Nat) (obj : List UInt8) (f k : Nat) : List (List UInt8) := framesN p session obj (idsN f k)
theorem rowsF_succ (p : Par) (session : Nat) (obj : List UInt8) (f k : Nat) : rowsF p session obj f (k + 1) = rowsF p session obj f k ++ [frameN p session obj (itN f k)] := by
  unfold rowsF framesN
  rw [idsN_succ, List.map_append]; rfl
theorem rowsF_length (p : Par) (session : Nat) (obj : List UInt8) (f k : Nat) : (rowsF p session obj f k).length = k := by unfold rowsF; rw [framesN_length, idsN_length]
theorem five_ex (f : Nat) : ∃ m : Nat, IntKind.u64.wrap ((f : Int) + 5) = (m : Int) ∧ m < 18446744073709551616 := ⟨(f + 5) % 18446744073709551616, by unfold IntKind.wrap; simp [IntKind.bits, IntKind.signed], Nat.mod_lt _ (by decide)⟩
set_option maxHeartbeats 4000000 in
set_option maxRecDepth 20000 in
theorem sendOrder_walk (p : Par) (session : Nat) (obj : List UInt8) (A : Option Addr) (c : Nat) (ids : List Nat) (D : Option Addr) (d : Nat) (first : Nat) (many : Int) (w : World) (hwf : p.wf) (hs : session < 18446744073709551616) (ho : BytesIn (fun _ => True) w A obj) (hcap : obj.length ≤ c) (hA : A = none → c = 0) (hf : first < 18446744073709551616) (hm0 : 0 ≤ many) (hm1 : many ≤ 255) :
    Calls Try.prog 6 #[.agg #[.int .i64 p.n, .int .i64 p.b, .int .i64 p.q, .int .i64 p.eps, .int .i64 p.f, .int .u64 (session : Int), .slice A obj.length c, .slice D ids.length d], .int .u64 (first : Int), .int .u8 many] w fun e w' => e = .returned (.bool true) ∧ Keeps NoB w w' := by
  have hu := Try.underlying23
  have huc := Try.underlying39
  have hus := Try.underlying32
  have huu := Try.underlying37
  have HO := hid ho
  have hlen := ho.len
  obtain ⟨L, hL⟩ : ∃ L, obj.length = L := ⟨_, rfl⟩
  obtain ⟨M, hM⟩ : ∃ M, ids.length = M := ⟨_, rfl⟩
  have HL := hid hL
  rw [hL] at hcap hlen ⊢
  rw [hM]
  have HCP := hid hcap
  have HLN := hid hlen
  have HF := hid hf
  have HSS := hid hs
  clear ho hwf hL hA hcap hlen hM
  obtain ⟨n, hn⟩ : ∃ n : Nat, many % 12 = (n : Int) := ⟨(many % 12).toNat, by omega⟩
  have hn12 : n ≤ 11 := by omega
  have HMN := hid hn
  have HM0 := hid (show 0 ≤ many ∧ many ≤ 255 from ⟨hm0, hm1⟩)
  clear hn
  have hbox := hid (heap_alloc_new w (.cells #[.int .i64 p.n, .int .i64 p.b, .int .i64 p.q, .int .i64 p.eps, .int .i64 p.f, .int .u64 (session : Int), .slice A L c, .slice D M d] 39))
  have HKa := hid ((Keeps.refl NoB w).alloc (.cells #[.int .i64 p.n, .int .i64 p.b, .int .i64 p.q, .int .i64 p.eps, .int .i64 p.f, .int .u64 (session : Int), .slice A L c, .slice D M d] 39))
  obtain ⟨wa, hwa⟩ : ∃ wa, w.alloc (.cells #[.int .i64 p.n, .int .i64 p.b, .int .i64 p.q, .int .i64 p.eps, .int .i64 p.f, .int .u64 (session : Int), .slice A L c, .slice D M d] 39) = wa := ⟨_, rfl⟩
  rw [hwa] at hbox HKa
  obtain ⟨pb, hpb⟩ : ∃ pb, w.heap.size = pb := ⟨_, rfl⟩
  rw [hpb] at hbox
  have HSM := hid (fun (W : World) => small23_calls p session A D L c M d W HLN.out)
  go_enter Try.func6, Try.ntmps6
  go_wp2_with fail
  refine (speaks23_calls _).mono ?_
  rintro e w1 ⟨rfl, HK1⟩
  have HC8 := hid (fun (W : World) (hW : Keeps NoB w1 W) => cells8' (hW.heap (HK1.heap hbox.out (fun h => h)) (fun h => h)))
  have HK1 := hid (HKa.out.fresh HK1)
  clear hbox HKa hwa hpb
  obtain ⟨b0, b1, b2, b3, b4, b5, b6, b7⟩ := HC8.out w1 (Keeps.refl _ _)
  by_cases hsm : small23 p L M = true
  case neg =>
    have hsm : small23 p L M = false := by simpa using hsm
    rw [hsm] at HSM
    clear hsm
    go_wp2_with fail
    refine (HSM.out _).mono ?_
    rintro e w2 ⟨rfl, hk2⟩
    have HK2 := hid (HK1.out.fresh hk2)
    clear hk2 b0 b1 b2 b3 b4 b5 b6 b7
    go_wp2_with fail
    go_ret
    exact ⟨rfl, HK2.out⟩
  obtain ⟨hm, hs1, hs2, hs3, hs4, hs5⟩ := small23_yes hsm
  rw [hsm] at HSM
  have HMY := hid hm
  obtain ⟨f5, hf5, hf5l⟩ := five_ex first
  have HF5 := hid hf5
  have HN1 := hid (fun (W : World) (hW : Keeps NoB w W) => sndNew_yes p session first obj A L c (fun _ => True) HL.out W hm hs (HO.out.kept hW) HCP.out hs4)
  have HN2 := hid (fun (W : World) (hW : Keeps NoB w W) => sndNew_yes p session f5 obj A L c (fun _ => True) HL.out W hm hs (HO.out.kept hW) HCP.out hs4)
  have HNX := hid (fun (s cs k : Nat) (W : World) (hk : k ≤ 20) (h : SndBox W s cs (itN first k) k false) (he : EncStay W s cs p session obj) => sndNext_core s cs p session obj (itN first k) k W h he hm (by rw [HL.out]; exact hs4) hs (itN_lt HF.out k) (by omega))
  have HSD := hid (fun (t : Nat) (ids : List Nat) (E : Option Addr) (e : Nat) (W : World) (h : SndAt W t p session obj f5 0 false) (hi : NatsAt W E ids) (hl : ids.length = n) (hE : ∀ b off, E = some ⟨b, off, none⟩ → b ≠ t) => sndSend_yes t p session obj f5 0 ids E n e W h hm (by rw [HL.out]; exact hs4) hs (by omega) hi hl (by omega) hE)
  have HFL := hid (fun (id : Nat) => frameN_length hm session obj id)
  obtain ⟨B, hB⟩ : ∃ B, p.b.toNat = B := ⟨_, rfl⟩
  have HBB := hid (show B ≤ 40 by omega)
  rw [hB] at HNX HFL
  unfold Par.val at HN1 HN2
  clear hsm hs1 hs2 hs3 hs4 hs5 hm hs hB hf hf5 hf5l
  go_wp2_with fail
  refine (HSM.out _).mono ?_
  rintro e w2 ⟨rfl, hk2⟩
  have HK12 := hid hk2
  have HK2 := hid (HK1.out.fresh hk2)
  clear hk2 b0 b1 b2 b3 b4 b5 b6 b7
  obtain ⟨b0, b1, b2, b3, b4, b5, b6, b7⟩ := HC8.out w2 HK12.out
  go_wp2_with fail
  refine (HN1.out _ HK2.out).mono ?_
  rintro e w3 ⟨s, rfl, hst, hsz, hk3⟩
  obtain ⟨cs, hbs, hes⟩ := hst w3 (Keeps.refl _ _)
  have HBS := hid hbs
  have HES := hid hes
  have HSZ := hid hsz
  have HK13 := hid (HK12.out.fresh hk3)
  have HK23 := hid hk3
  have HK3 := hid (HK2.out.fresh hk3)
  have hslt := hid (show s < w3.heap.size from lt_of_heap hbs)
  clear hk3 hst hsz hbs hes b0 b1 b2 b3 b4 b5 b6 b7
  obtain ⟨b0, b1, b2, b3, b4, b5, b6, b7⟩ := HC8.out w3 HK13.out
  have hf5 := HF5.out
  go_wp2_with fail
  refine (HN2.out _ HK3.out).mono ?_
  rintro e w4 ⟨t, rfl, htt, htz, hk4⟩
  have HTT := hid htt
  have HTZ := hid htz
  have HK4 := hid (HK3.out.fresh hk4)
  have HK34 := hid hk4
  have HB4 := hid (show SndBox w4 s cs first 0 false from hk4.heap HBS.out (fun h => h))
  have htlt := hid (show t < w4.heap.size from by obtain ⟨_, h, _⟩ := htt w4 (Keeps.refl _ _); exact lt_of_heap h)
  clear hk4 htt htz b0 b1 b2 b3 b4 b5 b6 b7 hf5
  go_wp2_with fail
  have HEK := hid (fun (W : World) (hW : Keeps (fun b => b = s) w4 W) => HES.out.keeps ((HK34.out.mono (T := fun b => b = s) (fun _ h _ => h.elim)).then hW (fun i h _ => h)))
  have HSA := hid (fun (W : World) (k : Nat) (hW : Keeps (fun b => b = s) w4 W) (hb : SndBox W s cs (itN first k) k false) => show SndAt W s p session obj (itN first k) k false from ⟨cs, hb, HES.out.keeps ((HK34.out.mono (T := fun b => b = s) (fun _ h _ => h.elim)).then hW (fun i h _ => h))⟩)
  have hsz4 := HK34.out.size
  have hsl := hslt.out
  go_loopw [11, 12, 62] (fun v11 v12 v62 wr => ∃ (k : Nat) (u v : Value), k ≤ n ∧ v62 = .int .i64 (k : Int) ∧ u = v11 ∧ v = v12 ∧ Hid (OwnInts wr w4.heap.size .u64 24 u ((idsN first k).map (fun x : Nat => (x : Int)))) ∧ Hid (OwnRows (fun b => w4.heap.size ≤ b ∧ u.ownBlock ≠ some b) wr w4.heap.size v (rowsF p session obj first k)) ∧ Hid (∀ b, u.ownBlock = some b → v.ownBlock ≠ some b) ∧ Hid (SndBox wr s cs (itN first k) k false) ∧ Hid (Keeps (fun b => b = s) w4 wr)) (fun _ _ v62 _ => n - (intOf v62).toNat)
  case atStart => exact ⟨0, _, _, Nat.zero_le _, rfl, rfl, rfl, hid (OwnInts.nil _ _ _ _), hid (OwnRows.nil _ _ _), hid (fun b h => by cases h), HB4, Keeps.refl _ _⟩
  case round =>
    obtain ⟨k, u, v, hk, rfl, rfl, rfl, HI, HO2, HUV, HBr, HKr⟩ := hrel
    have hzr := HKr.out.size
    by_cases hlt : k < n
    · have hq : (k : Int) < many % 12 := by have := HMN.out; omega
      go_wp2_with fail
      refine (sndID_calls s p session obj (itN first k) k false wr (HSA.out wr k HKr.out HBr.out)).mono ?_
      rintro e w5 ⟨rfl, hk5⟩
      have hx64 := itN_lt HF.out k
      have hil := idsN_length first k
      have HI5 := hid ((HI.out.kept hk5).alloc (.cells #[.int .u64 ((itN first k : Nat) : Int)] 24))
      have HK5 := hid (hk5.alloc (.cells #[.int .u64 ((itN first k : Nat) : Int)] 24))
      have HC5 := hid (cell_one w5 (.int .u64 ((itN first k : Nat) : Int)) 24)
      have hz5 := HK5.out.size
      have hz5' := hk5.size
      clear hk5
      go_wp2_with (at_builtin; go_must (refine wpList_app1V _ rfl _ _ 37 rfl w4.heap.size 24 (.int .u64 0) 8 huu info_u64s rfl u k ((((idsN first k).map (fun x : Nat => (x : Int)))).map (Value.int .u64)) rfl (by have h := HI5.out; unfold OwnInts at h; rw [List.length_map, hil] at h; exact h) w5.heap.size _ (.int .u64 ((itN first k : Nat) : Int)) rfl rfl HC5.out (by omega) (by omega) (by omega) ?_); intro g6 cap6 w6 hor6 hgr6 hob6; have HOI6 := hid hor6; have HGR6 := hid hgr6; have HOB6 := hid hob6; clear hor6 hgr6 hob6)
      have HI6 := hid (show OwnInts w6 w4.heap.size .u64 24 (.slice (some ⟨g6, 0, none⟩) (k + 1) cap6) ((idsN first (k + 1)).map (fun x : Nat => (x : Int))) from by
        unfold OwnInts
        rw [List.length_map, idsN_length, idsN_succ, List.map_append, List.map_append]
        exact HOI6.out)
      have HUB := hid (fun b (hb : u.ownBlock = some b) => OwnInts.base_le HI.out b hb)
      have HG6 := hid (show w4.heap.size ≤ g6 ∧ g6 < w6.heap.size from OwnInts.base_le HI6.out g6 rfl)
      have HO6 := hid (show OwnRows (fun b => w4.heap.size ≤ b ∧ g6 ≠ b) w6 w4.heap.size v (rowsF p session obj first k) from by
        have h0 := (HO2.out.kept HK5.out).mono (R' := fun b => (w4.heap.size ≤ b ∧ u.ownBlock ≠ some b) ∧ b < (w5.alloc (.cells #[.int .u64 ((itN first k : Nat) : Int)] 24)).heap.size) (fun b h1 h2 => ⟨h2, h1⟩)
        have h1 := OwnRows.keeps h0 (Keeps.ofGrown HGR6.out) (fun b hb e => hb.1.2 e.symm) (fun b hb e => HUV.out b e.symm hb)
        exact h1.mono (fun b _ hb => ⟨hb.1.1, fun e => HOB6.out.elim (fun h => hb.1.2 (e ▸ h)) (fun h => by have := hb.2; omega)⟩))
      have HUV6 := hid (show v.ownBlock ≠ some g6 from fun e => HOB6.out.elim (fun h => HUV.out g6 h e) (fun h => by have := OwnRows.base_le (HO2.out.kept HK5.out) g6 e; omega))
      have hgb : ∀ b, u.ownBlock = some b → b ≠ s := fun b hb e => by have := HUB.out b hb; omega
      have HB6 := hid (show SndBox w6 s cs (itN first k) k false from (Keeps.ofGrown HGR6.out).heap (HK5.out.heap HBr.out (fun h => h)) (fun e => hgb s e.symm rfl))
      have HK6 := hid (show Keeps (fun b => b = s) w4 w6 from (HKr.out.fresh HK5.out).grown HGR6.out (fun i e hi => by have := HUB.out i e.symm; omega))
      have HCN := hid (HNX.out s cs k w6 (by omega) HB6.out (HEK.out w6 HK6.out))
      have HFN := hid (HFL.out (itN first k))
      have HRS := hid (rowsF_succ p session obj first k)
      have HRL := hid (rowsF_length p session obj first k)
      generalize frameN p session obj (itN first k) = fr at *
      refine HCN.out.mono ?_
      rintro e w7 ⟨A7, c7, rfl, ho7, hs7, hk7⟩
      have HO7 := hid ho7
      have HB7 := hid hs7
      have HI7 := hid (OwnInts.keeps HI6.out hk7 (fun b hb e => by have := OwnInts.base_le HI6.out b hb; have e : b = s := e; omega))
      have HR7 := hid (OwnRows.keeps HO6.out hk7 (fun b hb e => by have e : b = s := e; omega) (fun b hb e => by have := OwnRows.base_le HO6.out b hb; have e : b = s := e; omega))
      have HK7 := hid (HK6.out.then hk7 (fun i h _ => h))
      have HK7a := hid ((Keeps.refl NoB w7).alloc (.cells #[.slice A7 (42 + B) c7] 25))
      have HI7a := hid (OwnInts.kept HI7.out HK7a.out)
      have HR7a := hid (HR7.out.kept HK7a.out)
      have HC7 := hid (cell_one w7 (.slice A7 (42 + B) c7) 25)
      have HZ67 := hid hk7.size
      have HVB := hid (fun b (hb : v.ownBlock = some b) => OwnRows.base_le HO6.out b hb)
      have hri : RowIn (fun b => (w4.heap.size ≤ b ∧ g6 ≠ b) ∧ v.ownBlock ≠ some b) (w7.alloc (.cells #[.slice A7 (42 + B) c7] 25)) (.slice A7 (42 + B) c7) fr := (RowIn.keeps (OwnB.row ho7) HK7a.out (fun _ _ h => h)).mono (fun b _ hb => by
        have h1 := OwnInts.base_le ho7 b hb
        have h2 := HG6.out
        refine ⟨⟨by omega, by omega⟩, fun e => ?_⟩
        have h3 := HVB.out b e
        omega)
      have HRI := hid hri
      have hlk := HRL.out
      have hbs : w4.heap.size ≤ (w7.alloc (.cells #[.slice A7 (42 + B) c7] 25)).heap.size := by
        have h1 := HK7.out.size
        simp only [World.size_alloc]; omega
      have hz7 := HK7.out.size
      clear ho7 hs7 hk7 hri hgb
      go_wp2_with (at_builtin; go_must (refine wpList_app1RowB rfl _ _ 32 (fun b => w4.heap.size ≤ b ∧ g6 ≠ b) rfl w4.heap.size hus _ (rowsF p session obj first k) rfl HR7a.out w7.heap.size _ (.slice A7 (42 + B) c7) fr rfl HC7.out HRI.out (by rw [hlk]; omega) hbs ?_); intro v8 w8 hor8 hgr8 hob8; have HOR8 := hid hor8; have HGR8 := hid hgr8; have HOB8 := hid hob8; clear hor8 hgr8 hob8)
      go_roundw
      case rel =>
        refine ⟨k + 1, _, v8, by omega, by go_num, rfl, rfl, hid ?_, hid ?_, hid ?_, hid ?_, hid ?_⟩
        · exact OwnInts.keeps HI7a.out (Keeps.ofGrown HGR8.out) (fun b hb e => by
            have h1 : g6 = b := by simpa [Value.ownBlock] using hb
            have h2 := HUV6.out
            exact h2 (h1 ▸ e.symm))
        · have h1 := HOR8.out
          rw [← HRS.out] at h1
          exact h1.mono (fun b _ hb => ⟨hb.1, fun e => hb.2 (by simpa [Value.ownBlock] using e)⟩)
        · intro b hb hb2
          have h1 : g6 = b := by simpa [Value.ownBlock] using hb
          rcases HOB8.out with h | h
          · exact HUV6.out (h1 ▸ (h.symm.trans hb2))
          · have h3 := h.symm.trans hb2
            injection h3 with h3
            simp only [World.size_alloc] at h3
            have := HG6.out
            have := HZ67.out
            omega
        · exact (Keeps.ofGrown HGR8.out).heap (HK7a.out.heap HB7.out (fun h => h)) (fun e => by have := HVB.out s e.symm; omega)
        · exact (HK7.out.fresh HK7a.out).grown HGR8.out (fun i e hi => by have := HVB.out i e.symm; omega)
      case measure => simp [intOf]; omega
    · obtain rfl : n = k := by omega
      have hq : many % 12 ≤ (n : Int) := by have := HMN.out; omega
      go_wp2_with fail
      have HTR := hid (HTT.out wr (HKr.out.mono (fun b h hl => by have h : b = s := h; show b < w3.heap.size; omega)))
      have HNA := hid (show ∃ (E : Option Addr) (e : Nat), u = .slice E n e ∧ NatsAt wr E (idsN first n) ∧ ∀ b off, E = some ⟨b, off, none⟩ → b ≠ t from by
        obtain ⟨E, e, h1, h2, h3⟩ := OwnInts.reads HI.out
        rw [List.length_map, idsN_length] at h1
        refine ⟨E, e, h1, ⟨h3, idsN_lt HF.out n⟩, fun b off he => ?_⟩
        have h4 := OwnInts.base_le HI.out b (by rw [h1, he]; simp [Value.ownBlock])
        have := htlt.out
        omega)
      obtain ⟨E, e, rfl, hna, hnt⟩ := HNA.out
      have HNA2 := hid hna
      have HNT := hid hnt
      obtain ⟨Av, cv, rfl, hcv, hAv, hrv⟩ := HO2.out.reads
      have HRV := hid hrv
      rw [rowsF_length]
      have HRL := hid (rowsF_length p session obj first n)
      clear hna hnt hrv HNA
      go_wp2_with fail
      refine (HSD.out t (idsN first n) E e wr HTR.out HNA2.out (idsN_length first n) HNT.out).mono ?_
      rintro e9 w9 ⟨v9, rfl, ho9, ht9, hk9⟩
      have HOF := hid (show OwnRows (fun b => wr.heap.size ≤ b) w9 wr.heap.size v9 (rowsF p session obj first n) from ho9)
      rw [Nat.zero_add] at ht9
      have HT9 := hid ht9
      have HST := hid (show s < w4.heap.size ∧ s ≠ t by have := hslt.out; have := HK34.out.size; have := HTZ.out; omega)
      have HB9 := hid (show SndBox w9 s cs (itN first n) n false from hk9.heap HBr.out (fun e => HST.out.2 e))
      have HRV9 := hid (HRV.out.keeps hk9 (fun b hb e => by
        have e : b = t := e
        have := htlt.out
        rcases hb with hb | hb
        · omega
        · have := OwnRows.base_le HO2.out b hb; omega))
      have HK9 := hid (show Keeps (fun b => b = s ∨ b = t) w4 w9 from (HKr.out.mono (fun i h _ => .inl h)).then hk9 (fun i h _ => .inr h))
      obtain ⟨A9, c9, rfl, hc9, hA9, hr9⟩ := HOF.out.reads
      have HR9 := hid hr9
      rw [rowsF_length]
      obtain ⟨RR, hRR⟩ : ∃ RR, rowsF p session obj first n = RR := ⟨_, rfl⟩
      rw [hRR] at HRV9 HR9 HRL
      clear ho9 ht9 hk9 hr9 hRR HOF HRV
      go_wp2_with fail
      go_loopw [86] (fun v86 wq => ∃ k : Nat, k ≤ n ∧ v86 = .int .i64 (k : Int) ∧ Hid (Keeps NoB w9 wq)) (fun v86 _ => n - (intOf v86).toNat)
      case atStart => exact ⟨0, Nat.zero_le _, rfl, Keeps.refl _ _⟩
      case round =>
        obtain ⟨k, hk, rfl, HKq⟩ := hrel
        by_cases hlt : k < n
        · obtain ⟨b1, o1, rfl, _, hc1⟩ := (HRV9.out.kept HKq.out).2 (by rw [HRL.out]; omega)
          obtain ⟨u1, k1, B1, d1, rfl, _, _, r1⟩ := hc1 k (by rw [HRL.out]; exact hlt)
          obtain ⟨b2, o2, rfl, _, hc2⟩ := (HR9.out.kept HKq.out).2 (by rw [HRL.out]; omega)
          obtain ⟨u2, k2, B2, d2, rfl, _, _, r2⟩ := hc2 k (by rw [HRL.out]; exact hlt)
          have e1 := fun n => conv_run 25 9 Try.underlying25 Try.underlying9 (r1.kept ((Keeps.refl NoB wr).drewN n)) d1
          have e2 := fun n => conv_run 25 9 Try.underlying25 Try.underlying9 (r2.kept ((Keeps.refl NoB wr).drewN n)) d2
          have q0 : (0 : Int) ≤ (k : Int) := by omega
          have q1 : (k : Int) < (n : Int) := by omega
          have dg : decide ((n : Int) ≤ (k : Int)) = false := decide_eq_false (by omega)
          have dgn : decide (n ≤ k) = false := decide_eq_false (by omega)
          have dne : ((strOf (gr RR k)).toList != (strOf (gr RR k)).toList) = false := by simp
          generalize gr RR k = x at *
          clear hc1 hc2 r1 r2
          go_wp2_with fail
          go_quiet (fail)
          go_wp2_with fail
          go_roundw
          case rel => exact ⟨k + 1, by omega, by go_num, hid (HKq.out.drewN _)⟩
          case measure => simp [intOf]; omega
        · obtain rfl : n = k := by omega
          have hf5 := HF5.out
          have HKF := hid (show Keeps NoB w w9 from HK4.out.then HK9.out (fun i h hl => by have h : i = s ∨ i = t := h; have := HSZ.out; have := HTZ.out; have := HK2.out.size; have := HK3.out.size; omega))
          go_wp2_with fail
          refine (sndID_calls t p session obj f5 n false _ (HT9.out.kept HKq.out)).mono ?_
          rintro e wx ⟨rfl, hkx⟩
          have HX := hid (HKq.out.fresh hkx)
          clear hkx
          go_wp2_with fail
          refine (sndSent_box s cs (itN first n) n false _ (HX.out.heap HB9.out (fun h => h))).mono ?_
          rintro e wy ⟨rfl, hky⟩
          have HY := hid (HX.out.fresh hky)
          clear hky
          go_wp2_with fail
          refine (sndSent_calls t p session obj f5 n false _ (HT9.out.kept HY.out)).mono ?_
          rintro e wz ⟨rfl, hkz⟩
          have HZ := hid (HY.out.fresh hkz)
          clear hkz
          go_wp2_with fail
          go_ret
          exact ⟨rfl, HKF.out.fresh HZ.out⟩
theorem wf_u8_bounds {n : Int} (h : (Lit.int .u8 n).wf = true) : 0 ≤ n ∧ n ≤ 255 := by
  have := Go.bounds_u8 h
  omega
end Go.Proofs.Ytnnkfopopanfjaa
