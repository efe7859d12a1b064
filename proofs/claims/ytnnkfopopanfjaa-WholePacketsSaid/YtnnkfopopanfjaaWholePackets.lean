/- Each frame by itself is read as a packet of the object: the walk of the law WholePackets. Conditions: numbers are of their kinds. -/
import Derived.Test.YtnnkfopopanfjaaParse
import Derived.Test.YtnnkfopopanfjaaComposite
import Derived.Test.YtnnkfopopanfjaaEmitNew
import Derived.Test.YtnnkfopopanfjaaXorMath
import Derived.Test.YtnnkfopopanfjaaRight
import Derived.Test.YtnnkfopopanfjaaG8
import Derived.Test.YtnnkfopopanfjaaG3
import Derived.BigQuiet
set_option linter.unusedVariables false
set_option linter.unusedSimpArgs false
namespace Go.Proofs.Ytnnkfopopanfjaa
open Go.RowKit
attribute [local go_sem ↓] Go.wp_at_zero Go.wp_at_succ

theorem bytes_ofBlock7 {R : Nat → Prop} {w : World} {b : Nat} {e : TypeId} {fr : Nat × Nat} (l : List UInt8) (h : w.heap[b]? = some (.cells ((enc8 l).map (Value.int .u8)).toArray e fr)) (hl : l.length ≤ 9223372036854775807) (hR : R b) : BytesIn R w (some ⟨b, 0, none⟩) l :=
  ⟨IntsAt.ofBlock (enc8 l) h (by rw [enc8_length]; exact hl), fun b' off e' _ => by injection e' with e'; injection e' with e' _; subst e'; exact hR⟩
def par07 : Par := ⟨1, 1, 1, 1000, 2⟩
theorem par07_may : par07.may := by decide
/-- A frame of the object, read. -/
theorem parse_frame (cd : Nat) (p : Par) (session : Nat) (obj : List UInt8) (id : Nat) (A : Option Addr) (n cap : Nat) (w : World) (hC : CodAt w cd) (hm : p.may) (hl : (obj.length : Int) ≤ p.n * p.b) (hs : session < 18446744073709551616) (hi : id < 18446744073709551616) (hn : n = 42 + p.b.toNat) (base : Nat) (ho : OwnB w base (.slice A n cap) (frameN p session obj id)) :
    Calls Try.prog 17 #[.pointer (some ⟨cd, 0, none⟩), .slice A n cap] w fun e w' => ∃ (Ap : Option Addr) (cp : Nat), e = .returned (.tuple #[.agg (pktC ⟨session, p, (obj.length : Int), id⟩ (.slice Ap p.b.toNat cp)), .int .i64 0]) ∧ OwnB w' w.heap.size (.slice Ap p.b.toNat cp) (payN p session obj id) ∧ Keeps NoB w w' := by
  obtain ⟨A', c', e, hc, hA, hb⟩ := OwnB.reads ho
  have hfl := frameN_length hm session obj id
  injection e with e1 e2 e3
  subst e1 e3
  obtain ⟨N, B, e1, e2', e3, e4, e5, e6, e7, e8, hNB, hNB2⟩ := par_sizes hm
  have hp : ((payN p session obj id).length : Int) = p.b := by rw [payN_length hm]; omega
  obtain ⟨g1, g2, g3⟩ := parse_enc (h := ⟨session, p, (obj.length : Int), id⟩) (pay := payN p session obj id) ⟨hm, by simp, hl⟩ hs hi hp
  refine (parse_calls cd (frameN p session obj id) A n cap _ w hC (by rw [hfl, hn]) (by omega) hA hb (by omega)).mono ?_
  rintro e w' ⟨hk, ⟨h1, _⟩ | ⟨_, Ap, cp, h2, h3⟩⟩
  · exact absurd g1 h1
  · unfold frameN at h2 h3
    rw [g2] at h2 h3
    rw [g3] at h3
    exact ⟨Ap, cp, h2, h3, hk⟩
theorem xor_back {a b : List UInt8} (h : b.length = a.length) : xorAll a [b, b] = a := by
  show xorL (xorL a b) b = a
  rw [xor_assoc, xor_self, h, xor_zero rfl]
theorem rows_two {R : Nat → Prop} {w : World} {g : Nat} {A : Option Addr} {c n : Nat} {l : List UInt8} {T : TypeId} {fr : Nat × Nat} (h : w.heap[g]? = some (.cells #[.slice A n c, .slice A n c] T fr)) (hg : R g) (hn : l.length = n) (hc : n ≤ c) (hA : A = none → c = 0) (hb : BytesIn R w A l) : RowsIn R w (some ⟨g, 0, none⟩) [l, l] := by
  refine ⟨by simp, fun _ => ⟨g, 0, rfl, hg, fun j hj => ?_⟩⟩
  subst hn
  match j, hj with
  | 0, _ => exact ⟨.slice A l.length c, by simp [World.cell?, h], A, c, rfl, hc, hA, hb⟩
  | 1, _ => exact ⟨.slice A l.length c, by simp [World.cell?, h], A, c, rfl, hc, hA, hb⟩
set_option maxHeartbeats 4000000 in
set_option maxRecDepth 20000 in
theorem wholePackets_walk (p : Par) (session : Nat) (obj : List UInt8) (A : Option Addr) (c : Nat) (ids : List Nat) (D : Option Addr) (d : Nat) (w : World) (hwf : p.wf) (hs : session < 18446744073709551616) (ho : BytesIn (fun _ => True) w A obj) (hcap : obj.length ≤ c) (hA : A = none → c = 0) (hids : NatsAt w D ids) :
    Calls Try.prog 4 #[.agg #[.int .i64 p.n, .int .i64 p.b, .int .i64 p.q, .int .i64 p.eps, .int .i64 p.f, .int .u64 (session : Int), .slice A obj.length c, .slice D ids.length d]] w fun e w' => e = .returned (.bool true) ∧ Keeps NoB w w' := by
  have hu := Try.underlying23
  have huc := Try.underlying39
  have hup := Try.underlying52
  have huh := Try.underlying50
  have HO := hid ho
  have HID := hid hids
  have HWF := hid hwf
  have hlen := ho.len
  have hlen2 := hids.1.len
  rw [List.length_map] at hlen2
  obtain ⟨L, hL⟩ : ∃ L, obj.length = L := ⟨_, rfl⟩
  obtain ⟨M, hM⟩ : ∃ M, ids.length = M := ⟨_, rfl⟩
  have HL := hid hL
  have HM := hid hM
  rw [hL] at hcap hlen ⊢
  rw [hM] at hlen2 ⊢
  have HCP := hid hcap
  have HLN := hid hlen
  have HSS := hid hs
  have HAA := hid hA
  clear ho hwf hL hcap hlen hM hids hA hs
  have HN := hid (fun (W : World) (B : Option Addr) (cB : Nat) (R' : Nat → Prop) (h : BytesIn R' W B [5]) (hc : 1 ≤ cB) => emitNew_yes par07 7 [5] B cB R' W par07_may (by decide) h hc (by decide))
  have HF1 := hid (fun (W : World) (c : Nat) (h : EncAt W c par07 7 [5]) => frame_calls c par07 7 [5] 1 W h par07_may (by decide) (by decide) (by decide))
  rw [show 42 + par07.b.toNat = 43 from rfl] at HF1
  rw [show ([5] : List UInt8).length = 1 from rfl] at HN
  rw [show par07.val = .agg #[.int .i64 1, .int .i64 1, .int .i64 1, .int .i64 1000, .int .i64 2] from rfl] at HN
  have hbox := hid (heap_alloc_new w (.cells #[.int .i64 p.n, .int .i64 p.b, .int .i64 p.q, .int .i64 p.eps, .int .i64 p.f, .int .u64 (session : Int), .slice A L c, .slice D M d] 39))
  have HKa := hid ((Keeps.refl NoB w).alloc (.cells #[.int .i64 p.n, .int .i64 p.b, .int .i64 p.q, .int .i64 p.eps, .int .i64 p.f, .int .u64 (session : Int), .slice A L c, .slice D M d] 39))
  obtain ⟨wa, hwa⟩ : ∃ wa, w.alloc (.cells #[.int .i64 p.n, .int .i64 p.b, .int .i64 p.q, .int .i64 p.eps, .int .i64 p.f, .int .u64 (session : Int), .slice A L c, .slice D M d] 39) = wa := ⟨_, rfl⟩
  rw [hwa] at hbox HKa
  obtain ⟨pb, hpb⟩ : ∃ pb, w.heap.size = pb := ⟨_, rfl⟩
  rw [hpb] at hbox
  have HB5 := hid (heap_alloc_new wa (.cells #[.int .u8 5] 5))
  have HKb := hid (HKa.out.alloc (.cells #[.int .u8 5] 5))
  go_enter Try.func4, Try.ntmps4
  go_wp2_with fail
  refine (HN.out _ (some ⟨wa.heap.size, 0, none⟩) 1 (fun _ => True) (bytes_ofBlock7 [5] HB5.out (by decide) trivial) (by omega)).mono ?_
  rintro e w1 ⟨c1, rfl, he1, hk1⟩
  have HE1 := hid he1
  have HBX := hid (hk1.heap (((Keeps.refl NoB wa).alloc (.cells #[.int .u8 5] 5)).heap hbox.out (fun h => h)) (fun h => h))
  have HK1 := hid (HKb.out.fresh hk1)
  clear he1 hk1 hwa hpb hbox HB5
  go_wp2_with fail
  refine (HF1.out _ c1 HE1.out).mono ?_
  rintro e w2 ⟨A2, c2, rfl, ho2, hk2⟩
  have HC8 := hid (fun (W : World) (hW : Keeps NoB w2 W) => cells8' (hW.heap (hk2.heap HBX.out (fun h => h)) (fun h => h)))
  have HK2 := hid (HK1.out.fresh hk2)
  clear ho2 hk2
  obtain ⟨b0, b1, b2, b3, b4, b5, b6, b7⟩ := HC8.out w2 (Keeps.refl _ _)
  have HMA := hid (fun (W : World) => may_calls p W)
  unfold Par.val at HMA
  by_cases hm : p.may
  case neg =>
    rw [mayB_false hm] at HMA
    clear hm
    go_wp2_with fail
    refine (HMA.out _).mono ?_
    rintro e w3 ⟨rfl, hk3⟩
    have HK3 := hid hk3
    clear b0 b1 b2 b3 b4 b5 b6 b7 hk3
    obtain ⟨b0, b1, b2, b3, b4, b5, b6, b7⟩ := HC8.out w3 HK3.out
    go_wp2_with fail
    go_ret
    exact ⟨rfl, HK2.out.fresh HK3.out⟩
  rw [mayB_true hm] at HMA
  obtain ⟨N, B0, e1, e2, e3, e4, e5, e6, e7, e8, hNB, hNB2⟩ := par_sizes hm
  generalize N * B0 = Q at *
  have HNB := hid hNB
  have HQ := hid hNB2
  have HMY := hid hm
  have hpb1 := hm.2.2.1
  have hpn1 := hm.1
  clear e1 e2 e3 e4 e5 e6 e7 e8 hNB hNB2 hm
  by_cases h0 : 40 < p.n
  case pos =>
    have d0 : decide (40 < p.n) = true := decide_eq_true h0
    clear h0 hpb1 hpn1
    go_wp2_with fail
    refine (HMA.out _).mono ?_
    rintro e w3 ⟨rfl, hk3⟩
    have HK3 := hid hk3
    clear b0 b1 b2 b3 b4 b5 b6 b7 hk3
    obtain ⟨b0, b1, b2, b3, b4, b5, b6, b7⟩ := HC8.out w3 HK3.out
    go_wp2_with fail
    go_ret
    exact ⟨rfl, HK2.out.fresh HK3.out⟩
  have d0 : decide (40 < p.n) = false := decide_eq_false h0
  by_cases h1 : 40 < p.b
  case pos =>
    have d1 : decide (40 < p.b) = true := decide_eq_true h1
    clear h1 hpb1 hpn1
    go_wp2_with fail
    refine (HMA.out _).mono ?_
    rintro e w3 ⟨rfl, hk3⟩
    have HK3 := hid hk3
    clear b0 b1 b2 b3 b4 b5 b6 b7 hk3
    obtain ⟨b0, b1, b2, b3, b4, b5, b6, b7⟩ := HC8.out w3 HK3.out
    go_wp2_with fail
    go_ret
    exact ⟨rfl, HK2.out.fresh HK3.out⟩
  have d1 : decide (40 < p.b) = false := decide_eq_false h1
  by_cases h2 : 200 < p.f
  case pos =>
    have d2 : decide (200 < p.f) = true := decide_eq_true h2
    clear h2 hpb1 hpn1
    go_wp2_with fail
    refine (HMA.out _).mono ?_
    rintro e w3 ⟨rfl, hk3⟩
    have HK3 := hid hk3
    clear b0 b1 b2 b3 b4 b5 b6 b7 hk3
    obtain ⟨b0, b1, b2, b3, b4, b5, b6, b7⟩ := HC8.out w3 HK3.out
    go_wp2_with fail
    go_ret
    exact ⟨rfl, HK2.out.fresh HK3.out⟩
  have d2 : decide (200 < p.f) = false := decide_eq_false h2
  by_cases h3 : (Q : Int) < (L : Int)
  case pos =>
    have d3 : decide ((Q : Int) < (L : Int)) = true := decide_eq_true h3
    have d3n : decide (Q < L) = true := decide_eq_true (by omega)
    have hNBi := HNB.out
    have hw1 : wrap64 (Q : Int) = (Q : Int) := IntWalk.wrap64_in _ ⟨by omega, by have := HQ.out; omega⟩
    clear h3 hpb1 hpn1
    go_wp2_with fail
    refine (HMA.out _).mono ?_
    rintro e w3 ⟨rfl, hk3⟩
    have HK3 := hid hk3
    clear b0 b1 b2 b3 b4 b5 b6 b7 hk3
    obtain ⟨b0, b1, b2, b3, b4, b5, b6, b7⟩ := HC8.out w3 HK3.out
    go_wp2_with fail
    go_ret
    exact ⟨rfl, HK2.out.fresh HK3.out⟩
  have d3 : decide ((Q : Int) < (L : Int)) = false := decide_eq_false h3
  have d3n : decide (Q < L) = false := decide_eq_false (by omega)
  by_cases h4 : 20 < M
  case pos =>
    have d4 : decide (20 < M) = true := decide_eq_true h4
    have d4n : decide ((20 : Int) < (M : Int)) = true := decide_eq_true (by omega)
    have hNBi := HNB.out
    have hw1 : wrap64 (Q : Int) = (Q : Int) := IntWalk.wrap64_in _ ⟨by omega, by have := HQ.out; omega⟩
    clear h4 hpb1 hpn1
    go_wp2_with fail
    refine (HMA.out _).mono ?_
    rintro e w3 ⟨rfl, hk3⟩
    have HK3 := hid hk3
    clear b0 b1 b2 b3 b4 b5 b6 b7 hk3
    obtain ⟨b0, b1, b2, b3, b4, b5, b6, b7⟩ := HC8.out w3 HK3.out
    go_wp2_with fail
    go_ret
    exact ⟨rfl, HK2.out.fresh HK3.out⟩
  have d4 : decide (20 < M) = false := decide_eq_false h4
  have d4n : decide ((20 : Int) < (M : Int)) = false := decide_eq_false (by omega)
  have hle : (obj.length : Int) ≤ p.n * p.b := by rw [HNB.out, HL.out]; omega
  have HLE := hid hle
  have HM20 := hid (show M ≤ 20 by omega)
  obtain ⟨B, hB⟩ : ∃ B, p.b.toNat = B := ⟨_, rfl⟩
  have HBB := hid (show p.b = (B : Int) by omega)
  have HB40 := hid (show 1 ≤ B ∧ B ≤ 40 by omega)
  have HNW := hid (fun (W : World) (hW : Keeps NoB w W) => emitNew_yes p session obj A c (fun _ => True) W HMY.out HSS.out (HO.out.kept hW) (by rw [HL.out]; exact HCP.out) hle)
  have HCW := hid (fun (W : World) (hW : Keeps NoB w W) => comp_yes p session obj A c (fun _ => True) W HMY.out HSS.out (HO.out.kept hW) (by rw [HL.out]; exact HCP.out) hle)
  have HPK := hid (fun (z id : Nat) (W : World) (hz : EncAt W z p session obj) (hi : id < 18446744073709551616) => packet_calls z p session obj id W hz HMY.out HSS.out hi)
  have HFR := hid (fun (z id : Nat) (W : World) (hz : EncAt W z p session obj) (hi : id < 18446744073709551616) => frame_calls z p session obj id W hz HMY.out hle HSS.out hi)
  have HPA := hid (fun (cd id : Nat) (base : Nat) (A5 : Option Addr) (c5 : Nat) (W : World) (hC : CodAt W cd) (hi : id < 18446744073709551616) (h5 : OwnB W base (.slice A5 (42 + B) c5) (frameN p session obj id)) => parse_frame cd p session obj id A5 (42 + B) c5 W hC HMY.out hle HSS.out hi (by rw [hB]) base h5)
  have HCM := hid (fun (z : Nat) (i : Int) (W : World) (hz : EncAt W z p session obj) => composite_calls z p session obj i W hz HMY.out)
  have HRG := hid (fun (W : World) (A5 : Option Addr) (c5 : Nat) (R5 : Nat → Prop) (h5 : RowsIn R5 W A5 (compN p session obj)) (hc5 : (compN p session obj).length ≤ c5) (hA5 : A5 = none → c5 = 0) => right_calls p session (obj.length : Int) (compN p session obj) A5 c5 R5 W HWF.out HSS.out (by have := HLN.out; rw [HL.out]; omega) (by have := HLN.out; rw [HL.out]; omega) h5 hc5 hA5)
  rw [right_comp HMY.out session obj hle] at HRG
  have HFT := hid (comp_fitB HMY.out session obj)
  have HPL := hid (fun (id : Nat) => payN_length HMY.out session obj id)
  have hclen := compN_length p session obj
  have hax := auxN_bounds HMY.out
  obtain ⟨m, hmm⟩ : ∃ m, (compN p session obj).length = m := ⟨_, rfl⟩
  have HMM := hid hmm
  have hm1 : m ≤ 9000000 := by omega
  have HM1 := hid hm1
  have HSM := hid (fun (W : World) (A5 : Option Addr) (c5 : Nat) (R5 : Nat → Prop) (h5 : RowsIn R5 W A5 (compN p session obj)) => bsum_yes B (compN p session obj) A5 c5 R5 W (by have := HB40.out; omega) h5 (by rw [← hB]; exact HFT.out))
  rw [hB] at HPK HFR HPA HFT HPL
  rw [HL.out] at HNW HCW HPK HPA HRG
  rw [hmm] at HRG HSM
  unfold Par.val at HNW HCW HRG
  have hNBi := HNB.out
  have hw1 : wrap64 (Q : Int) = (Q : Int) := IntWalk.wrap64_in _ ⟨by omega, by have := HQ.out; omega⟩
  clear h0 h1 h2 h3 h4 hle hB hclen hax hmm hm1 hpb1 hpn1
  go_wp2_with fail
  refine (HMA.out _).mono ?_
  rintro e w3 ⟨rfl, hk3⟩
  have HK23 := hid hk3
  have HK3 := hid (HK2.out.fresh hk3)
  clear b0 b1 b2 b3 b4 b5 b6 b7 hk3
  obtain ⟨b0, b1, b2, b3, b4, b5, b6, b7⟩ := HC8.out w3 HK23.out
  go_wp2_with fail
  clear hNBi hw1 d0 d1 d2 d3 d3n d4 d4n
  refine (HNW.out _ HK3.out).mono ?_
  rintro e w4 ⟨en, rfl, he4, hk4⟩
  have HE4 := hid he4
  have HK24 := hid (HK23.out.fresh hk4)
  have HK4 := hid (HK3.out.fresh hk4)
  clear b0 b1 b2 b3 b4 b5 b6 b7 hk4 he4
  obtain ⟨b0, b1, b2, b3, b4, b5, b6, b7⟩ := HC8.out w4 HK24.out
  go_wp2_with fail
  refine (HCW.out _ HK4.out).mono ?_
  rintro e w5 ⟨v5, rfl, ho5, hk5⟩
  obtain ⟨A5, c5, hv5, hc5, hA5, hr5⟩ := ho5.reads
  rw [HMM.out] at hv5 hc5
  subst hv5
  have HR5 := hid hr5
  have HC5 := hid hc5
  have HA5 := hid hA5
  have HE5 := hid (HE4.out.kept hk5)
  have HK25 := hid (HK24.out.fresh hk5)
  have HK5 := hid (HK4.out.fresh hk5)
  clear b0 b1 b2 b3 b4 b5 b6 b7 hk5 ho5 hr5 hc5 hA5
  go_wp2_with fail
  refine (fnew_calls _).mono ?_
  rintro e w6 ⟨cd, rfl, hcd, hk6⟩
  have HCD := hid hcd
  have HE6 := hid (HE5.out.kept hk6)
  have HR6 := hid (HR5.out.kept hk6)
  have HK26 := hid (HK25.out.fresh hk6)
  have HK6 := hid (HK5.out.fresh hk6)
  have HC6 := hid (fun (W : World) (hW : Keeps NoB w6 W) => HC8.out W (HK26.out.fresh hW))
  clear hcd hk6
  obtain ⟨b0, b1, b2, b3, b4, b5, b6, b7⟩ := HC6.out w6 (Keeps.refl _ _)
  go_wp2_with fail
  clear b0 b1 b2 b3 b4 b5 b6 b7
  go_loopw [110] (fun v110 wr => ∃ k : Nat, k ≤ M ∧ v110 = .int .i64 (k : Int) ∧ Hid (Keeps NoB w6 wr)) (fun v110 _ => M - (intOf v110).toNat)
  case atStart => exact ⟨0, Nat.zero_le _, rfl, Keeps.refl _ _⟩
  case round =>
    obtain ⟨k, hk, rfl, HKr⟩ := hrel
    by_cases hlt : k < M
    · obtain ⟨j, hj⟩ : ∃ j, M = j + 1 + k := ⟨M - 1 - k, by omega⟩
      obtain ⟨M1, hM1⟩ : ∃ M1, M = M1 + 1 := ⟨M - 1, by omega⟩
      have hjM : j < M := by omega
      obtain ⟨bd, off, e2, hc⟩ := HID.out.1.get (by rw [List.length_map, HM.out]; omega)
      have hck := hc j (by rw [List.length_map, HM.out]; exact hjM)
      rw [gi_map ids j (by rw [HM.out]; exact hjM)] at hck
      have hid64 := HID.out.2 (ids.getD j 0) (getD_mem ids 0 (by rw [HM.out]; exact hjM))
      have hckr := (HK6.out.fresh HKr.out).cell hck (fun h => h)
      have HCr := hid (HC6.out wr HKr.out)
      obtain ⟨b0, b1, b2, b3, b4, b5, b6, b7⟩ := HCr.out
      subst e2
      have HFRk := hid (HFR.out en (ids.getD j 0) wr (HE6.out.kept HKr.out) hid64)
      have HPAk := hid (fun (W : World) (base : Nat) (A5 : Option Addr) (c5 : Nat) (hW : Keeps NoB wr W) (h5 : OwnB W base (.slice A5 (42 + B) c5) (frameN p session obj (ids.getD j 0))) => HPA.out cd (ids.getD j 0) base A5 c5 W (HCD.out.kept (HKr.out.fresh hW)) hid64 h5)
      have HPKk := hid (fun (W : World) (hW : Keeps NoB wr W) => HPK.out en (ids.getD j 0) W (HE6.out.kept (HKr.out.fresh hW)) hid64)
      have HPLk := hid (HPL.out (ids.getD j 0))
      generalize frameN p session obj (ids.getD j 0) = fr at *
      generalize payN p session obj (ids.getD j 0) = pay at *
      generalize ids.getD j 0 = id at *
      have e0 : (M : Int) - 1 = (M1 : Int) := by omega
      have e1 : (M1 : Int) - (k : Int) = (j : Int) := by omega
      have q0 : (0 : Int) ≤ (j : Int) := by omega
      have q1 : (j : Int) < (M : Int) := by omega
      have hmk : k ≤ 20 := by have := HM20.out; omega
      clear hc hck hid64 hj hM1
      go_wp2_with fail
      refine HFRk.out.mono ?_
      rintro e w7 ⟨A7, c7, rfl, ho7, hk7⟩
      have HK7 := hid hk7
      have HO7 := hid ho7
      clear ho7 hk7 b0 b1 b2 b3 b4 b5 b6 b7 hckr e0 e1 q0 q1
      go_wp2_with fail
      refine (HPAk.out w7 _ A7 c7 HK7.out HO7.out).mono ?_
      rintro e w8 ⟨Ap, cp, rfl, ho8, hk8⟩
      unfold pktC
      have HK8 := hid ((HK7.out.fresh hk8).alloc (.cells #[.int .u64 (session : Int), .int .i64 p.n, .int .i64 p.b, .int .i64 p.q, .int .i64 p.eps, .int .i64 p.f, .int .i64 (L : Int), .int .u64 (id : Int), .slice Ap B cp] 52))
      have HB8 := hid (((OwnB.bytes ho8).mono (R' := fun _ => True) (fun _ _ _ => trivial)).kept ((Keeps.refl NoB w8).alloc (.cells #[.int .u64 (session : Int), .int .i64 p.n, .int .i64 p.b, .int .i64 p.q, .int .i64 p.eps, .int .i64 p.f, .int .i64 (L : Int), .int .u64 (id : Int), .slice Ap B cp] 52)))
      have HZ8 := hid (heap_alloc_new w8 (.cells #[.int .u64 (session : Int), .int .i64 p.n, .int .i64 p.b, .int .i64 p.q, .int .i64 p.eps, .int .i64 p.f, .int .i64 (L : Int), .int .u64 (id : Int), .slice Ap B cp] 52))
      clear ho8 hk8
      go_wp2_with fail
      obtain ⟨w9, hw9⟩ : ∃ x, w8.alloc (.cells #[.int .u64 (session : Int), .int .i64 p.n, .int .i64 p.b, .int .i64 p.q, .int .i64 p.eps, .int .i64 p.f, .int .i64 (L : Int), .int .u64 (id : Int), .slice Ap B cp] 52) = x := ⟨_, rfl⟩
      rw [hw9] at HK8 HB8 HZ8 ⊢
      obtain ⟨zb, hzb⟩ : ∃ x, w8.heap.size = x := ⟨_, rfl⟩
      rw [hzb] at HZ8 ⊢
      clear hw9 hzb
      have HKd := hid (Keeps.refl NoB w9).drew
      have HZP := hid (fun (W : World) (hW : Keeps NoB w9 W) => (hcells9 (hW.heap HZ8.out (fun h => h))).1)
      have HCP8 := hid (fun (W : World) (hW : Keeps NoB w9 W) => HC6.out W (HKr.out.fresh (HK8.out.fresh hW)))
      have HPK9 := hid (fun (W : World) (hW : Keeps NoB w9 W) => HPKk.out W (HK8.out.fresh hW))
      have dl : ((strOf pay).toList != (strOf pay).toList) = false := by simp
      refine wp_region_list [([], [131], []), ([0], [132], [131]), ([0, 1], [133], [131, 132]), ([0, 1, 2], [134], [131, 132, 133]), ([0, 1, 2, 3], [135], [131, 132, 133, 134]), ([0, 1, 2, 3, 4], [136], [131, 132, 133, 134, 135]), ([0, 1, 2], [137], [131, 132, 133]), ([0, 1, 2, 3, 4, 5, 6], [138], [131, 132, 133, 134, 135, 136, 137]), ([0, 1, 2, 3, 4, 5, 6, 7], [139], [131, 132, 133, 134, 135, 136, 137, 138]), ([0, 1, 2, 3, 4, 5, 6, 7, 8], [140], [131, 132, 133, 134, 135, 136, 137, 138, 139]), ([0, 1, 2, 3, 4, 5, 6, 7, 8, 9], [141], [131, 132, 133, 134, 135, 136, 137, 138, 139, 140]), ([0, 1, 2, 3, 4, 5, 6, 7, 8, 9, 10], [142], [131, 132, 133, 134, 135, 136, 137, 138, 139, 140, 141]), ([0, 1, 2, 3, 4, 5, 6, 7, 8, 9, 10, 11], [143], [131, 132, 133, 134, 135, 136, 137, 138, 139, 140, 141, 142]), ([0, 1, 2, 3, 4, 5, 6, 7, 8, 9], [144], [131, 132, 133, 134, 135, 136, 137, 138, 139, 140]), ([0, 1, 2, 3, 4, 5, 6, 7, 8, 9, 13], [145], [131, 132, 133, 134, 135, 136, 137, 138, 139, 140, 144]), ([0, 1, 2, 3, 4, 5, 6, 7, 8, 9, 10, 11, 12, 13, 14], [146], [131, 132, 133, 134, 135, 136, 137, 138, 139, 140, 141, 142, 143, 144, 145]), ([0, 1, 2, 3, 4, 5, 6, 7, 8, 9, 10, 11, 12, 13, 14, 15], [147], [131, 132, 133, 134, 135, 136, 137, 138, 139, 140, 141, 142, 143, 144, 145, 146]), ([0, 1, 2, 3, 4, 5, 6, 7, 8, 9, 10, 11, 12, 13, 14, 15, 16], [148], [131, 132, 133, 134, 135, 136, 137, 138, 139, 140, 141, 142, 143, 144, 145, 146, 147]), ([0, 1, 2, 3, 4, 5, 6, 7, 8, 9, 10, 11, 12, 13, 14, 15, 16, 17], [149], [131, 132, 133, 134, 135, 136, 137, 138, 139, 140, 141, 142, 143, 144, 145, 146, 147, 148]), ([0, 1, 2, 3, 4, 5, 6, 7, 8, 9, 10, 11, 12, 13, 14, 15, 16, 17, 18], [150], [131, 132, 133, 134, 135, 136, 137, 138, 139, 140, 141, 142, 143, 144, 145, 146, 147, 148, 149]), ([0, 1, 2, 3, 4, 5, 6, 7, 8, 9, 10, 11, 12, 13, 14, 15, 16, 17, 18, 19], [151], [131, 132, 133, 134, 135, 136, 137, 138, 139, 140, 141, 142, 143, 144, 145, 146, 147, 148, 149, 150]), ([0, 1, 2, 3, 4, 5, 6, 7, 8, 9, 10, 11, 12, 13, 14, 15, 16, 17], [152], [131, 132, 133, 134, 135, 136, 137, 138, 139, 140, 141, 142, 143, 144, 145, 146, 147, 148]), ([0, 1, 2, 3, 4, 5, 6, 7, 8, 9, 10, 11, 12, 13, 14, 15, 16, 17, 21], [153], [131, 132, 133, 134, 135, 136, 137, 138, 139, 140, 141, 142, 143, 144, 145, 146, 147, 148, 152]), ([0, 1, 2, 3, 4, 5, 6, 7, 8, 9, 10, 11, 12, 13, 14, 15, 16, 17, 21, 22], [154], [131, 132, 133, 134, 135, 136, 137, 138, 139, 140, 141, 142, 143, 144, 145, 146, 147, 148, 152, 153]), ([0, 1, 2, 3, 4, 5, 6, 7, 8, 9, 10, 11, 12, 13, 14, 15, 16, 17, 18, 19, 20, 21, 22, 23], [155], [131, 132, 133, 134, 135, 136, 137, 138, 139, 140, 141, 142, 143, 144, 145, 146, 147, 148, 149, 150, 151, 152, 153, 154]), ([0, 1, 2, 3, 4, 5, 6, 7, 8, 9, 10, 11, 12, 13, 14, 15, 16, 17, 18, 19, 20, 21, 22, 23, 24], [156], [131, 132, 133, 134, 135, 136, 137, 138, 139, 140, 141, 142, 143, 144, 145, 146, 147, 148, 149, 150, 151, 152, 153, 154, 155]), ([0, 1, 2, 3, 4, 5, 6, 7, 8, 9, 10, 11, 12, 13, 14, 15, 16, 17, 18, 19, 20, 21, 22, 23, 24, 25], [157], [131, 132, 133, 134, 135, 136, 137, 138, 139, 140, 141, 142, 143, 144, 145, 146, 147, 148, 149, 150, 151, 152, 153, 154, 155, 156]), ([0, 1, 2, 3, 4, 5, 6, 7, 8, 9, 10, 11, 12, 13, 14, 15, 16, 17, 18, 19, 20, 21, 22, 23, 24, 25, 26], [158], [131, 132, 133, 134, 135, 136, 137, 138, 139, 140, 141, 142, 143, 144, 145, 146, 147, 148, 149, 150, 151, 152, 153, 154, 155, 156, 157]), ([0, 1, 2, 3, 4, 5, 6, 7, 8, 9, 10, 11, 12, 13, 14, 15, 16, 17, 18, 19, 20, 21, 22, 23, 24, 25, 26, 27], [159], [131, 132, 133, 134, 135, 136, 137, 138, 139, 140, 141, 142, 143, 144, 145, 146, 147, 148, 149, 150, 151, 152, 153, 154, 155, 156, 157, 158]), ([0, 1, 2, 3, 4, 5, 6, 7, 8, 9, 10, 11, 12, 13, 14, 15, 16, 17, 18, 19, 20, 21, 22, 23, 24, 25, 26, 27, 28], [160], [131, 132, 133, 134, 135, 136, 137, 138, 139, 140, 141, 142, 143, 144, 145, 146, 147, 148, 149, 150, 151, 152, 153, 154, 155, 156, 157, 158, 159]), ([0, 1, 2, 3, 4, 5, 6, 7, 8, 9, 10, 11, 12, 13, 14, 15, 16, 17, 18, 19, 20, 21, 22, 23, 24, 25, 26], [161], [131, 132, 133, 134, 135, 136, 137, 138, 139, 140, 141, 142, 143, 144, 145, 146, 147, 148, 149, 150, 151, 152, 153, 154, 155, 156, 157]), ([0, 1, 2, 3, 4, 5, 6, 7, 8, 9, 10, 11, 12, 13, 14, 15, 16, 17, 18, 19, 20, 21, 22, 23, 24, 25, 26], [162], [131, 132, 133, 134, 135, 136, 137, 138, 139, 140, 141, 142, 143, 144, 145, 146, 147, 148, 149, 150, 151, 152, 153, 154, 155, 156, 157]), ([0, 1, 2, 3, 4, 5, 6, 7, 8, 9, 10, 11, 12, 13, 14, 15, 16, 17, 18, 19, 20, 21, 22, 23, 24, 25, 26, 30, 31], [163], [131, 132, 133, 134, 135, 136, 137, 138, 139, 140, 141, 142, 143, 144, 145, 146, 147, 148, 149, 150, 151, 152, 153, 154, 155, 156, 157, 161, 162]), ([0, 1, 2, 3, 4, 5, 6, 7, 8, 9, 10, 11, 12, 13, 14, 15, 16, 17, 18, 19, 20, 21, 22, 23, 24, 25, 26, 30, 31, 32], [164], [131, 132, 133, 134, 135, 136, 137, 138, 139, 140, 141, 142, 143, 144, 145, 146, 147, 148, 149, 150, 151, 152, 153, 154, 155, 156, 157, 161, 162, 163]), ([0, 1, 2, 3, 4, 5, 6, 7, 8, 9, 10, 11, 12, 13, 14, 15, 16, 17, 18, 19, 20, 21, 22, 23, 24, 25, 26, 30, 31, 32, 33], [165], [131, 132, 133, 134, 135, 136, 137, 138, 139, 140, 141, 142, 143, 144, 145, 146, 147, 148, 149, 150, 151, 152, 153, 154, 155, 156, 157, 161, 162, 163, 164]), ([0, 1, 2, 3, 4, 5, 6, 7, 8, 9, 10, 11, 12, 13, 14, 15, 16, 17, 18, 19, 20, 21, 22, 23, 24, 25, 26, 27, 28, 29, 30, 31, 32, 33, 34], [166], [131, 132, 133, 134, 135, 136, 137, 138, 139, 140, 141, 142, 143, 144, 145, 146, 147, 148, 149, 150, 151, 152, 153, 154, 155, 156, 157, 158, 159, 160, 161, 162, 163, 164, 165]), ([0, 1, 2, 3, 4, 5, 6, 7, 8, 9, 10, 11, 12, 13, 14, 15, 16, 17, 18, 19, 20, 21, 22, 23, 24, 25, 26, 27, 28, 29, 30, 31, 32, 33, 34, 35], [167], [131, 132, 133, 134, 135, 136, 137, 138, 139, 140, 141, 142, 143, 144, 145, 146, 147, 148, 149, 150, 151, 152, 153, 154, 155, 156, 157, 158, 159, 160, 161, 162, 163, 164, 165, 166])] [131, 132, 133, 134, 135, 136, 137, 138, 139, 140, 141, 142, 143, 144, 145, 146, 147, 148, 149, 150, 151, 152, 153, 154, 155, 156, 157, 158, 159, 160, 161, 162, 163, 164, 165, 166, 167] (Keeps NoB) (fun (i : Nat) => ([(fun rs__ U => (rs__.getD 0 undef) = Value.int .i64 0), (fun rs__ U => (rs__.getD 0 undef) = Value.bool false), (fun rs__ U => (rs__.getD 0 undef) = Value.bool false), (fun rs__ U => (rs__.getD 0 undef) = Value.pointer (some ⟨zb, 0, none⟩)), (fun rs__ U => (rs__.getD 0 undef) = Value.pointer (some ⟨zb, 7, none⟩)), (fun rs__ U => (rs__.getD 0 undef) = Value.int .u64 (id : Int)), (fun rs__ U => (rs__.getD 0 undef) = Value.int .u64 (id : Int)), (fun rs__ U => (rs__.getD 0 undef) = Value.bool false), (fun rs__ U => (rs__.getD 0 undef) = Value.bool false), (fun rs__ U => (rs__.getD 0 undef) = Value.bool false), (fun rs__ U => (rs__.getD 0 undef) = Value.pointer (some ⟨zb, 0, none⟩)), (fun rs__ U => (rs__.getD 0 undef) = Value.pointer (some ⟨zb, 0, none⟩)), (fun rs__ U => (rs__.getD 0 undef) = Value.int .u64 (session : Int)), (fun rs__ U => (rs__.getD 0 undef) = Value.pointer (some ⟨pb, 5, none⟩)), (fun rs__ U => (rs__.getD 0 undef) = Value.int .u64 (session : Int)), (fun rs__ U => (rs__.getD 0 undef) = Value.bool false), (fun rs__ U => (rs__.getD 0 undef) = Value.bool false), (fun rs__ U => (rs__.getD 0 undef) = Value.bool false), (fun rs__ U => (rs__.getD 0 undef) = Value.pointer (some ⟨zb, 0, none⟩)), (fun rs__ U => (rs__.getD 0 undef) = Value.pointer (some ⟨zb, 6, none⟩)), (fun rs__ U => (rs__.getD 0 undef) = Value.int .i64 (L : Int)), (fun rs__ U => (rs__.getD 0 undef) = Value.pointer (some ⟨pb, 6, none⟩)), (fun rs__ U => (rs__.getD 0 undef) = Value.slice A L c), (fun rs__ U => (rs__.getD 0 undef) = Value.int .i64 (L : Int)), (fun rs__ U => (rs__.getD 0 undef) = Value.bool false), (fun rs__ U => (rs__.getD 0 undef) = Value.bool false), (fun rs__ U => (rs__.getD 0 undef) = Value.bool false), (fun rs__ U => (rs__.getD 0 undef) = Value.pointer (some ⟨zb, 8, none⟩)), (fun rs__ U => (rs__.getD 0 undef) = Value.slice Ap B cp), (fun rs__ U => (rs__.getD 0 undef) = Value.string (strOf pay)), (fun rs__ U => (rs__.getD 0 undef) = Value.pointer (some ⟨en, 0, none⟩)), (fun rs__ U => (rs__.getD 0 undef) = Value.int .u64 (id : Int)), (fun rs__ U => ∃ Aq cq, (rs__.getD 0 undef) = Value.agg #[.int .u64 (session : Int), .int .i64 p.n, .int .i64 p.b, .int .i64 p.q, .int .i64 p.eps, .int .i64 p.f, .int .i64 (L : Int), .int .u64 (id : Int), .slice Aq B cq] ∧ Hid (BytesIn (fun _ => True) U Aq pay)), (fun rs__ U => ∃ Aq cq, (rs__.getD 0 undef) = Value.slice Aq B cq ∧ Hid (BytesIn (fun _ => True) U Aq pay)), (fun rs__ U => (rs__.getD 0 undef) = Value.string (strOf pay)), (fun rs__ U => (rs__.getD 0 undef) = Value.bool false), (fun rs__ U => (rs__.getD 0 undef) = Value.bool false)] : List (List Value → World → Prop)).getD i (fun _ _ => True)) (by kernel_rfl) (by kernel_rfl) (by kernel_rfl) (fun _ _ _ h1 h2 => h1.fresh h2) (fun _ => Keeps.refl _ _) (RL.cons ?s0 (RL.cons ?s1 (RL.cons ?s2 (RL.cons ?s3 (RL.cons ?s4 (RL.cons ?s5 (RL.cons ?s6 (RL.cons ?s7 (RL.cons ?s8 (RL.cons ?s9 (RL.cons ?s10 (RL.cons ?s11 (RL.cons ?s12 (RL.cons ?s13 (RL.cons ?s14 (RL.cons ?s15 (RL.cons ?s16 (RL.cons ?s17 (RL.cons ?s18 (RL.cons ?s19 (RL.cons ?s20 (RL.cons ?s21 (RL.cons ?s22 (RL.cons ?s23 (RL.cons ?s24 (RL.cons ?s25 (RL.cons ?s26 (RL.cons ?s27 (RL.cons ?s28 (RL.cons ?s29 (RL.cons ?s30 (RL.cons ?s31 (RL.cons ?s32 (RL.cons ?s33 (RL.cons ?s34 (RL.cons ?s35 (RL.cons ?s36 (RL.nil _ _)))))))))))))))))))))))))))))))))))))) ?fin
      case s0 =>
        intro V wx hE hd
        clear hd
        intro K hK
        simp only [rput, List.foldl_cons, List.foldl_nil, Act.put, List.setIfInBounds_toArray, List.set_cons_zero, List.set_cons_succ]
        go_simp; (with_reducible refine hK.out _ _ ?_ ?_); exact rfl; exact ⟨Keeps.refl _ _, rfl⟩
      case s1 =>
        intro V wx hE hd
        obtain ⟨u0, hb0, hu0, p0⟩ : ∃ U, Keeps NoB w9.drew U ∧ Keeps NoB U wx ∧ ((V 131) = Value.int .i64 0) := hd 0 (by decide)
        clear hd
        clear hb0 hu0
        intro K hK
        simp only [rput, List.foldl_cons, List.foldl_nil, Act.put, List.setIfInBounds_toArray, List.set_cons_zero, List.set_cons_succ, p0]
        go_simp; (with_reducible refine hK.out _ _ ?_ ?_); exact rfl; exact ⟨Keeps.refl _ _, rfl⟩
      case s2 =>
        intro V wx hE hd
        obtain ⟨u1, hb1, hu1, p1⟩ : ∃ U, Keeps NoB w9.drew U ∧ Keeps NoB U wx ∧ ((V 132) = Value.bool false) := hd 1 (by decide)
        clear hd
        clear hb1 hu1
        intro K hK
        simp only [rput, List.foldl_cons, List.foldl_nil, Act.put, List.setIfInBounds_toArray, List.set_cons_zero, List.set_cons_succ, p1]
        go_simp; (with_reducible refine hK.out _ _ ?_ ?_); exact rfl; exact ⟨Keeps.refl _ _, rfl⟩
      case s3 =>
        intro V wx hE hd
        obtain ⟨u2, hb2, hu2, p2⟩ : ∃ U, Keeps NoB w9.drew U ∧ Keeps NoB U wx ∧ ((V 133) = Value.bool false) := hd 2 (by decide)
        clear hd
        clear hb2 hu2
        intro K hK
        simp only [rput, List.foldl_cons, List.foldl_nil, Act.put, List.setIfInBounds_toArray, List.set_cons_zero, List.set_cons_succ, p2]
        go_simp; (with_reducible refine hK.out _ _ ?_ ?_); exact rfl; exact ⟨Keeps.refl _ _, rfl⟩
      case s4 =>
        intro V wx hE hd
        obtain ⟨u2, hb2, hu2, p2⟩ : ∃ U, Keeps NoB w9.drew U ∧ Keeps NoB U wx ∧ ((V 133) = Value.bool false) := hd 2 (by decide)
        obtain ⟨u3, hb3, hu3, p3⟩ : ∃ U, Keeps NoB w9.drew U ∧ Keeps NoB U wx ∧ ((V 134) = Value.pointer (some ⟨zb, 0, none⟩)) := hd 3 (by decide)
        clear hd
        clear hb2 hu2
        clear hb3 hu3
        intro K hK
        simp only [rput, List.foldl_cons, List.foldl_nil, Act.put, List.setIfInBounds_toArray, List.set_cons_zero, List.set_cons_succ, p2, p3]
        go_simp; (with_reducible refine hK.out _ _ ?_ ?_); exact rfl; exact ⟨Keeps.refl _ _, rfl⟩
      case s5 =>
        intro V wx hE hd
        obtain ⟨u2, hb2, hu2, p2⟩ : ∃ U, Keeps NoB w9.drew U ∧ Keeps NoB U wx ∧ ((V 133) = Value.bool false) := hd 2 (by decide)
        obtain ⟨u4, hb4, hu4, p4⟩ : ∃ U, Keeps NoB w9.drew U ∧ Keeps NoB U wx ∧ ((V 135) = Value.pointer (some ⟨zb, 7, none⟩)) := hd 4 (by decide)
        clear hd
        clear hb2 hu2
        clear hb4 hu4
        intro K hK
        simp only [rput, List.foldl_cons, List.foldl_nil, Act.put, List.setIfInBounds_toArray, List.set_cons_zero, List.set_cons_succ, p2, p4]
        obtain ⟨g0, g1, g2, g3, g4, g5, g6, g7, g8⟩ := HZP.out wx (HKd.out.fresh hE); go_simp; (with_reducible refine hK.out _ _ ?_ ?_); exact rfl; exact ⟨Keeps.refl _ _, rfl⟩
      case s6 =>
        intro V wx hE hd
        obtain ⟨u2, hb2, hu2, p2⟩ : ∃ U, Keeps NoB w9.drew U ∧ Keeps NoB U wx ∧ ((V 133) = Value.bool false) := hd 2 (by decide)
        clear hd
        clear hb2 hu2
        intro K hK
        simp only [rput, List.foldl_cons, List.foldl_nil, Act.put, List.setIfInBounds_toArray, List.set_cons_zero, List.set_cons_succ, p2]
        go_simp; (with_reducible refine hK.out _ _ ?_ ?_); exact rfl; exact ⟨Keeps.refl _ _, rfl⟩
      case s7 =>
        intro V wx hE hd
        obtain ⟨u2, hb2, hu2, p2⟩ : ∃ U, Keeps NoB w9.drew U ∧ Keeps NoB U wx ∧ ((V 133) = Value.bool false) := hd 2 (by decide)
        obtain ⟨u5, hb5, hu5, p5⟩ : ∃ U, Keeps NoB w9.drew U ∧ Keeps NoB U wx ∧ ((V 136) = Value.int .u64 (id : Int)) := hd 5 (by decide)
        obtain ⟨u6, hb6, hu6, p6⟩ : ∃ U, Keeps NoB w9.drew U ∧ Keeps NoB U wx ∧ ((V 137) = Value.int .u64 (id : Int)) := hd 6 (by decide)
        clear hd
        clear hb2 hu2
        clear hb5 hu5
        clear hb6 hu6
        intro K hK
        simp only [rput, List.foldl_cons, List.foldl_nil, Act.put, List.setIfInBounds_toArray, List.set_cons_zero, List.set_cons_succ, p2, p5, p6]
        go_simp; (with_reducible refine hK.out _ _ ?_ ?_); exact rfl; exact ⟨Keeps.refl _ _, rfl⟩
      case s8 =>
        intro V wx hE hd
        obtain ⟨u2, hb2, hu2, p2⟩ : ∃ U, Keeps NoB w9.drew U ∧ Keeps NoB U wx ∧ ((V 133) = Value.bool false) := hd 2 (by decide)
        obtain ⟨u7, hb7, hu7, p7⟩ : ∃ U, Keeps NoB w9.drew U ∧ Keeps NoB U wx ∧ ((V 138) = Value.bool false) := hd 7 (by decide)
        clear hd
        clear hb2 hu2
        clear hb7 hu7
        intro K hK
        simp only [rput, List.foldl_cons, List.foldl_nil, Act.put, List.setIfInBounds_toArray, List.set_cons_zero, List.set_cons_succ, p2, p7]
        go_simp; (with_reducible refine hK.out _ _ ?_ ?_); exact rfl; exact ⟨Keeps.refl _ _, rfl⟩
      case s9 =>
        intro V wx hE hd
        obtain ⟨u8, hb8, hu8, p8⟩ : ∃ U, Keeps NoB w9.drew U ∧ Keeps NoB U wx ∧ ((V 139) = Value.bool false) := hd 8 (by decide)
        clear hd
        clear hb8 hu8
        intro K hK
        simp only [rput, List.foldl_cons, List.foldl_nil, Act.put, List.setIfInBounds_toArray, List.set_cons_zero, List.set_cons_succ, p8]
        go_simp; (with_reducible refine hK.out _ _ ?_ ?_); exact rfl; exact ⟨Keeps.refl _ _, rfl⟩
      case s10 =>
        intro V wx hE hd
        obtain ⟨u9, hb9, hu9, p9⟩ : ∃ U, Keeps NoB w9.drew U ∧ Keeps NoB U wx ∧ ((V 140) = Value.bool false) := hd 9 (by decide)
        clear hd
        clear hb9 hu9
        intro K hK
        simp only [rput, List.foldl_cons, List.foldl_nil, Act.put, List.setIfInBounds_toArray, List.set_cons_zero, List.set_cons_succ, p9]
        go_simp; (with_reducible refine hK.out _ _ ?_ ?_); exact rfl; exact ⟨Keeps.refl _ _, rfl⟩
      case s11 =>
        intro V wx hE hd
        obtain ⟨u9, hb9, hu9, p9⟩ : ∃ U, Keeps NoB w9.drew U ∧ Keeps NoB U wx ∧ ((V 140) = Value.bool false) := hd 9 (by decide)
        obtain ⟨u10, hb10, hu10, p10⟩ : ∃ U, Keeps NoB w9.drew U ∧ Keeps NoB U wx ∧ ((V 141) = Value.pointer (some ⟨zb, 0, none⟩)) := hd 10 (by decide)
        clear hd
        clear hb9 hu9
        clear hb10 hu10
        intro K hK
        simp only [rput, List.foldl_cons, List.foldl_nil, Act.put, List.setIfInBounds_toArray, List.set_cons_zero, List.set_cons_succ, p9, p10]
        go_simp; (with_reducible refine hK.out _ _ ?_ ?_); exact rfl; exact ⟨Keeps.refl _ _, rfl⟩
      case s12 =>
        intro V wx hE hd
        obtain ⟨u9, hb9, hu9, p9⟩ : ∃ U, Keeps NoB w9.drew U ∧ Keeps NoB U wx ∧ ((V 140) = Value.bool false) := hd 9 (by decide)
        obtain ⟨u11, hb11, hu11, p11⟩ : ∃ U, Keeps NoB w9.drew U ∧ Keeps NoB U wx ∧ ((V 142) = Value.pointer (some ⟨zb, 0, none⟩)) := hd 11 (by decide)
        clear hd
        clear hb9 hu9
        clear hb11 hu11
        intro K hK
        simp only [rput, List.foldl_cons, List.foldl_nil, Act.put, List.setIfInBounds_toArray, List.set_cons_zero, List.set_cons_succ, p9, p11]
        obtain ⟨g0, g1, g2, g3, g4, g5, g6, g7, g8⟩ := HZP.out wx (HKd.out.fresh hE); go_simp; (with_reducible refine hK.out _ _ ?_ ?_); exact rfl; exact ⟨Keeps.refl _ _, rfl⟩
      case s13 =>
        intro V wx hE hd
        obtain ⟨u9, hb9, hu9, p9⟩ : ∃ U, Keeps NoB w9.drew U ∧ Keeps NoB U wx ∧ ((V 140) = Value.bool false) := hd 9 (by decide)
        clear hd
        clear hb9 hu9
        intro K hK
        simp only [rput, List.foldl_cons, List.foldl_nil, Act.put, List.setIfInBounds_toArray, List.set_cons_zero, List.set_cons_succ, p9]
        go_simp; (with_reducible refine hK.out _ _ ?_ ?_); exact rfl; exact ⟨Keeps.refl _ _, rfl⟩
      case s14 =>
        intro V wx hE hd
        obtain ⟨u9, hb9, hu9, p9⟩ : ∃ U, Keeps NoB w9.drew U ∧ Keeps NoB U wx ∧ ((V 140) = Value.bool false) := hd 9 (by decide)
        obtain ⟨u13, hb13, hu13, p13⟩ : ∃ U, Keeps NoB w9.drew U ∧ Keeps NoB U wx ∧ ((V 144) = Value.pointer (some ⟨pb, 5, none⟩)) := hd 13 (by decide)
        clear hd
        clear hb9 hu9
        clear hb13 hu13
        intro K hK
        simp only [rput, List.foldl_cons, List.foldl_nil, Act.put, List.setIfInBounds_toArray, List.set_cons_zero, List.set_cons_succ, p9, p13]
        obtain ⟨g0, g1, g2, g3, g4, g5, g6, g7⟩ := HCP8.out wx (HKd.out.fresh hE); go_simp; (with_reducible refine hK.out _ _ ?_ ?_); exact rfl; exact ⟨Keeps.refl _ _, rfl⟩
      case s15 =>
        intro V wx hE hd
        obtain ⟨u9, hb9, hu9, p9⟩ : ∃ U, Keeps NoB w9.drew U ∧ Keeps NoB U wx ∧ ((V 140) = Value.bool false) := hd 9 (by decide)
        obtain ⟨u12, hb12, hu12, p12⟩ : ∃ U, Keeps NoB w9.drew U ∧ Keeps NoB U wx ∧ ((V 143) = Value.int .u64 (session : Int)) := hd 12 (by decide)
        obtain ⟨u14, hb14, hu14, p14⟩ : ∃ U, Keeps NoB w9.drew U ∧ Keeps NoB U wx ∧ ((V 145) = Value.int .u64 (session : Int)) := hd 14 (by decide)
        clear hd
        clear hb9 hu9
        clear hb12 hu12
        clear hb14 hu14
        intro K hK
        simp only [rput, List.foldl_cons, List.foldl_nil, Act.put, List.setIfInBounds_toArray, List.set_cons_zero, List.set_cons_succ, p9, p12, p14]
        go_simp; (with_reducible refine hK.out _ _ ?_ ?_); exact rfl; exact ⟨Keeps.refl _ _, rfl⟩
      case s16 =>
        intro V wx hE hd
        obtain ⟨u9, hb9, hu9, p9⟩ : ∃ U, Keeps NoB w9.drew U ∧ Keeps NoB U wx ∧ ((V 140) = Value.bool false) := hd 9 (by decide)
        obtain ⟨u15, hb15, hu15, p15⟩ : ∃ U, Keeps NoB w9.drew U ∧ Keeps NoB U wx ∧ ((V 146) = Value.bool false) := hd 15 (by decide)
        clear hd
        clear hb9 hu9
        clear hb15 hu15
        intro K hK
        simp only [rput, List.foldl_cons, List.foldl_nil, Act.put, List.setIfInBounds_toArray, List.set_cons_zero, List.set_cons_succ, p9, p15]
        go_simp; (with_reducible refine hK.out _ _ ?_ ?_); exact rfl; exact ⟨Keeps.refl _ _, rfl⟩
      case s17 =>
        intro V wx hE hd
        obtain ⟨u16, hb16, hu16, p16⟩ : ∃ U, Keeps NoB w9.drew U ∧ Keeps NoB U wx ∧ ((V 147) = Value.bool false) := hd 16 (by decide)
        clear hd
        clear hb16 hu16
        intro K hK
        simp only [rput, List.foldl_cons, List.foldl_nil, Act.put, List.setIfInBounds_toArray, List.set_cons_zero, List.set_cons_succ, p16]
        go_simp; (with_reducible refine hK.out _ _ ?_ ?_); exact rfl; exact ⟨Keeps.refl _ _, rfl⟩
      case s18 =>
        intro V wx hE hd
        obtain ⟨u17, hb17, hu17, p17⟩ : ∃ U, Keeps NoB w9.drew U ∧ Keeps NoB U wx ∧ ((V 148) = Value.bool false) := hd 17 (by decide)
        clear hd
        clear hb17 hu17
        intro K hK
        simp only [rput, List.foldl_cons, List.foldl_nil, Act.put, List.setIfInBounds_toArray, List.set_cons_zero, List.set_cons_succ, p17]
        go_simp; (with_reducible refine hK.out _ _ ?_ ?_); exact rfl; exact ⟨Keeps.refl _ _, rfl⟩
      case s19 =>
        intro V wx hE hd
        obtain ⟨u17, hb17, hu17, p17⟩ : ∃ U, Keeps NoB w9.drew U ∧ Keeps NoB U wx ∧ ((V 148) = Value.bool false) := hd 17 (by decide)
        obtain ⟨u18, hb18, hu18, p18⟩ : ∃ U, Keeps NoB w9.drew U ∧ Keeps NoB U wx ∧ ((V 149) = Value.pointer (some ⟨zb, 0, none⟩)) := hd 18 (by decide)
        clear hd
        clear hb17 hu17
        clear hb18 hu18
        intro K hK
        simp only [rput, List.foldl_cons, List.foldl_nil, Act.put, List.setIfInBounds_toArray, List.set_cons_zero, List.set_cons_succ, p17, p18]
        go_simp; (with_reducible refine hK.out _ _ ?_ ?_); exact rfl; exact ⟨Keeps.refl _ _, rfl⟩
      case s20 =>
        intro V wx hE hd
        obtain ⟨u17, hb17, hu17, p17⟩ : ∃ U, Keeps NoB w9.drew U ∧ Keeps NoB U wx ∧ ((V 148) = Value.bool false) := hd 17 (by decide)
        obtain ⟨u19, hb19, hu19, p19⟩ : ∃ U, Keeps NoB w9.drew U ∧ Keeps NoB U wx ∧ ((V 150) = Value.pointer (some ⟨zb, 6, none⟩)) := hd 19 (by decide)
        clear hd
        clear hb17 hu17
        clear hb19 hu19
        intro K hK
        simp only [rput, List.foldl_cons, List.foldl_nil, Act.put, List.setIfInBounds_toArray, List.set_cons_zero, List.set_cons_succ, p17, p19]
        obtain ⟨g0, g1, g2, g3, g4, g5, g6, g7, g8⟩ := HZP.out wx (HKd.out.fresh hE); go_simp; (with_reducible refine hK.out _ _ ?_ ?_); exact rfl; exact ⟨Keeps.refl _ _, rfl⟩
      case s21 =>
        intro V wx hE hd
        obtain ⟨u17, hb17, hu17, p17⟩ : ∃ U, Keeps NoB w9.drew U ∧ Keeps NoB U wx ∧ ((V 148) = Value.bool false) := hd 17 (by decide)
        clear hd
        clear hb17 hu17
        intro K hK
        simp only [rput, List.foldl_cons, List.foldl_nil, Act.put, List.setIfInBounds_toArray, List.set_cons_zero, List.set_cons_succ, p17]
        go_simp; (with_reducible refine hK.out _ _ ?_ ?_); exact rfl; exact ⟨Keeps.refl _ _, rfl⟩
      case s22 =>
        intro V wx hE hd
        obtain ⟨u17, hb17, hu17, p17⟩ : ∃ U, Keeps NoB w9.drew U ∧ Keeps NoB U wx ∧ ((V 148) = Value.bool false) := hd 17 (by decide)
        obtain ⟨u21, hb21, hu21, p21⟩ : ∃ U, Keeps NoB w9.drew U ∧ Keeps NoB U wx ∧ ((V 152) = Value.pointer (some ⟨pb, 6, none⟩)) := hd 21 (by decide)
        clear hd
        clear hb17 hu17
        clear hb21 hu21
        intro K hK
        simp only [rput, List.foldl_cons, List.foldl_nil, Act.put, List.setIfInBounds_toArray, List.set_cons_zero, List.set_cons_succ, p17, p21]
        obtain ⟨g0, g1, g2, g3, g4, g5, g6, g7⟩ := HCP8.out wx (HKd.out.fresh hE); go_simp; (with_reducible refine hK.out _ _ ?_ ?_); exact rfl; exact ⟨Keeps.refl _ _, rfl⟩
      case s23 =>
        intro V wx hE hd
        obtain ⟨u17, hb17, hu17, p17⟩ : ∃ U, Keeps NoB w9.drew U ∧ Keeps NoB U wx ∧ ((V 148) = Value.bool false) := hd 17 (by decide)
        obtain ⟨u22, hb22, hu22, p22⟩ : ∃ U, Keeps NoB w9.drew U ∧ Keeps NoB U wx ∧ ((V 153) = Value.slice A L c) := hd 22 (by decide)
        clear hd
        clear hb17 hu17
        clear hb22 hu22
        intro K hK
        simp only [rput, List.foldl_cons, List.foldl_nil, Act.put, List.setIfInBounds_toArray, List.set_cons_zero, List.set_cons_succ, p17, p22]
        go_simp; (with_reducible refine hK.out _ _ ?_ ?_); exact rfl; exact ⟨Keeps.refl _ _, rfl⟩
      case s24 =>
        intro V wx hE hd
        obtain ⟨u17, hb17, hu17, p17⟩ : ∃ U, Keeps NoB w9.drew U ∧ Keeps NoB U wx ∧ ((V 148) = Value.bool false) := hd 17 (by decide)
        obtain ⟨u20, hb20, hu20, p20⟩ : ∃ U, Keeps NoB w9.drew U ∧ Keeps NoB U wx ∧ ((V 151) = Value.int .i64 (L : Int)) := hd 20 (by decide)
        obtain ⟨u23, hb23, hu23, p23⟩ : ∃ U, Keeps NoB w9.drew U ∧ Keeps NoB U wx ∧ ((V 154) = Value.int .i64 (L : Int)) := hd 23 (by decide)
        clear hd
        clear hb17 hu17
        clear hb20 hu20
        clear hb23 hu23
        intro K hK
        simp only [rput, List.foldl_cons, List.foldl_nil, Act.put, List.setIfInBounds_toArray, List.set_cons_zero, List.set_cons_succ, p17, p20, p23]
        go_simp; (with_reducible refine hK.out _ _ ?_ ?_); exact rfl; exact ⟨Keeps.refl _ _, rfl⟩
      case s25 =>
        intro V wx hE hd
        obtain ⟨u17, hb17, hu17, p17⟩ : ∃ U, Keeps NoB w9.drew U ∧ Keeps NoB U wx ∧ ((V 148) = Value.bool false) := hd 17 (by decide)
        obtain ⟨u24, hb24, hu24, p24⟩ : ∃ U, Keeps NoB w9.drew U ∧ Keeps NoB U wx ∧ ((V 155) = Value.bool false) := hd 24 (by decide)
        clear hd
        clear hb17 hu17
        clear hb24 hu24
        intro K hK
        simp only [rput, List.foldl_cons, List.foldl_nil, Act.put, List.setIfInBounds_toArray, List.set_cons_zero, List.set_cons_succ, p17, p24]
        go_simp; (with_reducible refine hK.out _ _ ?_ ?_); exact rfl; exact ⟨Keeps.refl _ _, rfl⟩
      case s26 =>
        intro V wx hE hd
        obtain ⟨u25, hb25, hu25, p25⟩ : ∃ U, Keeps NoB w9.drew U ∧ Keeps NoB U wx ∧ ((V 156) = Value.bool false) := hd 25 (by decide)
        clear hd
        clear hb25 hu25
        intro K hK
        simp only [rput, List.foldl_cons, List.foldl_nil, Act.put, List.setIfInBounds_toArray, List.set_cons_zero, List.set_cons_succ, p25]
        go_simp; (with_reducible refine hK.out _ _ ?_ ?_); exact rfl; exact ⟨Keeps.refl _ _, rfl⟩
      case s27 =>
        intro V wx hE hd
        obtain ⟨u26, hb26, hu26, p26⟩ : ∃ U, Keeps NoB w9.drew U ∧ Keeps NoB U wx ∧ ((V 157) = Value.bool false) := hd 26 (by decide)
        clear hd
        clear hb26 hu26
        intro K hK
        simp only [rput, List.foldl_cons, List.foldl_nil, Act.put, List.setIfInBounds_toArray, List.set_cons_zero, List.set_cons_succ, p26]
        go_simp; (with_reducible refine hK.out _ _ ?_ ?_); exact rfl; exact ⟨Keeps.refl _ _, rfl⟩
      case s28 =>
        intro V wx hE hd
        obtain ⟨u26, hb26, hu26, p26⟩ : ∃ U, Keeps NoB w9.drew U ∧ Keeps NoB U wx ∧ ((V 157) = Value.bool false) := hd 26 (by decide)
        obtain ⟨u27, hb27, hu27, p27⟩ : ∃ U, Keeps NoB w9.drew U ∧ Keeps NoB U wx ∧ ((V 158) = Value.pointer (some ⟨zb, 8, none⟩)) := hd 27 (by decide)
        clear hd
        clear hb26 hu26
        clear hb27 hu27
        intro K hK
        simp only [rput, List.foldl_cons, List.foldl_nil, Act.put, List.setIfInBounds_toArray, List.set_cons_zero, List.set_cons_succ, p26, p27]
        obtain ⟨g0, g1, g2, g3, g4, g5, g6, g7, g8⟩ := HZP.out wx (HKd.out.fresh hE); go_simp; (with_reducible refine hK.out _ _ ?_ ?_); exact rfl; exact ⟨Keeps.refl _ _, rfl⟩
      case s29 =>
        intro V wx hE hd
        obtain ⟨u26, hb26, hu26, p26⟩ : ∃ U, Keeps NoB w9.drew U ∧ Keeps NoB U wx ∧ ((V 157) = Value.bool false) := hd 26 (by decide)
        obtain ⟨u28, hb28, hu28, p28⟩ : ∃ U, Keeps NoB w9.drew U ∧ Keeps NoB U wx ∧ ((V 159) = Value.slice Ap B cp) := hd 28 (by decide)
        clear hd
        clear hb26 hu26
        clear hb28 hu28
        intro K hK
        simp only [rput, List.foldl_cons, List.foldl_nil, Act.put, List.setIfInBounds_toArray, List.set_cons_zero, List.set_cons_succ, p26, p28]
        have hcv := conv_run 25 9 Try.underlying25 Try.underlying9 (HB8.out.kept (HKd.out.fresh hE)) cp; rw [HPLk.out] at hcv; go_simp; (with_reducible refine hK.out _ _ ?_ ?_); exact rfl; exact ⟨Keeps.refl _ _, rfl⟩
      case s30 =>
        intro V wx hE hd
        obtain ⟨u26, hb26, hu26, p26⟩ : ∃ U, Keeps NoB w9.drew U ∧ Keeps NoB U wx ∧ ((V 157) = Value.bool false) := hd 26 (by decide)
        clear hd
        clear hb26 hu26
        intro K hK
        simp only [rput, List.foldl_cons, List.foldl_nil, Act.put, List.setIfInBounds_toArray, List.set_cons_zero, List.set_cons_succ, p26]
        go_simp; (with_reducible refine hK.out _ _ ?_ ?_); exact rfl; exact ⟨Keeps.refl _ _, rfl⟩
      case s31 =>
        intro V wx hE hd
        obtain ⟨u26, hb26, hu26, p26⟩ : ∃ U, Keeps NoB w9.drew U ∧ Keeps NoB U wx ∧ ((V 157) = Value.bool false) := hd 26 (by decide)
        clear hd
        clear hb26 hu26
        intro K hK
        simp only [rput, List.foldl_cons, List.foldl_nil, Act.put, List.setIfInBounds_toArray, List.set_cons_zero, List.set_cons_succ, p26]
        go_simp; (with_reducible refine hK.out _ _ ?_ ?_); exact rfl; exact ⟨Keeps.refl _ _, rfl⟩
      case s32 =>
        intro V wx hE hd
        obtain ⟨u26, hb26, hu26, p26⟩ : ∃ U, Keeps NoB w9.drew U ∧ Keeps NoB U wx ∧ ((V 157) = Value.bool false) := hd 26 (by decide)
        obtain ⟨u30, hb30, hu30, p30⟩ : ∃ U, Keeps NoB w9.drew U ∧ Keeps NoB U wx ∧ ((V 161) = Value.pointer (some ⟨en, 0, none⟩)) := hd 30 (by decide)
        obtain ⟨u31, hb31, hu31, p31⟩ : ∃ U, Keeps NoB w9.drew U ∧ Keeps NoB U wx ∧ ((V 162) = Value.int .u64 (id : Int)) := hd 31 (by decide)
        clear hd
        clear hb26 hu26
        clear hb30 hu30
        clear hb31 hu31
        intro K hK
        simp only [rput, List.foldl_cons, List.foldl_nil, Act.put, List.setIfInBounds_toArray, List.set_cons_zero, List.set_cons_succ, p26, p30, p31]
        go_simp; refine (HPK9.out wx (HKd.out.fresh hE)).mono ?_; rintro e w19 ⟨Aq, cq, rfl, ho9, hk9⟩; (with_reducible refine hK.out _ _ ?_ ?_); exact rfl; exact ⟨hk9, Aq, cq, rfl, hid ((OwnB.bytes ho9).mono (fun _ _ _ => trivial))⟩
      case s33 =>
        intro V wx hE hd
        obtain ⟨u26, hb26, hu26, p26⟩ : ∃ U, Keeps NoB w9.drew U ∧ Keeps NoB U wx ∧ ((V 157) = Value.bool false) := hd 26 (by decide)
        obtain ⟨u32, hb32, hu32, p32⟩ : ∃ U, Keeps NoB w9.drew U ∧ Keeps NoB U wx ∧ (∃ Aq cq, (V 163) = Value.agg #[.int .u64 (session : Int), .int .i64 p.n, .int .i64 p.b, .int .i64 p.q, .int .i64 p.eps, .int .i64 p.f, .int .i64 (L : Int), .int .u64 (id : Int), .slice Aq B cq] ∧ Hid (BytesIn (fun _ => True) U Aq pay)) := hd 32 (by decide)
        clear hd
        clear hb26 hu26
        obtain ⟨Aq32, cq32, q32, hby32⟩ := p32
        intro K hK
        simp only [rput, List.foldl_cons, List.foldl_nil, Act.put, List.setIfInBounds_toArray, List.set_cons_zero, List.set_cons_succ, p26, q32]
        have hpf := pay_field wx (.int .u64 (session : Int)) (.int .i64 p.n) (.int .i64 p.b) (.int .i64 p.q) (.int .i64 p.eps) (.int .i64 p.f) (.int .i64 (L : Int)) (.int .u64 (id : Int)) (.slice Aq32 B cq32); go_simp; (with_reducible refine hK.out _ _ ?_ ?_); exact rfl; exact ⟨Keeps.refl _ _, Aq32, cq32, rfl, hid (hby32.out.kept hu32)⟩
      case s34 =>
        intro V wx hE hd
        obtain ⟨u26, hb26, hu26, p26⟩ : ∃ U, Keeps NoB w9.drew U ∧ Keeps NoB U wx ∧ ((V 157) = Value.bool false) := hd 26 (by decide)
        obtain ⟨u33, hb33, hu33, p33⟩ : ∃ U, Keeps NoB w9.drew U ∧ Keeps NoB U wx ∧ (∃ Aq cq, (V 164) = Value.slice Aq B cq ∧ Hid (BytesIn (fun _ => True) U Aq pay)) := hd 33 (by decide)
        clear hd
        clear hb26 hu26
        obtain ⟨Aq33, cq33, q33, hby33⟩ := p33
        intro K hK
        simp only [rput, List.foldl_cons, List.foldl_nil, Act.put, List.setIfInBounds_toArray, List.set_cons_zero, List.set_cons_succ, p26, q33]
        have hcv := conv_run 25 9 Try.underlying25 Try.underlying9 (hby33.out.kept hu33) cq33; rw [HPLk.out] at hcv; go_simp; (with_reducible refine hK.out _ _ ?_ ?_); exact rfl; exact ⟨Keeps.refl _ _, rfl⟩
      case s35 =>
        intro V wx hE hd
        obtain ⟨u26, hb26, hu26, p26⟩ : ∃ U, Keeps NoB w9.drew U ∧ Keeps NoB U wx ∧ ((V 157) = Value.bool false) := hd 26 (by decide)
        obtain ⟨u29, hb29, hu29, p29⟩ : ∃ U, Keeps NoB w9.drew U ∧ Keeps NoB U wx ∧ ((V 160) = Value.string (strOf pay)) := hd 29 (by decide)
        obtain ⟨u34, hb34, hu34, p34⟩ : ∃ U, Keeps NoB w9.drew U ∧ Keeps NoB U wx ∧ ((V 165) = Value.string (strOf pay)) := hd 34 (by decide)
        clear hd
        clear hb26 hu26
        clear hb29 hu29
        clear hb34 hu34
        intro K hK
        simp only [rput, List.foldl_cons, List.foldl_nil, Act.put, List.setIfInBounds_toArray, List.set_cons_zero, List.set_cons_succ, p26, p29, p34]
        go_simp; (with_reducible refine hK.out _ _ ?_ ?_); exact rfl; exact ⟨Keeps.refl _ _, rfl⟩
      case s36 =>
        intro V wx hE hd
        obtain ⟨u26, hb26, hu26, p26⟩ : ∃ U, Keeps NoB w9.drew U ∧ Keeps NoB U wx ∧ ((V 157) = Value.bool false) := hd 26 (by decide)
        obtain ⟨u35, hb35, hu35, p35⟩ : ∃ U, Keeps NoB w9.drew U ∧ Keeps NoB U wx ∧ ((V 166) = Value.bool false) := hd 35 (by decide)
        clear hd
        clear hb26 hu26
        clear hb35 hu35
        intro K hK
        simp only [rput, List.foldl_cons, List.foldl_nil, Act.put, List.setIfInBounds_toArray, List.set_cons_zero, List.set_cons_succ, p26, p35]
        go_simp; (with_reducible refine hK.out _ _ ?_ ?_); exact rfl; exact ⟨Keeps.refl _ _, rfl⟩
      case fin =>
        intro V wz hE hd
        obtain ⟨u36, hb36, hu36, p36⟩ : ∃ U, Keeps NoB w9.drew U ∧ Keeps NoB U wz ∧ ((V 167) = Value.bool false) := hd 36 (by decide)
        clear hd
        clear hb36 hu36
        simp only [rput, List.foldl_cons, List.foldl_nil, Act.put, List.setIfInBounds_toArray, List.set_cons_zero, List.set_cons_succ, p36]
        clear p36
        have HKz := hid (HKr.out.fresh (HK8.out.fresh (HKd.out.fresh hE)))
        clear dl
        go_wp2_with fail
        go_roundw
        case rel => exact ⟨k + 1, by omega, by go_num, HKz⟩
        case measure => simp [intOf]; omega
    · obtain rfl : M = k := by omega
      have HWr := hid HKr.out
      obtain ⟨b0, b1, b2, b3, b4, b5, b6, b7⟩ := HC6.out wr HKr.out
      obtain ⟨wq, hwq⟩ : ∃ x, x = wr := ⟨_, rfl⟩
      rw [HBB.out] at b1
      go_wp2_with fail
      refine (HSM.out wr A5 c5 _ (HR6.out.kept HKr.out)).mono ?_
      rintro e w7 ⟨v7, rfl, ho7, hk7⟩
      obtain ⟨A7, c7, hv7, hc7, hA7, hb7⟩ := OwnB.reads ho7
      have hsl := sumB_length HFT.out
      rw [hsl] at hv7 hc7
      subst hv7
      have HSL := hid hsl
      have HO7 := hid ho7
      have HB7 := hid (hb7.mono (R' := fun _ => True) (fun _ _ _ => trivial))
      have HCC7 := hid hc7
      have HAA7 := hid hA7
      have HK7 := hid (HKr.out.fresh hk7)
      have HE7 := hid (HE6.out.kept HK7.out)
      have HR7 := hid ((HR6.out.kept HK7.out).mono (R' := fun _ => True) (fun _ _ _ => trivial))
      have HC7 := hid (fun (W : World) (hW : Keeps NoB w7 W) => HC6.out W (HK7.out.fresh hW))
      obtain ⟨all, hall⟩ : ∃ x, sumB B (compN p session obj) = x := ⟨_, rfl⟩
      rw [hall] at HO7 HB7 HSL
      have HGR := hid (fun (k : Nat) (hk : k < m) => fitB_at HFT.out k (by rw [HMM.out]; exact hk))
      obtain ⟨cps, hcps⟩ : ∃ x, compN p session obj = x := ⟨_, rfl⟩
      rw [hcps] at HR7 HGR HCM HRG HMM
      have hui := Try.underlying25
      clear ho7 hb7 hk7 hc7 hA7 hsl hall hcps hwq b0 b1 b2 b3 b4 b5 b6 b7
      go_wp2_with fail
      go_loopw [179] (fun v179 wr => ∃ k : Nat, k ≤ m ∧ v179 = .int .i64 (k : Int) ∧ Hid (Keeps NoB w7 wr)) (fun v179 _ => m - (intOf v179).toNat)
      case atStart => exact ⟨0, Nat.zero_le _, rfl, Keeps.refl _ _⟩
      case round =>
        obtain ⟨k, hk, rfl, HKr⟩ := hrel
        have hm9 := HM1.out
        by_cases hlt : k < m
        · obtain ⟨b1, o1, rfl, _, hc1⟩ := (HR7.out.kept HKr.out).2 (by rw [HMM.out]; omega)
          obtain ⟨u1, k1, A1, d1, rfl, hcp1, hA1, r1⟩ := hc1 k (by rw [HMM.out]; exact hlt)
          have hgl := HGR.out k hlt
          rw [hgl] at k1 hcp1
          have HGL := hid hgl
          have HR1 := hid r1
          have HA1 := hid hA1
          have HD1 := hid hcp1
          have HCMk := hid (fun (W : World) (hW : Keeps NoB wr W) => HCM.out en (k : Int) W (HE7.out.kept (HKr.out.fresh hW)))
          have hcm : cmpN cps (k : Int) = gr cps k := by unfold cmpN; rw [if_pos (by omega), Int.toNat_natCast]
          rw [hcm] at HCMk
          generalize gr cps k = bl at *
          have q0 : (0 : Int) ≤ (k : Int) := by omega
          have q1 : (k : Int) < (m : Int) := by omega
          have dl : ((strOf bl).toList != (strOf bl).toList) = false := by simp
          clear hc1 r1 hgl hcm hcp1 hA1
          go_wp2_with fail
          have HKd := hid (Keeps.refl NoB wr).drew
          refine wp_region_list [([], [184], []), ([], [185], []), ([0, 1], [186], [184, 185]), ([0, 1, 2], [187], [184, 185, 186]), ([], [188], []), ([4], [189], [188]), ([0, 1, 2, 3, 4, 5], [190], [184, 185, 186, 187, 188, 189])] [184, 185, 186, 187, 188, 189, 190] (Keeps NoB) (fun (i : Nat) => ([(fun rs__ U => (rs__.getD 0 undef) = Value.pointer (some ⟨en, 0, none⟩)), (fun rs__ U => (rs__.getD 0 undef) = Value.int .i64 (k : Int)), (fun rs__ U => ∃ Aq cq, (rs__.getD 0 undef) = Value.slice Aq B cq ∧ Hid (BytesIn (fun _ => True) U Aq bl)), (fun rs__ U => (rs__.getD 0 undef) = Value.string (strOf bl)), (fun rs__ U => (rs__.getD 0 undef) = Value.slice A1 B d1), (fun rs__ U => (rs__.getD 0 undef) = Value.string (strOf bl)), (fun rs__ U => (rs__.getD 0 undef) = Value.bool false)] : List (List Value → World → Prop)).getD i (fun _ _ => True)) (by kernel_rfl) (by kernel_rfl) (by kernel_rfl) (fun _ _ _ h1 h2 => h1.fresh h2) (fun _ => Keeps.refl _ _) (RL.cons ?s0 (RL.cons ?s1 (RL.cons ?s2 (RL.cons ?s3 (RL.cons ?s4 (RL.cons ?s5 (RL.cons ?s6 (RL.nil _ _)))))))) ?fin
          case s0 =>
            intro V wx hE hd
            clear hd
            intro K hK
            simp only [rput, List.foldl_cons, List.foldl_nil, Act.put, List.setIfInBounds_toArray, List.set_cons_zero, List.set_cons_succ]
            go_simp; (with_reducible refine hK.out _ _ ?_ ?_); exact rfl; exact ⟨Keeps.refl _ _, rfl⟩
          case s1 =>
            intro V wx hE hd
            clear hd
            intro K hK
            simp only [rput, List.foldl_cons, List.foldl_nil, Act.put, List.setIfInBounds_toArray, List.set_cons_zero, List.set_cons_succ]
            go_simp; (with_reducible refine hK.out _ _ ?_ ?_); exact rfl; exact ⟨Keeps.refl _ _, rfl⟩
          case s2 =>
            intro V wx hE hd
            obtain ⟨u0, hb0, hu0, p0⟩ : ∃ U, Keeps NoB wr.drew U ∧ Keeps NoB U wx ∧ ((V 184) = Value.pointer (some ⟨en, 0, none⟩)) := hd 0 (by decide)
            obtain ⟨u1, hb1, hu1, p1⟩ : ∃ U, Keeps NoB wr.drew U ∧ Keeps NoB U wx ∧ ((V 185) = Value.int .i64 (k : Int)) := hd 1 (by decide)
            clear hd
            clear hb0 hu0
            clear hb1 hu1
            intro K hK
            simp only [rput, List.foldl_cons, List.foldl_nil, Act.put, List.setIfInBounds_toArray, List.set_cons_zero, List.set_cons_succ, p0, p1]
            go_simp; refine (HCMk.out wx (HKd.out.fresh hE)).mono ?_; rintro e w19 ⟨v9, rfl, ho9, hk9⟩; obtain ⟨A9, c9, e9, _, _, hb9⟩ := OwnB.reads ho9; rw [HGL.out] at e9; subst e9; (with_reducible refine hK.out _ _ ?_ ?_); exact rfl; exact ⟨hk9, A9, c9, rfl, hid (hb9.mono (fun _ _ _ => trivial))⟩
          case s3 =>
            intro V wx hE hd
            obtain ⟨u2, hb2, hu2, p2⟩ : ∃ U, Keeps NoB wr.drew U ∧ Keeps NoB U wx ∧ (∃ Aq cq, (V 186) = Value.slice Aq B cq ∧ Hid (BytesIn (fun _ => True) U Aq bl)) := hd 2 (by decide)
            clear hd
            obtain ⟨Aq2, cq2, q2, hby2⟩ := p2
            intro K hK
            simp only [rput, List.foldl_cons, List.foldl_nil, Act.put, List.setIfInBounds_toArray, List.set_cons_zero, List.set_cons_succ, q2]
            have hcv := conv_run 25 9 Try.underlying25 Try.underlying9 (hby2.out.kept hu2) cq2; rw [HGL.out] at hcv; go_simp; (with_reducible refine hK.out _ _ ?_ ?_); exact rfl; exact ⟨Keeps.refl _ _, rfl⟩
          case s4 =>
            intro V wx hE hd
            clear hd
            intro K hK
            simp only [rput, List.foldl_cons, List.foldl_nil, Act.put, List.setIfInBounds_toArray, List.set_cons_zero, List.set_cons_succ]
            go_simp; (with_reducible refine hK.out _ _ ?_ ?_); exact rfl; exact ⟨Keeps.refl _ _, rfl⟩
          case s5 =>
            intro V wx hE hd
            obtain ⟨u4, hb4, hu4, p4⟩ : ∃ U, Keeps NoB wr.drew U ∧ Keeps NoB U wx ∧ ((V 188) = Value.slice A1 B d1) := hd 4 (by decide)
            clear hd
            clear hb4 hu4
            intro K hK
            simp only [rput, List.foldl_cons, List.foldl_nil, Act.put, List.setIfInBounds_toArray, List.set_cons_zero, List.set_cons_succ, p4]
            have hcv := conv_run 25 9 Try.underlying25 Try.underlying9 (HR1.out.kept (HKd.out.fresh hE)) d1; rw [HGL.out] at hcv; go_simp; (with_reducible refine hK.out _ _ ?_ ?_); exact rfl; exact ⟨Keeps.refl _ _, rfl⟩
          case s6 =>
            intro V wx hE hd
            obtain ⟨u3, hb3, hu3, p3⟩ : ∃ U, Keeps NoB wr.drew U ∧ Keeps NoB U wx ∧ ((V 187) = Value.string (strOf bl)) := hd 3 (by decide)
            obtain ⟨u5, hb5, hu5, p5⟩ : ∃ U, Keeps NoB wr.drew U ∧ Keeps NoB U wx ∧ ((V 189) = Value.string (strOf bl)) := hd 5 (by decide)
            clear hd
            clear hb3 hu3
            clear hb5 hu5
            intro K hK
            simp only [rput, List.foldl_cons, List.foldl_nil, Act.put, List.setIfInBounds_toArray, List.set_cons_zero, List.set_cons_succ, p3, p5]
            go_simp; (with_reducible refine hK.out _ _ ?_ ?_); exact rfl; exact ⟨Keeps.refl _ _, rfl⟩
          case fin =>
            intro V wz hE hd
            obtain ⟨u6, hb6, hu6, p6⟩ : ∃ U, Keeps NoB wr.drew U ∧ Keeps NoB U wz ∧ ((V 190) = Value.bool false) := hd 6 (by decide)
            clear hd
            clear hb6 hu6
            simp only [rput, List.foldl_cons, List.foldl_nil, Act.put, List.setIfInBounds_toArray, List.set_cons_zero, List.set_cons_succ, p6]
            clear p6
            have HKz := hid (HKr.out.fresh (HKd.out.fresh hE))
            have HWz := hid (HKd.out.fresh hE)
            have hOE := hid (OwnInts.empty wz wz.heap.size .u8 5 (Nat.le_refl _))
            have HKA := hid ((Keeps.refl NoB wz).alloc (.cells #[] 5))
            have HBa := hid (HB7.out.kept (HKz.out.fresh HKA.out))
            have hb40 := HB40.out.2
            clear dl
            go_wp2_with (at_builtin; go_must (refine wpList_appB _ rfl _ _ 25 rfl wz.heap.size hui _ [] rfl hOE.out A7 B c7 all rfl HSL.out HAA7.out HBa.out 0 rfl (by omega) (by simp) ?_); intro v10 w10 hown10 hgr10; have HO10 := hid (show OwnB w10 wz.heap.size v10 all from hown10); have HK10 := hid (HKA.out.grown hgr10 (fun i e hlt => by have e : some i = some wz.heap.size := e; have e := Option.some.inj e; omega)); clear hown10 hgr10)
            obtain ⟨A10, c10, hv10, hc10, hA10, hb10⟩ := OwnB.reads HO10.out
            rw [HSL.out] at hv10
            subst hv10
            have HKW := hid ((Keeps.refl NoB w10).alloc (.cells #[.slice A1 B d1, .slice A1 B d1] 25))
            have HK10z := hid (HWz.out.fresh HK10.out)
            have HOWN := hid (fun b (hb : (Value.slice A10 B c10).ownBlock = some b) => OwnInts.base_le HO10.out b hb)
            have hrt := rows_two (R := fun b => (Value.slice A10 B c10).ownBlock ≠ some b) (heap_alloc_new w10 (.cells #[.slice A1 B d1, .slice A1 B d1] 25)) (fun e => by have := HOWN.out _ e; omega) HGL.out HD1.out HA1.out ((HR1.out.lt.kept (HK10z.out.fresh HKW.out)).mono (fun b _ hb e => by have h1 := HOWN.out b e; have h2 := HWz.out.size; have h3 := hb.2; omega))
            have hxy := xors_yes all [bl, bl] wz.heap.size (.slice A10 B c10) (some ⟨w10.heap.size, 0, none⟩) 2 _ _ (OwnInts.kept HO10.out HKW.out) hrt (by simp [fitB, HGL.out, HSL.out]) (fun k hk h => h hk)
            rw [xor_back (by rw [HGL.out, HSL.out]), show ([bl, bl] : List (List UInt8)).length = 2 from rfl] at hxy
            have HXY := hid hxy
            have dl2 : ((strOf all).toList != (strOf all).toList) = false := by simp
            clear hrt hxy hc10 hA10 hb10
            go_wp2_with fail
            refine HXY.out.mono ?_
            rintro e w12 ⟨rfl, ho12, hk12⟩
            obtain ⟨A10', c10', e10, _, _, hb12⟩ := OwnB.reads ho12
            injection e10 with e10 e11 e12
            subst e10 e12
            have f1 := conv_run 25 9 Try.underlying25 Try.underlying9 hb12 c10
            have hb13 := (HB7.out.lt.kept ((HKz.out.fresh HK10.out).fresh HKW.out)).keeps hk12 (fun b hb e => by have h1 := HOWN.out b e; have h2 := HKz.out.size; have h3 := hb.2; omega)
            have f2 := conv_run 25 9 Try.underlying25 Try.underlying9 hb13 c7
            rw [HSL.out] at f1 f2
            have HKF := hid (((HKz.out.fresh HK10.out).fresh HKW.out).then hk12 (fun i h hl => by have h1 := HOWN.out i h; have h2 := HKz.out.size; omega))
            clear e11 hb12 hb13 ho12 hk12
            go_wp2_with fail
            go_roundw
            case rel => exact ⟨k + 1, by omega, by go_num, HKF⟩
            case measure => simp [intOf]; omega
        · obtain rfl : m = k := by omega
          obtain ⟨b0, b1, b2, b3, b4, b5, b6, b7⟩ := HC7.out wr HKr.out
          have HRW := hid (HRG.out wr A5 c5 _ (HR7.out.kept HKr.out) HC5.out HA5.out)
          go_wp2_with fail
          refine HRW.out.mono ?_
          rintro e w8 ⟨rfl, hk8⟩
          have HK8 := hid (HK6.out.fresh (HK7.out.fresh (HKr.out.fresh hk8)))
          clear hk8 b0 b1 b2 b3 b4 b5 b6 b7
          go_wp2_with fail
          go_ret
          exact ⟨rfl, HK8.out⟩
end Go.Proofs.Ytnnkfopopanfjaa
