/- Several texts, one behind the other: what each proves, and its conditions, stands ahead of it. -/
import Derived.Test.YtnnkfopopanfjaaSpeaks13
import Derived.Test.YtnnkfopopanfjaaRef10Eqs
import Derived.Test.YtnnkfopopanfjaaEmit
import Derived.Test.YtnnkfopopanfjaaG7
set_option linter.unusedVariables false
set_option linter.unusedSimpArgs false
/- Composite blocks of an object are right: the plain law. Conditions: parameters that may be. -/
set_option linter.unusedVariables false
namespace Go.Proofs.Ytnnkfopopanfjaa
open Go.RowKit

theorem chunks_flat (B : Nat) (obj : List UInt8) (N : Nat) : ((List.range N).map (chunkN B obj)).flatten = (List.range (N * B)).map (gb obj) := by
  induction N with
  | zero => simp
  | succ N ih =>
    rw [List.range_succ, List.map_append, List.flatten_append, ih, Nat.succ_mul, List.range_add, List.map_append]
    simp [chunkN, Function.comp_def]
theorem map_gb (obj : List UInt8) : (List.range obj.length).map (gb obj) = obj := by
  apply List.ext_getElem (by simp)
  intro j h1 h2
  simp [gb, h2]
theorem join_split {p : Par} {obj : List UInt8} (h : obj.length ≤ p.n.toNat * p.b.toNat) : joinN obj.length (splitN p obj) = obj := by
  unfold joinN splitN
  rw [chunks_flat, ← List.map_take, List.take_range, Nat.min_eq_left h]
  exact map_gb obj
theorem comp_take (p : Par) (session : Nat) (obj : List UInt8) : (compN p session obj).take p.n.toNat = splitN p obj := by
  unfold compN compK
  rw [List.take_append_of_le_length (by rw [splitN_length]; omega), ← splitN_length p obj, List.take_length]
theorem split_fitB (p : Par) (obj : List UInt8) : fitB p.b.toNat (splitN p obj) = true := by
  unfold fitB splitN
  rw [List.all_eq_true]
  intro l hl
  obtain ⟨i, _, rfl⟩ := List.mem_map.1 hl
  simp [chunkN_length]
theorem right_comp {p : Par} (hm : p.may) (session : Nat) (obj : List UInt8) (h : (obj.length : Int) ≤ p.n * p.b) : rightB p session (obj.length : Int) (compN p session obj) = true := by
  obtain ⟨N, B, hpn, hpb, hpn2, hpb2, hN1, hN2, hB1, hB2, hNB, hNB2⟩ := par_sizes hm
  have hl : obj.length ≤ p.n.toNat * p.b.toNat := by rw [hpn2, hpb2]; rw [hNB] at h; omega
  refine rightB_true ⟨hm, ?_, ⟨?_, by omega, h, ?_⟩, ?_⟩
  · unfold compN; rw [compK_length]; omega
  · rw [comp_take, splitN_length]; omega
  · rw [comp_take]; exact split_fitB p obj
  · rw [comp_take, Int.toNat_natCast, join_split hl]
end Go.Proofs.Ytnnkfopopanfjaa

/- Of an object's composite blocks the outer equations hold: the plain law. Conditions: parameters that may be. -/
set_option linter.unusedVariables false
namespace Go.Proofs.Ytnnkfopopanfjaa
open Go.RowKit

theorem xorL_self (s : List UInt8) : xorL s s = List.replicate s.length 0 := by
  induction s with
  | nil => rfl
  | cons x r ih =>
    have : xorL (x :: r) (x :: r) = (x ^^^ x) :: xorL r r := rfl
    rw [this, ih, UInt8.xor_self]; rfl
theorem sumB_snoc (n : Nat) (ls : List (List UInt8)) (l : List UInt8) : sumB n (ls ++ [l]) = xorL (sumB n ls) l := by
  unfold sumB xorAll; rw [List.foldl_append]; rfl
theorem comp_aux (p : Par) (session : Nat) (obj : List UInt8) (j : Nat) (hj : j < (auxN p).toNat) : gr (compN p session obj) (p.n.toNat + j) = auxB p session obj j := by
  unfold gr compN compK
  rw [List.getD_eq_getElem?_getD, List.getElem?_append_right (by rw [splitN_length]; omega), splitN_length]
  simp [hj]
theorem holds_at {p : Par} (hm : p.may) (session : Nat) (obj : List UInt8) (j : Nat) (hj : j < (auxN p).toNat) :
    inRange (compN p session obj).length (gl (hasN p session p.n.toNat) j ++ [p.n + (j : Int)]) ∧ fitN p.b (pickR (compN p session obj) (gl (hasN p session p.n.toNat) j ++ [p.n + (j : Int)])) = true ∧
    sumB p.b.toNat (pickR (compN p session obj) (gl (hasN p session p.n.toNat) j ++ [p.n + (j : Int)])) = List.replicate p.b.toNat 0 ∧ (gl (hasN p session p.n.toNat) j ++ [p.n + (j : Int)]).length ≤ 1073741824 := by
  have hn : 1 ≤ p.n ∧ p.n ≤ 1048576 := ⟨hm.1, hm.2.1⟩
  have hpb : 1 ≤ p.b := hm.2.2.1
  have hr := has_range' hm session obj j
  have e1 : pickR (compN p session obj) (gl (hasN p session p.n.toNat) j) = pickR (splitN p obj) (gl (hasN p session p.n.toNat) j) := pick_append hr
  have e2 : (p.n + (j : Int)).toNat = p.n.toNat + j := by omega
  have e3 : pickR (compN p session obj) (gl (hasN p session p.n.toNat) j ++ [p.n + (j : Int)]) = pickR (splitN p obj) (gl (hasN p session p.n.toNat) j) ++ [auxB p session obj j] := by
    rw [pickR_snoc, e1, e2, comp_aux p session obj j hj]
  have hf := pick_fit p obj hr
  have hl := auxB_length hm session obj j
  have hb := hasN_bound p session hm p.n.toNat j
  refine ⟨?_, ?_, ?_, ?_⟩
  · intro i hi
    unfold compN
    rw [compK_length]
    rcases List.mem_append.1 hi with h | h
    · have := hr i h; rw [splitN_length] at this; omega
    · have := List.mem_singleton.1 h; omega
  · rw [e3]
    unfold fitN fitB
    rw [List.all_append]
    unfold fitB at hf
    rw [hf]
    simp [hl]; omega
  · rw [e3, sumB_snoc, show auxB p session obj j = sumB p.b.toNat (pickR (splitN p obj) (gl (hasN p session p.n.toNat) j)) from rfl, xorL_self, sumB_length hf]
  · rw [List.length_append]; simp; omega
theorem zero_repl (n : Nat) : zeroB (List.replicate n 0) = true := by simp [zeroB]
theorem check_holds {p : Par} (hm : p.may) (session : Nat) (obj : List UInt8) (j : Nat) (hj : j < (auxN p).toNat) (A : Option Addr) (c : Nat) (A2 : Option Addr) (c2 : Nat) (R : Nat → Prop) (w : World) (hb : RowsIn R w A (compN p session obj)) (hi : IntsAt w .i64 A2 (gl (eqsN (hasN p session p.n.toNat) p.n (auxN p).toNat) j)) :
    Calls Try.prog 29 #[.int .i64 p.b, .slice A (compN p session obj).length c, .slice A2 (gl (eqsN (hasN p session p.n.toNat) p.n (auxN p).toNat) j).length c2] w fun e w' => ∃ v, e = .returned (.tuple #[v, .bool true]) ∧ OwnB w' w.heap.size v (List.replicate p.b.toNat 0) ∧ Keeps NoB w w' := by
  obtain ⟨h1, h2, h3, h4⟩ := holds_at hm session obj j hj
  have hpb : 1 ≤ p.b ∧ p.b ≤ 65535 := ⟨hm.2.2.1, hm.2.2.2.1⟩
  rw [eqsN_gl _ _ _ _ hj] at hi ⊢
  refine (check_in p.b (compN p session obj) _ A c A2 c2 R w (by omega) (by omega) hb hi h1 h4).mono ?_
  rintro e w' ⟨hk, ⟨hf, _⟩ | ⟨_, v, he, ho⟩⟩
  · rw [h2] at hf; cases hf
  · rw [h3] at ho; exact ⟨v, he, ho, hk⟩
end Go.Proofs.Ytnnkfopopanfjaa

/- Composite blocks of which one is turned, or one is missing, or there is one more: the plain law. Conditions: parameters that may be. -/
set_option linter.unusedVariables false
namespace Go.Proofs.Ytnnkfopopanfjaa
open Go.RowKit

/-- A byte of a block that is turned. -/
def turnB (l : List UInt8) (at' : Nat) (by' : UInt8) : List UInt8 := l.set at' (gb l at' ^^^ by')
theorem turnB_length (l : List UInt8) (a : Nat) (x : UInt8) : (turnB l a x).length = l.length := by simp [turnB]
/-- The blocks, one of which is another. -/
def turnR (ls : List (List UInt8)) (k : Nat) (x : List UInt8) : List (List UInt8) := ls.set k x
theorem turnR_length (ls : List (List UInt8)) (k : Nat) (x : List UInt8) : (turnR ls k x).length = ls.length := by simp [turnR]
/-- What is made of the blocks by 'more'. -/
def moreR (ls : List (List UInt8)) (more : Int) (x : List UInt8) : List (List UInt8) := if more < 0 then ls.take (ls.length - 1) else if 0 < more then ls ++ [x] else ls
theorem compN_length (p : Par) (session : Nat) (o : List UInt8) : (compN p session o).length = p.n.toNat + (auxN p).toNat := by unfold compN; rw [compK_length]
theorem right_more {p : Par} (hm : p.may) (session : Nat) (obj : List UInt8) (k : Nat) (x : List UInt8) (more n : Int) (h : more ≠ 0) : rightB p session n (moreR (turnR (compN p session obj) k x) more x) = false := by
  refine rightB_false (fun hr => ?_)
  have hl := congrArg List.length hr.2.2.2
  rw [compN_length] at hl
  have hn : 1 ≤ p.n := hm.1
  unfold moreR at hl
  split at hl
  · rw [List.length_take, turnR_length, compN_length] at hl; omega
  · split at hl
    · rw [List.length_append, turnR_length, compN_length] at hl; simp at hl
    · omega
/-- Whether these are the blocks of the object that they would be of. -/
theorem right_same {p : Par} (hm : p.may) (session : Nat) (n : Int) (ls : List (List UInt8)) (hl : ls.length = p.n.toNat + (auxN p).toNat) (hf : fitB p.b.toNat ls = true) :
    rightB p session n ls = (decide (0 ≤ n) && decide (n ≤ p.n * p.b) && sameB ls (compN p session ((ls.take p.n.toNat).flatten.take n.toNat))) := by
  have hn : 1 ≤ p.n := hm.1
  have ht : (ls.take p.n.toNat).length = p.n.toNat := by rw [List.length_take]; omega
  have hft : fitB p.b.toNat (ls.take p.n.toNat) = true := by
    unfold fitB at hf ⊢
    rw [List.all_eq_true] at hf ⊢
    exact fun l h => hf l (List.mem_of_mem_take h)
  by_cases hr : RightOk p session n ls
  · rw [rightB_true hr]
    obtain ⟨_, _, ⟨_, h0, h1, _⟩, he⟩ := hr
    have hs : sameB ls (compN p session ((ls.take p.n.toNat).flatten.take n.toNat)) = true := decide_eq_true he
    rw [hs, decide_eq_true h0, decide_eq_true h1]; rfl
  · rw [rightB_false hr]
    by_cases h0 : 0 ≤ n
    · by_cases h1 : n ≤ p.n * p.b
      · have hs : sameB ls (compN p session ((ls.take p.n.toNat).flatten.take n.toNat)) = false := decide_eq_false (fun he => hr ⟨hm, by omega, ⟨by omega, h0, h1, hft⟩, he⟩)
        rw [hs]; simp
      · rw [decide_eq_false h1]; simp
    · rw [decide_eq_false h0]; simp
theorem comp_fitB {p : Par} (hm : p.may) (session : Nat) (obj : List UInt8) : fitB p.b.toNat (compN p session obj) = true := by
  unfold fitB
  rw [List.all_eq_true]
  intro l hl
  have := comp_fit hm session obj _ l hl
  simpa using this
theorem turn_fitB {p : Par} (hm : p.may) (session : Nat) (obj : List UInt8) (k : Nat) (x : List UInt8) (hx : x.length = p.b.toNat) : fitB p.b.toNat (turnR (compN p session obj) k x) = true := by
  have h := comp_fitB hm session obj
  unfold fitB turnR at *
  rw [List.all_eq_true] at h ⊢
  intro l hl
  rcases List.mem_or_eq_of_mem_set hl with h1 | h1
  · exact h l h1
  · subst h1; simpa using hx
end Go.Proofs.Ytnnkfopopanfjaa

/- Equations that hold of blocks, all of so many bytes: each holds, so does their sum; they agree; what follows of them is no more than there are blocks. The plain law of WholeEquations. No condition. -/
set_option linter.unusedVariables false
namespace Go.Proofs.Ytnnkfopopanfjaa

/-- An equation of blocks that there are, whose value is what these come to. -/
def GoodE (n : Nat) (bs : List (List UInt8)) (e : EqV) : Prop := (∀ i ∈ e.of, 0 ≤ i ∧ i < (bs.length : Int)) ∧ e.val = sumB n (selB bs e.of)
theorem good_ok {n : Nat} {bs : List (List UInt8)} (hf : fitB n bs = true) {is : List Int} (h : ∀ i ∈ is, 0 ≤ i ∧ i < (bs.length : Int)) : is.all (okB n bs) = true := by
  rw [List.all_eq_true]
  intro i hi
  obtain ⟨h0, h1⟩ := h i hi
  unfold okB
  rw [decide_eq_true h0, decide_eq_true h1, decide_eq_true (fitB_at hf i.toNat (by omega))]; rfl
theorem good_length {n : Nat} {bs : List (List UInt8)} (hf : fitB n bs = true) {e : EqV} (h : GoodE n bs e) : e.val.length = n := by
  rw [h.2]; exact sumB_length (allOk_fit (good_ok hf h.1))
theorem good_holds {n : Nat} {bs : List (List UInt8)} (hf : fitB n bs = true) {e : EqV} (h : GoodE n bs e) : holdsE e.of e.val bs = true :=
  (holds_iff (good_length hf h) (good_ok hf h.1)).2 h.2
theorem goods_fit {n : Nat} {bs : List (List UInt8)} (hf : fitB n bs = true) {es : List EqV} (h : ∀ e ∈ es, GoodE n bs e) : fitB n (valsE es) = true := by
  unfold fitB valsE
  rw [List.all_map, List.all_eq_true]
  intro e he
  simp [good_length hf (h e he)]
theorem goods_in {n : Nat} {bs : List (List UInt8)} {es : List EqV} (h : ∀ e ∈ es, GoodE n bs e) : ∀ i ∈ ofsE es, 0 ≤ i ∧ i < (bs.length : Int) := fun i hi => by
  obtain ⟨e, he, hi⟩ := List.mem_flatMap.1 hi
  exact (h e he).1 i hi
theorem goods_sum {n : Nat} {bs : List (List UInt8)} (hf : fitB n bs = true) : ∀ {es : List EqV}, (∀ e ∈ es, GoodE n bs e) → sumB n (valsE es) = sumB n (selB bs (ofsE es))
  | [], _ => rfl
  | e :: r, h => by
    have h1 := h e (List.mem_cons_self ..)
    have ih := goods_sum hf (es := r) (fun x hx => h x (List.mem_cons_of_mem _ hx))
    show sumB n (e.val :: valsE r) = sumB n (selB bs (e.of ++ ofsE r))
    have h9 : fitB n (selB bs e.of) = true := allOk_fit (good_ok hf h1.1)
    rw [sumB_cons (good_length hf h1), ih, selB_append, sumB_append h9, ← h1.2]
theorem goods_hold {n : Nat} {bs : List (List UInt8)} (hf : fitB n bs = true) {es : List EqV} (h : ∀ e ∈ es, GoodE n bs e) : holdsE (oddN (ofsE es)) (sumB n (valsE es)) bs = true := by
  refine (holds_iff (sumB_length (goods_fit hf h)) (good_ok hf (fun i hi => goods_in h i (oddN_sub hi)))).2 ?_
  rw [goods_sum hf h]
  refine (sum_odd (fun i => gr bs i.toNat) _ (fun i hi => ?_)).symm
  obtain ⟨h0, h1⟩ := goods_in h i hi
  exact fitB_at hf i.toNat (by omega)
theorem padB_self {n : Nat} {b : List UInt8} (h : b.length = n) : padB n b = b := by
  unfold padB; rw [h, Nat.min_self, List.drop_of_length_le (by simp), List.append_nil, ← h, List.take_length]
theorem good_eqT {n : Nat} {bs : List (List UInt8)} (hf : fitB n bs = true) {e : EqV} (h : GoodE n bs e) : e = eqT bs.length n bs e.of := by
  have hin : inT bs.length e.of = e.of := List.filter_eq_self.2 (fun x hx => by
    have := h.1 x hx
    simp [this.1, this.2])
  obtain ⟨of, val⟩ := e
  unfold eqT
  rw [hin]
  have : val = sumF n (fT n bs) of := by
    rw [show val = sumB n (selB bs of) from h.2]
    unfold sumF selB
    congr 1
    apply List.map_congr_left
    intro i hi
    obtain ⟨h0, h1⟩ := h.1 i hi
    exact (padB_self (fitB_at hf i.toNat (by omega))).symm
  rw [this]
theorem goods_agree {n : Nat} {bs : List (List UInt8)} (hf : fitB n bs = true) {es : List EqV} (h : ∀ e ∈ es, GoodE n bs e) : agreesN (bs.length : Int) n es = true := by
  have : es = eqsT bs.length n bs (es.map EqV.of) := by
    unfold eqsT
    rw [List.map_map]
    conv => lhs; rw [← List.map_id es]
    apply List.map_congr_left
    intro e he
    exact good_eqT hf (h e he)
  rw [this]
  exact eqsT_agree _ _ _ _
theorem rising_length : ∀ (l : List Int) (a m : Int), l.Pairwise (· < ·) → (∀ x ∈ l, a ≤ x ∧ x < m) → l.length ≤ (m - a).toNat
  | [], _, _, _, _ => Nat.zero_le _
  | x :: r, a, m, hp, h => by
    obtain ⟨h1, h2⟩ := List.pairwise_cons.1 hp
    have hx := h x (List.mem_cons_self ..)
    have := rising_length r (x + 1) m h2 (fun y hy => ⟨by have := h1 y hy; omega, (h y (List.mem_cons_of_mem _ hy)).2⟩)
    rw [List.length_cons]
    omega
theorem reachN_le (m : Nat) (eqs : List (List Int)) : (reachN (m : Int) eqs).length ≤ m := by
  have := rising_length (reachN (m : Int) eqs) 0 m (reachN_rising _ _) (fun x hx => by
    obtain ⟨of, _, hf, hm⟩ := ((mem_reachN _ _ x).1 hx).mem
    exact fitsN_in hf x hm)
  omega
/-- An outer equation. -/
noncomputable def outE (p : Par) (session j : Nat) : EqV := ⟨gl (hasN p session p.n.toNat) j ++ [p.n + (j : Int)], List.replicate p.b.toNat 0⟩
/-- A check block's equation. -/
noncomputable def ckE (p : Par) (session : Nat) (obj : List UInt8) (id : Nat) : EqV := ⟨blkN p session id, payN p session obj id⟩
theorem outE_good {p : Par} (hm : p.may) (session : Nat) (obj : List UInt8) (j : Nat) (hj : j < (auxN p).toNat) : GoodE p.b.toNat (compN p session obj) (outE p session j) := by
  obtain ⟨h1, _, h3, _⟩ := holds_at hm session obj j hj
  exact ⟨fun i hi => by have := h1 i hi; omega, h3.symm⟩
theorem ckE_good {p : Par} (hm : p.may) (session : Nat) (obj : List UInt8) (id : Nat) : GoodE p.b.toNat (compN p session obj) (ckE p session obj id) :=
  ⟨fun i hi => by have := blkN_range hm session id obj i hi; omega, rfl⟩
/-- The outer equations, and those of check blocks. -/
noncomputable def eqsW (p : Par) (session : Nat) (obj : List UInt8) (k : Nat) (ids : List Nat) : List EqV := (List.range k).map (outE p session) ++ ids.map (ckE p session obj)
theorem eqsW_length (p : Par) (session : Nat) (obj : List UInt8) (k : Nat) (ids : List Nat) : (eqsW p session obj k ids).length = k + ids.length := by simp [eqsW]
theorem eqsW_out (p : Par) (session : Nat) (obj : List UInt8) (k : Nat) : eqsW p session obj (k + 1) [] = eqsW p session obj k [] ++ [outE p session k] := by
  unfold eqsW; rw [List.range_succ, List.map_append]; simp
theorem eqsW_chk (p : Par) (session : Nat) (obj : List UInt8) (k : Nat) (ids : List Nat) (j : Nat) (hj : j < ids.length) : eqsW p session obj k (ids.take (j + 1)) = eqsW p session obj k (ids.take j) ++ [ckE p session obj (ids.getD j 0)] := by
  unfold eqsW
  rw [List.take_succ_eq_append_getElem hj, List.map_append, List.append_assoc]
  simp [List.getD_eq_getElem?_getD, List.getElem?_eq_getElem hj]
theorem eqsW_good {p : Par} (hm : p.may) (session : Nat) (obj : List UInt8) (k : Nat) (hk : k ≤ (auxN p).toNat) (ids : List Nat) : ∀ e ∈ eqsW p session obj k ids, GoodE p.b.toNat (compN p session obj) e := fun e he => by
  rcases List.mem_append.1 he with h | h
  · obtain ⟨j, hj, rfl⟩ := List.mem_map.1 h
    exact outE_good hm session obj j (by have := List.mem_range.1 hj; omega)
  · obtain ⟨id, _, rfl⟩ := List.mem_map.1 h
    exact ckE_good hm session obj id
theorem eqsW_ofs {p : Par} (hm : p.may) (session : Nat) (obj : List UInt8) (k : Nat) (ids : List Nat) (hn : p.n ≤ 60) : (∀ e ∈ eqsW p session obj k ids, e.of.length ≤ 100000000) := fun e he => by
  rcases List.mem_append.1 he with h | h
  · obtain ⟨j, hj, rfl⟩ := List.mem_map.1 h
    have hb := hasN_bound p session hm p.n.toNat j
    show (gl (hasN p session p.n.toNat) j ++ [p.n + (j : Int)]).length ≤ _
    rw [List.length_append]
    simp
    omega
  · obtain ⟨id, _, rfl⟩ := List.mem_map.1 h
    have := blkN_length hm session id
    have := all_bounds hm
    show (blkN p session id).length ≤ _
    omega
end Go.Proofs.Ytnnkfopopanfjaa
