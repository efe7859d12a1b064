/- A region that draws its order, shown operation by operation: each operation once, in any world that keeps what was there. No condition. -/
import Derived.Deep.RegionHeld3
set_option linter.unusedVariables false
namespace Go.Proofs.Ytpkkaicpbihjfaa
open Go

/-- An operation's own slot. -/
def rdst (ops : Array Oper) (j : Nat) : Option Tmp := (ops[j]?).bind (·.dst)
/-- What slots hold. -/
def rvals (V : Tmp → Value) (l : List Tmp) : List Value := l.map V
/-- The frame in which some operations' slots are filled. -/
def rframe (ops : Array Oper) (V : Tmp → Value) (a : Act) (l : List Nat) : Act := l.foldl (fun a j => match rdst ops j with | some t => a.put (some t) (V t) | none => a) a
/-- Of each operation: which others come ahead of it, and which slots its post looks at. -/
abbrev RTab := List (List Nat × List Tmp)
def RTab.deps (tab : RTab) (i : Nat) : List Nat := (tab.getD i ([], [])).1
def RTab.slots (tab : RTab) (i : Nat) : List Tmp := (tab.getD i ([], [])).2

def tabRow (ops : Array Oper) (size : Nat) (late : Nat → Bool) (tab : RTab) (i : Nat) (o : Oper) : Bool :=
  (match o.op with | .select .. => false | .defer _ => false | .go _ => false | _ => true) &&
  (o.after.all (fun e => !Region.binds .any e || decide (e.on < i))) &&
  ((tab.deps i).all (fun j => decide (j < i) && o.after.any (fun e => Region.binds .any e && (e.on == j || (tab.deps e.on).contains j)))) &&
  (o.op.operands.toList.all (fun x => match x with | .tmp t => (List.range ops.size).all (fun j => rdst ops j != some t || (tab.deps i).contains j || (tab.deps j).contains i) | _ => true)) &&
  (match o.guard with | none => true | some (g, _) => (tab.deps i).contains g) &&
  ((tab.slots i).all (fun t => (o.dst == some t) || (tab.deps i).any (fun j => rdst ops j == some t))) &&
  (match o.dst with | none => true | some d => decide (d < size) && (List.range ops.size).all (fun j => j == i || rdst ops j != some d)) &&
  (!late i || (List.range ops.size).all (fun j => late j || (tab.deps i).contains j))
/-- The table is right. -/
def tabOk (ops : Array Oper) (size : Nat) (late : Nat → Bool) (tab : RTab) : Bool :=
  (List.range ops.size).all fun i => match ops[i]? with | none => false | some o => tabRow ops size late tab i o

structure TabRow (ops : Array Oper) (size : Nat) (late : Nat → Bool) (tab : RTab) (i : Nat) (o : Oper) : Prop where
  sel : ∀ cs b, o.op ≠ .select cs b
  def_ : ∀ c, o.op ≠ .defer c
  up : ∀ e ∈ o.after, Region.binds .any e = true → e.on < i
  deps : ∀ j ∈ tab.deps i, j < i ∧ ∃ e ∈ o.after, Region.binds .any e = true ∧ (e.on = j ∨ j ∈ tab.deps e.on)
  args : ∀ t, Operand.tmp t ∈ o.op.operands → ∀ j, j < ops.size → rdst ops j = some t → j ∈ tab.deps i ∨ i ∈ tab.deps j
  guard : ∀ g b, o.guard = some (g, b) → g ∈ tab.deps i
  slots : ∀ t ∈ tab.slots i, o.dst = some t ∨ ∃ j ∈ tab.deps i, rdst ops j = some t
  dst : ∀ d, o.dst = some d → d < size ∧ ∀ j, j < ops.size → j ≠ i → rdst ops j ≠ some d
  late : late i = true → ∀ j, j < ops.size → late j = false → j ∈ tab.deps i

theorem tabOk_row {ops : Array Oper} {size : Nat} {late : Nat → Bool} {tab : RTab} (h : tabOk ops size late tab = true) {i : Nat} {o : Oper} (ho : ops[i]? = some o) : TabRow ops size late tab i o := by
  have hlt : i < ops.size := (Array.getElem?_eq_some_iff.1 ho).1
  have h1 := List.all_eq_true.1 h i (List.mem_range.2 hlt)
  simp only [ho] at h1
  unfold tabRow at h1
  simp only [Bool.and_eq_true] at h1
  obtain ⟨⟨⟨⟨⟨⟨⟨a1, a2⟩, a3⟩, a4⟩, a5⟩, a6⟩, a7⟩, a8⟩ := h1
  refine ⟨?_, ?_, ?_, ?_, ?_, ?_, ?_, ?_, ?_⟩
  · intro cs b e; rw [e] at a1; cases a1
  · intro c e; rw [e] at a1; cases a1
  · intro e he hb
    have := Array.all_eq_true_iff_forall_mem.1 a2 e he
    simpa [hb] using this
  · intro j hj
    have h2 := List.all_eq_true.1 a3 j hj
    simp only [Bool.and_eq_true, decide_eq_true_eq] at h2
    refine ⟨h2.1, ?_⟩
    obtain ⟨e, he, hb⟩ := Array.any_eq_true'.1 h2.2
    simp only [Bool.and_eq_true, Bool.or_eq_true, beq_iff_eq, List.contains_iff_mem] at hb
    exact ⟨e, he, hb.1, hb.2⟩
  · intro t ht j hj hd
    have h2 := List.all_eq_true.1 a4 _ (Array.mem_toList_iff.2 ht)
    have h3 := List.all_eq_true.1 h2 j (List.mem_range.2 hj)
    simpa [hd] using h3
  · intro g b hg
    rw [hg] at a5
    simpa using a5
  · intro t ht
    have h2 := List.all_eq_true.1 a6 t ht
    simp only [Bool.or_eq_true, beq_iff_eq, List.any_eq_true] at h2
    rcases h2 with h2 | ⟨j, hj, h2⟩
    · exact .inl h2
    · exact .inr ⟨j, hj, h2⟩
  · intro d hd
    rw [hd] at a7
    simp only [Bool.and_eq_true, decide_eq_true_eq] at a7
    refine ⟨a7.1, fun j hj hne he => ?_⟩
    have h3 := List.all_eq_true.1 a7.2 j (List.mem_range.2 hj)
    simp [hne, he] at h3
  · intro hl j hj hlj
    simp only [hl, Bool.not_true, Bool.false_or, List.all_eq_true, List.mem_range, Bool.or_eq_true, List.contains_iff_mem] at a8
    rcases a8 j hj with h | h
    · rw [hlj] at h; cases h
    · exact h

section frame
variable {ops : Array Oper} {V : Tmp → Value}
theorem rframe_size (l : List Nat) : ∀ (a : Act), (rframe ops V a l).tmps.size = a.tmps.size := by
  induction l with
  | nil => intro a; rfl
  | cons j l ih =>
    intro a
    show (rframe ops V (match rdst ops j with | some t => a.put (some t) (V t) | none => a) l).tmps.size = _
    rw [ih]
    cases rdst ops j with
    | none => rfl
    | some t => simp [Act.put]
theorem rframe_defers (l : List Nat) : ∀ (a : Act), (rframe ops V a l).defers = a.defers := by
  induction l with
  | nil => intro a; rfl
  | cons j l ih =>
    intro a
    show (rframe ops V (match rdst ops j with | some t => a.put (some t) (V t) | none => a) l).defers = _
    rw [ih]
    cases rdst ops j with
    | none => rfl
    | some t => simp [Act.put]
theorem put_getD (a : Act) (d : Tmp) (v : Value) (t : Tmp) (h : d < a.tmps.size) : (a.put (some d) v).tmps.getD t undef = if d = t then v else a.tmps.getD t undef := by
  simp only [Act.put]
  by_cases e : d = t
  · subst e
    rw [if_pos rfl]
    simp [h]
  · rw [if_neg e]
    simp [Array.getElem?_setIfInBounds_ne e]
theorem rframe_off (l : List Nat) : ∀ (a : Act) (t : Tmp), (∀ j ∈ l, rdst ops j ≠ some t) → (rframe ops V a l).tmps.getD t undef = a.tmps.getD t undef := by
  induction l with
  | nil => intro a t _; rfl
  | cons j l ih =>
    intro a t h
    show (rframe ops V (match rdst ops j with | some t => a.put (some t) (V t) | none => a) l).tmps.getD t undef = _
    rw [ih _ t (fun k hk => h k (List.mem_cons_of_mem _ hk))]
    have hj := h j (List.mem_cons_self ..)
    cases hd : rdst ops j with
    | none => rfl
    | some d =>
      have hne : d ≠ t := fun e => hj (by rw [hd, e])
      simp [Act.put, Array.getElem?_setIfInBounds_ne hne]
theorem rframe_on (l : List Nat) : ∀ (a : Act) (t : Tmp), t < a.tmps.size → (∃ j ∈ l, rdst ops j = some t) → (rframe ops V a l).tmps.getD t undef = V t := by
  induction l with
  | nil => rintro a t _ ⟨j, hj, _⟩; cases hj
  | cons j l ih =>
    intro a t hs h
    show (rframe ops V (match rdst ops j with | some t => a.put (some t) (V t) | none => a) l).tmps.getD t undef = _
    by_cases hl : ∃ k ∈ l, rdst ops k = some t
    · refine ih _ t ?_ hl
      cases rdst ops j with
      | none => exact hs
      | some d => simpa [Act.put] using hs
    · rw [rframe_off l _ t (fun k hk e => hl ⟨k, hk, e⟩)]
      obtain ⟨k, hk, hd⟩ := h
      rcases List.mem_cons.1 hk with rfl | hk
      · rw [hd]
        show (a.put (some t) (V t)).tmps.getD t undef = _
        rw [put_getD _ _ _ _ hs, if_pos rfl]
      · exact absurd ⟨k, hk, hd⟩ hl
end frame

/-- The operation from a frame that shows its arguments: whatever it yields meets R. -/
def ROp (P : Program) (ops : Array Oper) (o : Oper) (b : Act) (w : World) (R : Value → World → Prop) : Prop :=
  ∀ K : Act → World → Prop, (∀ v w', R v w' → K (b.put o.dst v) w') → if Region.wanted o (yielded ops b.tmps) = true then Oper.wp P o b w K (fun _ _ _ => False) else K (b.put o.dst undef) w

def rview (a : Act) : Tmp → Value := fun t => a.tmps.getD t undef
def rupd (V : Tmp → Value) (d : Option Tmp) (v : Value) : Tmp → Value := fun t => if d = some t then v else V t

theorem put_inj {a b : Act} {d : Option Tmp} {v v' : Value} (hd : ∀ t, d = some t → t < b.tmps.size) (h : b.put d v = b.put d v') : a.put d v = a.put d v' := by
  cases d with
  | none => rfl
  | some t =>
    have h1 := put_getD b t v t (hd t rfl)
    have h2 := put_getD b t v' t (hd t rfl)
    rw [h] at h1
    rw [if_pos rfl] at h1 h2
    rw [h1.symm.trans h2]

theorem rop_move {P : Program} {ops : Array Oper} {o : Oper} {a b : Act} {w : World} {R : Value → World → Prop} {Q : Exit → Act → World → Prop}
    (hd : ∀ t, o.dst = some t → t < b.tmps.size) (he : execOp a.eval o = execOp b.eval o) (hw : Region.wanted o (yielded ops a.tmps) = Region.wanted o (yielded ops b.tmps)) (h : ROp P ops o b w R) :
    if Region.wanted o (yielded ops a.tmps) = true then Oper.wp P o a w (fun x w' => ∃ v, x = a.put o.dst v ∧ R v w') Q else ∃ v, a.put o.dst undef = a.put o.dst v ∧ R v w := by
  have h1 := h (fun x w' => ∃ v, x = b.put o.dst v ∧ R v w') (fun v w' hr => ⟨v, rfl, hr⟩)
  rw [hw]
  by_cases hwd : Region.wanted o (yielded ops b.tmps) = true
  · rw [if_pos hwd] at h1 ⊢
    unfold Oper.wp at h1 ⊢
    rw [he]
    generalize (execOp b.eval o).run P w = r at *
    cases r with
    | ok n w' =>
      cases n <;> simp only [Oper.upon] at h1 ⊢
      case value v => obtain ⟨v', e, hr⟩ := h1; exact ⟨v', put_inj hd e, hr⟩
      case skip => obtain ⟨v', e, hr⟩ := h1; exact ⟨v', put_inj hd e, hr⟩
      case defer d =>
        obtain ⟨v', e, hr⟩ := h1
        have := congrArg (fun x : Act => x.defers.length) e
        exfalso
        cases ho : o.dst <;> simp [Act.put, ho] at this
      case enter f args =>
        refine Calls.mono h1 fun e w'' hx => ?_
        cases e with
        | returned v => obtain ⟨v', e, hr⟩ := hx; exact ⟨v', put_inj hd e, hr⟩
        | panicked c => exact hx.elim
        | outgrown => obtain ⟨_, _, hx⟩ := hx; exact hx.elim
      case row row args => exact Rows.mono h1 fun u w'' hx => by obtain ⟨v', e, hr⟩ := hx; exact ⟨v', put_inj hd e, hr⟩
    | halt x w' =>
      cases x <;> simp only [Oper.upon] at h1
  · rw [if_neg hwd] at h1 ⊢
    obtain ⟨v', e, hr⟩ := h1
    exact ⟨v', put_inj hd e, hr⟩

/-- What holds while the region is under way. -/
structure RegInv (ops : Array Oper) (tab : RTab) (E : World → World → Prop) (post : Nat → List Value → World → Prop) (a0 : Act) (w1 : World) (listed : Array Bool) (a : Act) (w : World) : Prop where
  defers : a.defers = a0.defers
  size : a.tmps.size = a0.tmps.size
  lsize : listed.size = ops.size
  same : ∀ t, (∀ j, listed.getD j false = true → rdst ops j ≠ some t) → a.tmps.getD t undef = a0.tmps.getD t undef
  base : E w1 w
  done : ∀ j, listed.getD j false = true → ∃ u, E w1 u ∧ E u w ∧ post j (rvals (rview a) (tab.slots j)) u
  closed : ∀ i o, listed.getD i false = true → ops[i]? = some o → ∀ e ∈ o.after, Region.binds .any e = true → listed.getD e.on false = true

section main
variable {P : Program} {ops : Array Oper} {Q : Exit → Act → World → Prop} {late : Nat → Bool} {tab : RTab} {E : World → World → Prop} {post : Nat → List Value → World → Prop} {a0 : Act} {w1 : World}

theorem deps_listed {size : Nat} (htab : tabOk ops size late tab = true) {listed : Array Bool} (hc : ∀ i o, listed.getD i false = true → ops[i]? = some o → ∀ e ∈ o.after, Region.binds .any e = true → listed.getD e.on false = true) :
    ∀ (i : Nat) (o : Oper), ops[i]? = some o → (∀ e ∈ o.after, Region.binds .any e = true → listed.getD e.on false = true) → ∀ j ∈ tab.deps i, listed.getD j false = true := by
  intro i
  induction i using Nat.strongRecOn with
  | ind i ih =>
    intro o ho hall j hj
    have hrow := tabOk_row htab ho
    obtain ⟨_, e, he, hb, h⟩ := hrow.deps j hj
    rcases h with h | h
    · rw [← h]; exact hall e he hb
    · have hlt := hrow.up e he hb
      have hl := hall e he hb
      obtain ⟨o', ho'⟩ : ∃ o', ops[e.on]? = some o' := by
        have : e.on < ops.size := Nat.lt_trans hlt (Array.getElem?_eq_some_iff.1 ho).1
        exact ⟨_, Array.getElem?_eq_getElem this⟩
      exact ih e.on hlt o' ho' (hc e.on o' hl ho') j h

theorem getD_true_lt {listed : Array Bool} {j : Nat} (h : listed.getD j false = true) : j < listed.size := by
  rcases Nat.lt_or_ge j listed.size with h' | h'
  · exact h'
  · simp [Array.getElem?_eq_none h'] at h
theorem getD_false_iff {listed : Array Bool} {j : Nat} (h : j < listed.size) : listed.getD j true = false ↔ ¬ listed.getD j false = true := by
  simp [h]
theorem getD_set_iff {listed : Array Bool} {i j : Nat} (h : i < listed.size) : (listed.setIfInBounds i true).getD j false = true ↔ (j = i ∨ listed.getD j false = true) := by
  by_cases e : i = j
  · subst e; simp [h]
  · rw [getD_set_ne false e]
    constructor
    · exact .inr
    · rintro (h1 | h1)
      · exact absurd h1.symm e
      · exact h1

/-- How many are still to come. -/
def unl (ops : Array Oper) (listed : Array Bool) : Nat := (List.range ops.size).countP (fun j => !listed.getD j false)
theorem countP_drop (p q : Nat → Bool) (i : Nat) : ∀ (l : List Nat), l.Nodup → i ∈ l → (∀ j, j ≠ i → p j = q j) → p i = true → q i = false → l.countP p = l.countP q + 1 := by
  intro l
  induction l with
  | nil => intro _ h; cases h
  | cons x l ih =>
    intro hn hi hpq hp hq
    have hn' := List.nodup_cons.1 hn
    rw [List.countP_cons, List.countP_cons]
    rcases List.mem_cons.1 hi with rfl | hi
    · have : l.countP p = l.countP q := by
        apply List.countP_congr
        intro j hj
        have : j ≠ i := fun e => hn'.1 (e ▸ hj)
        rw [hpq j this]
      rw [this, hp, hq]; simp
    · have hne : x ≠ i := fun e => hn'.1 (e ▸ hi)
      rw [hpq x hne, ih hn'.2 hi hpq hp hq]
      omega
theorem unl_set {listed : Array Bool} {i : Nat} (hs : listed.size = ops.size) (hi : i < ops.size) (hu : listed.getD i true = false) : unl ops listed = unl ops (listed.setIfInBounds i true) + 1 := by
  refine countP_drop _ _ i _ List.nodup_range (List.mem_range.2 hi) ?_ ?_ ?_
  · intro j hj
    show (!listed.getD j false) = !(listed.setIfInBounds i true).getD j false
    rw [getD_set_ne false (Ne.symm hj)]
  · have := (getD_false_iff (by omega : i < listed.size)).1 hu
    simpa using this
  · have := (getD_set_iff (listed := listed) (j := i) (by omega : i < listed.size)).2 (.inl rfl)
    simp only [this, Bool.not_true]

theorem rinv_step {size : Nat} (htab : tabOk ops size late tab = true) (hsz : a0.tmps.size = size) (htrans : ∀ a b c, E a b → E b c → E a c) (hrefl : ∀ a, E a a) {listed : Array Bool} {a : Act} {w : World} (H : RegInv ops tab E post a0 w1 listed a w)
    {i : Nat} {o : Oper} (ho : ops[i]? = some o) (hr : i ∈ Region.ready .any ops listed)
    (hstep : ∀ (V : Tmp → Value) (w : World), E w1 w → (∀ j ∈ tab.deps i, ∃ u, E w1 u ∧ E u w ∧ post j (rvals V (tab.slots j)) u) → ROp P ops o (rframe ops V a0 (tab.deps i)) w (fun v w' => E w w' ∧ post i (rvals (rupd V o.dst v) (tab.slots i)) w'))
    {Kn : Act → World → Prop} (hK : ∀ a' w', RegInv ops tab E post a0 w1 (listed.setIfInBounds i true) a' w' → Kn a' w') : wpOp P ops Q i Kn a w := by
  obtain ⟨hun, o', ho', hall⟩ := mem_ready.1 hr
  obtain rfl : o' = o := by rw [ho] at ho'; exact (Option.some.inj ho').symm
  have hrow := tabOk_row htab ho
  have hlt : i < ops.size := (Array.getElem?_eq_some_iff.1 ho).1
  have hd0 := deps_listed htab H.closed i o' ho hall
  have hnl : ¬ listed.getD i false = true := (getD_false_iff (by rw [H.lsize]; exact hlt)).1 hun
  have hstep1 := hstep (rview a) w H.base (fun j hj => H.done j (hd0 j hj))
  have hdsz : ∀ t, o'.dst = some t → t < (rframe ops (rview a) a0 (tab.deps i)).tmps.size := fun t ht => by rw [rframe_size, hsz]; exact (hrow.dst t ht).1
  -- the frame shows what the operation looks at
  have hval : ∀ t, (∃ j, j < ops.size ∧ rdst ops j = some t ∧ j ∈ tab.deps i) ∨ ((∀ j, listed.getD j false = true → rdst ops j ≠ some t) ∧ ∀ j ∈ tab.deps i, rdst ops j ≠ some t) → a.tmps.getD t undef = (rframe ops (rview a) a0 (tab.deps i)).tmps.getD t undef := by
    rintro t (⟨j, hj, hd, hm⟩ | h)
    · have hts : t < a0.tmps.size := by
        obtain ⟨oj, hoj⟩ : ∃ oj, ops[j]? = some oj := ⟨_, Array.getElem?_eq_getElem hj⟩
        rw [hsz]
        exact ((tabOk_row htab hoj).dst t (by simpa [rdst, hoj] using hd)).1
      rw [rframe_on _ _ _ hts ⟨j, hm, hd⟩]; rfl
    · rw [rframe_off _ _ _ h.2, H.same t h.1]
  have heval : ∀ x ∈ o'.op.operands, a.eval x = (rframe ops (rview a) a0 (tab.deps i)).eval x := by
    intro x hx
    cases x with
    | tmp t =>
      show a.tmps.getD t undef = _
      refine hval t ?_
      by_cases hex : ∃ j ∈ tab.deps i, rdst ops j = some t
      · obtain ⟨j, hj, hd⟩ := hex
        have := (hrow.deps j hj).1
        exact .inl ⟨j, by omega, hd, hj⟩
      · refine .inr ⟨fun j hjl hd => ?_, fun j hj hd => hex ⟨j, hj, hd⟩⟩
        have hjs : j < ops.size := by rw [← H.lsize]; exact getD_true_lt hjl
        rcases hrow.args t hx j hjs hd with h1 | h1
        · exact hex ⟨j, h1, hd⟩
        · obtain ⟨oj, hoj⟩ : ∃ oj, ops[j]? = some oj := ⟨_, Array.getElem?_eq_getElem hjs⟩
          exact hnl (deps_listed htab H.closed j oj hoj (H.closed j oj hjl hoj) i h1)
    | _ => rfl
  have hexec := execOp_congr (ρ := a.eval) (ρ' := (rframe ops (rview a) a0 (tab.deps i)).eval) o' hrow.sel heval
  have hwant : Region.wanted o' (yielded ops a.tmps) = Region.wanted o' (yielded ops (rframe ops (rview a) a0 (tab.deps i)).tmps) := by
    unfold Region.wanted
    cases hg : o'.guard with
    | none => rfl
    | some gw =>
      obtain ⟨g, want⟩ := gw
      have hgd := hrow.guard g want hg
      have hgi := (hrow.deps g hgd).1
      have hy : yielded ops a.tmps g = yielded ops (rframe ops (rview a) a0 (tab.deps i)).tmps g := by
        unfold yielded
        cases ht : (ops[g]?).bind (·.dst) with
        | none => rfl
        | some t =>
          have h1 := hval t (.inl ⟨g, by omega, ht, hgd⟩)
          have hts : t < a0.tmps.size := by
            obtain ⟨oj, hoj⟩ : ∃ oj, ops[g]? = some oj := ⟨_, Array.getElem?_eq_getElem (by omega)⟩
            rw [hsz]
            exact ((tabOk_row htab hoj).dst t (by simpa [hoj] using ht)).1
          have h2 : t < a.tmps.size := by rw [H.size]; exact hts
          have h3 : t < (rframe ops (rview a) a0 (tab.deps i)).tmps.size := by rw [rframe_size]; exact hts
          simp only [Option.bind_some, Array.getElem?_eq_getElem h2, Array.getElem?_eq_getElem h3]
          simp only [Array.getD, h2, h3, dif_pos] at h1
          have h1' : a.tmps[t] = (rframe ops (rview a) a0 (tab.deps i)).tmps[t] := h1
          rw [h1']
      simp only [hy]
  have hmove := rop_move (Q := Q) hdsz hexec hwant hstep1
  have hlast : ∀ x w', (∃ v, x = a.put o'.dst v ∧ E w w' ∧ post i (rvals (rupd (rview a) o'.dst v) (tab.slots i)) w') → Kn x w' := by
    rintro x w' ⟨v, rfl, hE, hp⟩
    apply hK
    have hsets : ∀ j, (listed.setIfInBounds i true).getD j false = true ↔ (j = i ∨ listed.getD j false = true) := fun j => getD_set_iff (by rw [H.lsize]; exact hlt)
    have hput : ∀ t, rview (a.put o'.dst v) t = rupd (rview a) o'.dst v t := by
      intro t
      unfold rview rupd
      cases hd : o'.dst with
      | none => simp [Act.put]
      | some d =>
        rw [put_getD _ _ _ _ (by rw [H.size, hsz]; exact (hrow.dst d hd).1)]
        by_cases e : d = t
        · subst e; simp
        · rw [if_neg e, if_neg (fun h => e (Option.some.inj h))]
    refine ⟨?_, ?_, ?_, ?_, htrans _ _ _ H.base hE, ?_, ?_⟩
    · rw [← H.defers]; cases o'.dst <;> rfl
    · rw [← H.size]; cases o'.dst <;> simp [Act.put]
    · rw [Array.size_setIfInBounds]; exact H.lsize
    · intro t ht
      have h1 : a.tmps.getD t undef = a0.tmps.getD t undef := H.same t (fun j hj => ht j ((hsets j).2 (.inr hj)))
      have h2 : o'.dst ≠ some t := by
        have := ht i ((hsets i).2 (.inl rfl))
        simpa [rdst, ho] using this
      have h3 := hput t
      unfold rview rupd at h3
      rw [if_neg h2] at h3
      exact h3.trans h1
    · intro j hj
      rcases (hsets j).1 hj with rfl | hj
      · refine ⟨w', htrans _ _ _ H.base hE, hrefl _, ?_⟩
        have : rvals (rview (a.put o'.dst v)) (tab.slots j) = rvals (rupd (rview a) o'.dst v) (tab.slots j) := List.map_congr_left (fun t _ => hput t)
        rw [this]; exact hp
      · obtain ⟨u, hu1, hu2, hu3⟩ := H.done j hj
        refine ⟨u, hu1, htrans _ _ _ hu2 hE, ?_⟩
        have : rvals (rview (a.put o'.dst v)) (tab.slots j) = rvals (rview a) (tab.slots j) := List.map_congr_left (fun t ht => by
          rw [hput t]
          unfold rupd
          rw [if_neg]
          intro hdt
          have hjs : j < ops.size := by rw [← H.lsize]; exact getD_true_lt hj
          obtain ⟨oj, hoj⟩ : ∃ oj, ops[j]? = some oj := ⟨_, Array.getElem?_eq_getElem hjs⟩
          have hrj := tabOk_row htab hoj
          rcases hrj.slots t ht with h | ⟨k, hk, h⟩
          · have := (hrow.dst t hdt).2 j hjs (fun e => hnl (e ▸ hj))
            exact this (by simpa [rdst, hoj] using h)
          · have hkl := deps_listed htab H.closed j oj hoj (H.closed j oj hj hoj) k hk
            have hks : k < ops.size := by rw [← H.lsize]; exact getD_true_lt hkl
            exact (hrow.dst t hdt).2 k hks (fun e => hnl (e ▸ hkl)) h)
        rw [this]; exact hu3
    · intro k ok hk hok e he hb
      rcases (hsets k).1 hk with rfl | hk
      · rw [ho] at hok
        obtain rfl := Option.some.inj hok
        exact (hsets _).2 (.inr (hall e he hb))
      · exact (hsets _).2 (.inr (H.closed k ok hk hok e he hb))
  unfold wpOp
  simp only [ho]
  by_cases hwd : Region.wanted o' (yielded ops a.tmps) = true
  · rw [if_pos hwd] at hmove ⊢
    exact .inl (Oper.wp_mono (fun x w' h => hlast x w' (by obtain ⟨v, e, h1, h2⟩ := h; exact ⟨v, e, h1, h2⟩)) hmove)
  · rw [if_neg hwd] at hmove ⊢
    exact hlast _ _ (by obtain ⟨v, e, h1, h2⟩ := hmove; exact ⟨v, e, h1, h2⟩)

/-- All but the late ones. -/
def early (ops : Array Oper) (late : Nat → Bool) : List Nat := (List.range ops.size).filter (fun i => !late i)

theorem act_ext {a b : Act} (hd : a.defers = b.defers) (hs : a.tmps.size = b.tmps.size) (h : ∀ t, t < a.tmps.size → a.tmps.getD t undef = b.tmps.getD t undef) : a = b := by
  obtain ⟨ta, da⟩ := a
  obtain ⟨tb, db⟩ := b
  have : ta = tb := Array.ext hs (fun t h1 h2 => by
    have := h t h1
    simp only [Array.getD, h1, dif_pos] at this
    have h2' : t < tb.size := h2
    simp only [h2', dif_pos] at this
    exact this)
  subst this
  simp only at hd
  rw [hd]

theorem region_any {size : Nat} (htab : tabOk ops size late tab = true) (hsz : a0.tmps.size = size) (htrans : ∀ a b c, E a b → E b c → E a c) (hrefl : ∀ a, E a a)
    (hstep : ∀ i o, ops[i]? = some o → late i = false → ∀ (V : Tmp → Value) (w : World), E w1 w → (∀ j ∈ tab.deps i, ∃ u, E w1 u ∧ E u w ∧ post j (rvals V (tab.slots j)) u) → ROp P ops o (rframe ops V a0 (tab.deps i)) w (fun v w' => E w w' ∧ post i (rvals (rupd V o.dst v) (tab.slots i)) w'))
    (hfin : ∀ (V : Tmp → Value) (w : World), E w1 w → (∀ j ∈ early ops late, ∃ u, E w1 u ∧ E u w ∧ post j (rvals V (tab.slots j)) u) → wpAny P .any ops Q (unl ops ((List.range ops.size).map (fun i => !late i)).toArray) ((List.range ops.size).map (fun i => !late i)).toArray (rframe ops V a0 (early ops late)) w) :
    ∀ (fuel : Nat) (listed : Array Bool) (a : Act) (w : World), unl ops listed = fuel → (∀ i, listed.getD i false = true → late i = false) → RegInv ops tab E post a0 w1 listed a w → wpAny P .any ops Q fuel listed a w := by
  have hfin' : ∀ (listed : Array Bool) (a : Act) (w : World), (∀ i, listed.getD i false = true → late i = false) → (∀ i, i < ops.size → late i = false → listed.getD i false = true) → RegInv ops tab E post a0 w1 listed a w → wpAny P .any ops Q (unl ops listed) listed a w := by
    intro listed a w hl1 hl2 H
    have e1 : listed = ((List.range ops.size).map (fun i => !late i)).toArray := by
      refine Array.ext (by simp [H.lsize]) (fun i h1 h2 => ?_)
      have hi : i < ops.size := by rw [← H.lsize]; exact h1
      simp only [List.getElem_toArray, List.getElem_map, List.getElem_range]
      have hg : listed.getD i false = listed[i] := by simp [h1]
      cases hlt : late i with
      | false => rw [← hg, hl2 i hi hlt]; rfl
      | true =>
        cases hv : listed[i] with
        | false => rfl
        | true => rw [hl1 i (by rw [hg, hv])] at hlt; cases hlt
    have e2 : a = rframe ops (rview a) a0 (early ops late) := by
      refine act_ext (by rw [rframe_defers, H.defers]) (by rw [rframe_size, H.size]) (fun t ht => ?_)
      by_cases hex : ∃ j ∈ early ops late, rdst ops j = some t
      · rw [rframe_on _ _ _ (by rw [← H.size]; exact ht) hex]; rfl
      · rw [rframe_off _ _ _ (fun j hj e => hex ⟨j, hj, e⟩)]
        refine H.same t (fun j hj e => hex ⟨j, ?_, e⟩)
        have hjs : j < ops.size := by rw [← H.lsize]; exact getD_true_lt hj
        exact List.mem_filter.2 ⟨List.mem_range.2 hjs, by rw [hl1 j hj]; rfl⟩
    have h3 := hfin (rview a) w H.base (fun j hj => by
      have h4 := List.mem_filter.1 hj
      exact H.done j (hl2 j (List.mem_range.1 h4.1) (by simpa using h4.2)))
    rw [← e2, ← e1] at h3
    exact h3
  intro fuel
  induction fuel with
  | zero =>
    intro listed a w hu hl1 H
    have hall : ∀ i, i < ops.size → late i = false → listed.getD i false = true := by
      intro i hi _
      have h0 := List.countP_eq_zero.1 hu i (List.mem_range.2 hi)
      simpa using h0
    have := hfin' listed a w hl1 hall H
    rw [hu] at this
    exact this
  | succ fuel ih =>
    intro listed a w hu hl1 H
    by_cases hall : ∀ i, i < ops.size → late i = false → listed.getD i false = true
    · have := hfin' listed a w hl1 hall H
      rw [hu] at this
      exact this
    · have hex : ∃ i, i < ops.size ∧ late i = false ∧ ¬ listed.getD i false = true := by
        by_cases h : ∃ i, i < ops.size ∧ late i = false ∧ ¬ listed.getD i false = true
        · exact h
        · exact absurd (fun i hi hl => by
            by_cases hx : listed.getD i false = true
            · exact hx
            · exact absurd ⟨i, hi, hl, hx⟩ h) hall
      have hready : ∀ i, i < ops.size → late i = false → ¬ listed.getD i false = true → ∃ k, k ∈ Region.ready .any ops listed := by
        intro i
        induction i using Nat.strongRecOn with
        | ind i ihi =>
          intro hi hl hn
          obtain ⟨oi, hoi⟩ : ∃ oi, ops[i]? = some oi := ⟨_, Array.getElem?_eq_getElem hi⟩
          by_cases hb : ∀ e ∈ oi.after, Region.binds .any e = true → listed.getD e.on false = true
          · exact ⟨i, mem_ready.2 ⟨(getD_false_iff (by rw [H.lsize]; exact hi)).2 hn, oi, hoi, hb⟩⟩
          · have : ∃ e ∈ oi.after, Region.binds .any e = true ∧ ¬ listed.getD e.on false = true := by
              by_cases h : ∃ e ∈ oi.after, Region.binds .any e = true ∧ ¬ listed.getD e.on false = true
              · exact h
              · exact absurd (fun e he hbe => by
                  by_cases hx : listed.getD e.on false = true
                  · exact hx
                  · exact absurd ⟨e, he, hbe, hx⟩ h) hb
            obtain ⟨e, he, hbe, hne⟩ := this
            have hrow := tabOk_row htab hoi
            have hup := hrow.up e he hbe
            obtain ⟨oe, hoe⟩ : ∃ oe, ops[e.on]? = some oe := ⟨_, Array.getElem?_eq_getElem (by omega)⟩
            by_cases hle : late e.on = false
            · exact ihi e.on hup (by omega) hle hne
            · -- a late one ahead of an early one: it waits for the early ones
              have hle' : late e.on = true := by simpa using hle
              have := (tabOk_row htab hoe).late hle' i hi hl
              have := ((tabOk_row htab hoe).deps i this).1
              omega
      obtain ⟨i0, hi0, hl0, hn0⟩ := hex
      obtain ⟨k0, hk0⟩ := hready i0 hi0 hl0 hn0
      refine ⟨fun h => (by rw [h] at hk0; cases hk0), fun i hi => ?_⟩
      obtain ⟨hun, oi, hoi, halli⟩ := mem_ready.1 hi
      have his : i < ops.size := (Array.getElem?_eq_some_iff.1 hoi).1
      have hli : late i = false := by
        cases hlt : late i with
        | false => rfl
        | true =>
          have hm := (tabOk_row htab hoi).late hlt i0 hi0 hl0
          exact absurd (deps_listed htab H.closed i oi hoi halli i0 hm) hn0
      refine rinv_step htab hsz htrans hrefl H hoi hi (hstep i oi hoi hli) (fun a' w' H' => ih _ a' w' ?_ ?_ H')
      · have := unl_set H.lsize his hun
        omega
      · intro j hj
        rcases (getD_set_iff (by rw [H.lsize]; exact his)).1 hj with rfl | hj
        · exact hli
        · exact hl1 j hj

/-- Each operation's step, one behind the other. -/
def RSteps (P : Program) (ops : Array Oper) (late : Nat → Bool) (tab : RTab) (E : World → World → Prop) (post : Nat → List Value → World → Prop) (a0 : Act) (w1 : World) (i : Nat) : Prop :=
  ∀ k o, i ≤ k → ops[k]? = some o → late k = false → ∀ (V : Tmp → Value) (w : World), E w1 w → (∀ j ∈ tab.deps k, ∃ u, E w1 u ∧ E u w ∧ post j (rvals V (tab.slots j)) u) → ROp P ops o (rframe ops V a0 (tab.deps k)) w (fun v w' => E w w' ∧ post k (rvals (rupd V o.dst v) (tab.slots k)) w')
theorem RSteps.nil {i : Nat} (h : ops.size ≤ i) : RSteps P ops late tab E post a0 w1 i := fun k o hk ho => by
  have := (Array.getElem?_eq_some_iff.1 ho).1
  omega
theorem RSteps.cons {i : Nat} {o : Oper} (ho : ops[i]? = some o) (h : ∀ (V : Tmp → Value) (w : World), E w1 w → (∀ j ∈ tab.deps i, ∃ u, E w1 u ∧ E u w ∧ post j (rvals V (tab.slots j)) u) → ROp P ops o (rframe ops V a0 (tab.deps i)) w (fun v w' => E w w' ∧ post i (rvals (rupd V o.dst v) (tab.slots i)) w'))
    (hs : RSteps P ops late tab E post a0 w1 (i + 1)) : RSteps P ops late tab E post a0 w1 i := fun k o' hk ho' hl => by
  rcases Nat.eq_or_lt_of_le hk with rfl | hk
  · rw [ho] at ho'
    obtain rfl := Option.some.inj ho'
    exact h
  · exact hs k o' hk ho' hl
theorem RSteps.skip {i : Nat} (h : late i = true) (hs : RSteps P ops late tab E post a0 w1 (i + 1)) : RSteps P ops late tab E post a0 w1 i := fun k o' hk ho' hl => by
  rcases Nat.eq_or_lt_of_le hk with rfl | hk
  · rw [h] at hl; cases hl
  · exact hs k o' hk ho' hl

/-- THE LAW: a region, none of whose operations is late. -/
theorem wp_region_inv {id : Nat} {a : Act} {w : World} {tab : RTab} {E : World → World → Prop} {post : Nat → List Value → World → Prop} (hm : P.follows .mixedOrders = true)
    (htab : tabOk ops a.tmps.size (fun _ => false) tab = true) (htrans : ∀ a b c, E a b → E b c → E a c) (hrefl : ∀ a, E a a)
    (hstep : RSteps P ops (fun _ => false) tab E post a w.drew 0)
    (hfin : ∀ (V : Tmp → Value) (w' : World), E w.drew w' → (∀ j ∈ List.range ops.size, ∃ u, E w.drew u ∧ E u w' ∧ post j (rvals V (tab.slots j)) u) → Q .normal (rframe ops V a (List.range ops.size)) w') : (Code.region id ops true).wp P Q a w := by
  have hearly : early ops (fun _ => false) = List.range ops.size := by
    unfold early
    exact List.filter_eq_self.2 (fun _ _ => rfl)
  have hrep : ∀ i, ¬ (Array.replicate ops.size false).getD i false = true := fun i h => by
    have h1 := getD_true_lt h
    have hi : i < ops.size := by simpa using h1
    simp [hi] at h
  refine wp_region_any hm (region_any (late := fun _ => false) htab rfl htrans hrefl (fun i o ho hl => hstep i o (Nat.zero_le _) ho hl) ?_ ops.size _ a _ ?_ (fun i h => rfl) ?_)
  · intro V w' h1 h2
    rw [hearly] at h2 ⊢
    refine wpAny_done ?_ (hfin V w' h1 h2) _
    unfold Region.ready
    refine List.filter_eq_nil_iff.2 (fun i hi => ?_)
    have hi := List.mem_range.1 hi
    simp [hi]
  · unfold unl
    rw [List.countP_eq_length.2, List.length_range]
    intro j hj
    have := List.mem_range.1 hj
    simp [this]
  · exact ⟨rfl, rfl, by simp, fun t _ => rfl, hrefl _, fun j h => absurd h (hrep j), fun i o h => absurd h (hrep i)⟩

/-- Slots filled, one behind the other. -/
def rput (V : Tmp → Value) (a : Act) (ts : List Tmp) : Act := ts.foldl (fun a t => a.put (some t) (V t)) a
theorem rframe_eq (V : Tmp → Value) (l : List Nat) : ∀ (a : Act), rframe ops V a l = rput V a (l.filterMap (rdst ops)) := by
  induction l with
  | nil => intro a; rfl
  | cons j l ih =>
    intro a
    show rframe ops V (match rdst ops j with | some t => a.put (some t) (V t) | none => a) l = _
    rw [ih, List.filterMap_cons]
    cases rdst ops j with
    | none => rfl
    | some t => rfl

def dval (d : Option Tmp) (x : Act) : Value := match d with | some t => x.tmps.getD t undef | none => undef
/-- A hypothesis that no tactic looks into. -/
def RShut (p : Prop) : Prop := p
theorem RShut.out {p : Prop} (h : RShut p) : p := h
/-- An operation's step as it is handed over: behind it what its slot holds, and the world, are told. -/
def RGo (P : Program) (ops : Array Oper) (o : Oper) (b : Act) (d0 : List Deferred) (w : World) (R : Value → World → Prop) : Prop :=
  ∀ K : Act → World → Prop, RShut (∀ x w', x.defers = d0 → R (dval o.dst x) w' → K x w') → if Region.wanted o (yielded ops b.tmps) = true then Oper.wp P o b w K (fun _ _ _ => False) else K (b.put o.dst undef) w
theorem dval_put {b : Act} {d : Option Tmp} {v : Value} (hd : ∀ t, d = some t → t < b.tmps.size) {R : Value → Prop} (h : R (dval d (b.put d v))) : ∃ v', b.put d v = b.put d v' ∧ R v' := by
  cases d with
  | none => exact ⟨undef, rfl, h⟩
  | some t =>
    refine ⟨v, rfl, ?_⟩
    have h1 : dval (some t) (b.put (some t) v) = v := by
      show (b.put (some t) v).tmps.getD t undef = v
      rw [put_getD b t v t (hd t rfl), if_pos rfl]
    rw [h1] at h
    exact h
theorem RGo.rop {o : Oper} {b : Act} {d0 : List Deferred} {w : World} {R : Value → World → Prop} (h : RGo P ops o b d0 w R) (hd0 : b.defers = d0) (hd : ∀ t, o.dst = some t → t < b.tmps.size) : ROp P ops o b w R := fun K hK => by
  have h1 := h (fun x w' => x.defers = d0 ∧ R (dval o.dst x) w') (fun x w' e hr => ⟨e, hr⟩)
  have hput : ∀ v, (b.put o.dst v).defers = b.defers := fun v => by cases o.dst <;> rfl
  have back : ∀ v w', R (dval o.dst (b.put o.dst v)) w' → K (b.put o.dst v) w' := fun v w' hr => by
    obtain ⟨v', e, hr'⟩ := dval_put (R := fun z => R z w') hd hr
    rw [e]; exact hK v' w' hr'
  by_cases hwd : Region.wanted o (yielded ops b.tmps) = true
  · rw [if_pos hwd] at h1 ⊢
    unfold Oper.wp at h1 ⊢
    generalize (execOp b.eval o).run P w = r at *
    cases r with
    | ok n w' =>
      cases n <;> simp only [Oper.upon] at h1 ⊢
      case value v => exact back _ _ h1.2
      case skip => exact back _ _ h1.2
      case defer d =>
        exfalso
        have h2 := h1.1
        have : ({ b with defers := d :: b.defers } : Act).defers = d0 := by rw [← h2]; cases o.dst <;> rfl
        rw [← hd0] at this
        have := congrArg List.length this
        simp at this
      case enter f args =>
        refine Calls.mono h1 fun e w'' hx => ?_
        cases e with
        | returned v => exact back _ _ hx.2
        | panicked c => exact hx.elim
        | outgrown => exact hx
      case row row args => exact Rows.mono h1 fun u w'' hx => back _ _ hx.2
    | halt x w' =>
      cases x <;> simp only [Oper.upon] at h1
  · rw [if_neg hwd] at h1 ⊢
    exact back _ _ h1.2

/-- The table: of each operation who comes ahead of it; which slots its post looks at; which slots they are that come ahead. -/
abbrev RTab3 := List (List Nat × List Tmp × List Tmp)
def RTab3.two (t : RTab3) : RTab := t.map (fun r => (r.1, r.2.1))
def fsOk (ops : Array Oper) (t : RTab3) (all : List Tmp) : Bool :=
  decide (t.length = ops.size) && t.all (fun r => decide (r.1.filterMap (rdst ops) = r.2.2)) && decide ((List.range ops.size).filterMap (rdst ops) = all)

def RFact (E : World → World → Prop) (w1 w : World) (p : World → Prop) : Prop := ∃ u, E w1 u ∧ E u w ∧ p u

/-- The operations' steps along the list of them. -/
inductive RL (P : Program) (ops : Array Oper) (E : World → World → Prop) (posts : Nat → List Value → World → Prop) (slots : Nat → List Tmp) (a0 : Act) (w1 : World) : Nat → List Oper → RTab3 → Prop where
  | nil (i : Nat) (t : RTab3) : RL P ops E posts slots a0 w1 i [] t
  | cons {i : Nat} {o : Oper} {l : List Oper} {r : List Nat × List Tmp × List Tmp} {t : RTab3}
    (h : ∀ (V : Tmp → Value) (w : World), E w1 w → (∀ j ∈ r.1, RFact E w1 w (posts j (rvals V (slots j)))) → RGo P ops o (rput V a0 r.2.2) a0.defers w (fun v w' => E w w' ∧ posts i (rvals (rupd V o.dst v) r.2.1) w'))
    (hs : RL P ops E posts slots a0 w1 (i + 1) l t) : RL P ops E posts slots a0 w1 i (o :: l) (r :: t)

theorem rget_cons {r : List Nat × List Tmp × List Tmp} {t t0 : RTab3} {i : Nat} (h : t0.drop i = r :: t) : t0.drop (i + 1) = t ∧ RTab.deps t0.two i = r.1 ∧ RTab.slots t0.two i = r.2.1 := by
  have h1 : t0[i]? = some r := by
    have := congrArg (fun l => l[0]?) h
    simpa using this
  refine ⟨?_, ?_, ?_⟩
  · have := congrArg List.tail h
    simpa [List.tail_drop] using this
  · simp [RTab.deps, RTab3.two, h1]
  · simp [RTab.slots, RTab3.two, h1]
theorem RL.steps {late : Nat → Bool} {E : World → World → Prop} {posts : Nat → List Value → World → Prop} {a0 : Act} {w1 : World} {t0 : RTab3} {size : Nat} {all : List Tmp} (htab : tabOk ops size late t0.two = true) (hf : fsOk ops t0 all = true) (hsz : a0.tmps.size = size) :
    ∀ (l : List Oper) (i : Nat) (t : RTab3), ops.toList.drop i = l → t0.drop i = t → RL P ops E posts (fun j => RTab.slots t0.two j) a0 w1 i l t → RSteps P ops late t0.two E posts a0 w1 i := by
  intro l
  induction l with
  | nil =>
    intro i t hl _ _
    have : ops.toList.length ≤ i := List.drop_eq_nil_iff.1 hl
    exact RSteps.nil (by simpa using this)
  | cons o l ih =>
    intro i t hl ht h
    cases h with
    | cons h hs =>
      rename_i r t'
      have ho : ops[i]? = some o := by
        have := congrArg (fun l => l[0]?) hl
        simpa using this
      have hl' : ops.toList.drop (i + 1) = l := by
        have := congrArg List.tail hl
        simpa [List.tail_drop] using this
      obtain ⟨ht', hd, hsl⟩ := rget_cons ht
      have hrow := tabOk_row htab ho
      refine RSteps.cons ho (fun V w hE hdeps => ?_) (ih (i + 1) t' hl' ht' hs)
      have hfs : r.1.filterMap (rdst ops) = r.2.2 := by
        unfold fsOk at hf
        simp only [Bool.and_eq_true] at hf
        have hm : r ∈ t0 := List.mem_of_mem_drop (by rw [ht]; exact List.mem_cons_self ..)
        have := List.all_eq_true.1 hf.1.2 r hm
        simpa using this
      have h1 := h V w hE (fun j hj => by rw [← hd] at hj; exact hdeps j hj)
      rw [hd, hsl, rframe_eq, hfs]
      refine h1.rop (by rw [← hfs, ← rframe_eq, rframe_defers]) (fun d hdst => ?_)
      rw [← hfs, ← rframe_eq, rframe_size, hsz]
      exact (hrow.dst d hdst).1

/-- THE LAW, as a walk uses it. -/
theorem wp_region_list {id : Nat} {l : List Oper} {a : Act} {w : World} {Q : Exit → Act → World → Prop} (tab : RTab3) (all : List Tmp) (E : World → World → Prop) (posts : Nat → List Value → World → Prop) (hm : P.follows .mixedOrders = true)
    (htab : tabOk l.toArray a.tmps.size (fun _ => false) tab.two = true) (hfs : fsOk l.toArray tab all = true) (htrans : ∀ a b c, E a b → E b c → E a c) (hrefl : ∀ a, E a a)
    (hstep : RL P l.toArray E posts (fun j => RTab.slots tab.two j) a w.drew 0 l tab)
    (hfin : ∀ (V : Tmp → Value) (w' : World), E w.drew w' → (∀ j, j < l.length → RFact E w.drew w' (posts j (rvals V (RTab.slots tab.two j)))) → Q .normal (rput V a all) w') : (Code.region id l.toArray true).wp P Q a w := by
  refine wp_region_inv (tab := tab.two) (E := E) (post := posts) hm htab htrans hrefl (RL.steps htab hfs rfl l 0 tab (by simp) (by simp) hstep) (fun V w' hE h => ?_)
  have h1 := hfin V w' hE (fun j hj => h j (List.mem_range.2 (by simpa using hj)))
  unfold fsOk at hfs
  simp only [Bool.and_eq_true, decide_eq_true_eq] at hfs
  rw [rframe_eq, hfs.2]
  exact h1
end main
end Go.Proofs.Ytpkkaicpbihjfaa
