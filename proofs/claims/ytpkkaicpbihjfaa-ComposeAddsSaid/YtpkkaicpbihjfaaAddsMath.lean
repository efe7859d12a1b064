/- Composite blocks of two objects, put upon each other: the plain law. Conditions: parameters that may be. -/
import Derived.Test.YtpkkaicpbihjfaaJoinMath
import Derived.Test.YtpkkaicpbihjfaaHoldsMath
set_option linter.unusedVariables false
namespace Go.Proofs.Ytpkkaicpbihjfaa
open Go.RowKit

theorem xorL_zero {l : List UInt8} {n : Nat} (h : l.length = n) : xorL (List.replicate n 0) l = l := by
  subst h
  induction l with
  | nil => rfl
  | cons x r ih =>
    show xorL (0 :: List.replicate r.length 0) (x :: r) = x :: r
    have : xorL (0 :: List.replicate r.length 0) (x :: r) = (0 ^^^ x) :: xorL (List.replicate r.length 0) r := rfl
    rw [this, ih, UInt8.zero_xor]
theorem sum_two {n : Nat} {a b : List UInt8} (ha : a.length = n) : sumB n [a, b] = xorL a b := by
  show xorL (xorL (List.replicate n 0) a) b = _
  rw [xorL_zero ha]
theorem gb_xor {a b : List UInt8} (h : b.length = a.length) (j : Nat) : gb (xorL a b) j = gb a j ^^^ gb b j := by
  by_cases hj : j < a.length
  · exact gb_xorL h j hj
  · rw [gb_none _ _ (by rw [xorL_length h]; omega), gb_none a j (by omega), gb_none b j (by omega)]; rfl
theorem bytes_ext {a b : List UInt8} (hl : a.length = b.length) (h : ∀ j, j < a.length → gb a j = gb b j) : a = b := by
  apply List.ext_getElem hl
  intro j h1 h2
  have := h j h1
  rwa [gb_eq _ _ h1, gb_eq _ _ h2] at this
theorem chunk_xor {B : Nat} {a b : List UInt8} (h : b.length = a.length) (i : Nat) : chunkN B (xorL a b) i = xorL (chunkN B a i) (chunkN B b i) := by
  apply bytes_ext
  · rw [xorL_length (by rw [chunkN_length, chunkN_length]), chunkN_length, chunkN_length]
  · intro j hj
    rw [chunkN_length] at hj
    rw [gb_xorL (by rw [chunkN_length, chunkN_length]) j (by rw [chunkN_length]; exact hj)]
    have e : ∀ o : List UInt8, gb (chunkN B o i) j = gb o (i * B + j) := fun o => by
      rw [gb_eq _ _ (by rw [chunkN_length]; exact hj)]; simp [chunkN]
    rw [e, e, e, gb_xor h]
theorem xorL_comm4 {n : Nat} {a b c d : List UInt8} (ha : a.length = n) (hb : b.length = n) (hc : c.length = n) (hd : d.length = n) : xorL (xorL a b) (xorL c d) = xorL (xorL a c) (xorL b d) := by
  have l1 := xorL_length (a := a) (b := b) (by omega)
  have l2 := xorL_length (a := c) (b := d) (by omega)
  have l3 := xorL_length (a := a) (b := c) (by omega)
  have l4 := xorL_length (a := b) (b := d) (by omega)
  apply bytes_ext
  · rw [xorL_length (a := xorL a b) (b := xorL c d) (by omega), xorL_length (a := xorL a c) (b := xorL b d) (by omega)]; omega
  · intro j hj
    have e1 : b.length = a.length := by omega
    have e2 : d.length = c.length := by omega
    have e3 : c.length = a.length := by omega
    have e4 : d.length = b.length := by omega
    rw [gb_xor (by omega), gb_xor e1, gb_xor e2, gb_xor (by omega), gb_xor e3, gb_xor e4]
    simp only [UInt8.xor_assoc]
    congr 1
    rw [← UInt8.xor_assoc, UInt8.xor_comm (gb b j) (gb c j), UInt8.xor_assoc]
/-- What is picked of blocks that are put upon each other, summed, is the sums, put upon each other. -/
theorem sum_xor {n : Nat} (is : List Int) (P Q S : List (List UInt8)) (hp : ∀ i ∈ is, (gr P i.toNat).length = n) (hq : ∀ i ∈ is, (gr Q i.toNat).length = n) (hs : ∀ i ∈ is, gr S i.toNat = xorL (gr P i.toNat) (gr Q i.toNat)) :
    ∀ a b : List UInt8, a.length = n → b.length = n → xorAll (xorL a b) (pickR S is) = xorL (xorAll a (pickR P is)) (xorAll b (pickR Q is)) := by
  induction is with
  | nil => intro a b _ _; rfl
  | cons i r ih =>
    intro a b ha hb
    have h1 := hp i (List.mem_cons_self ..)
    have h2 := hq i (List.mem_cons_self ..)
    have h3 := hs i (List.mem_cons_self ..)
    show xorAll (xorL (xorL a b) (gr S i.toNat)) (pickR S r) = xorL (xorAll (xorL a (gr P i.toNat)) (pickR P r)) (xorAll (xorL b (gr Q i.toNat)) (pickR Q r))
    rw [h3, xorL_comm4 ha hb h1 h2]
    exact ih (fun j hj => hp j (List.mem_cons_of_mem _ hj)) (fun j hj => hq j (List.mem_cons_of_mem _ hj)) (fun j hj => hs j (List.mem_cons_of_mem _ hj)) _ _ (by rw [xorL_length (by omega)]; exact ha) (by rw [xorL_length (by omega)]; exact hb)
theorem split_at (p : Par) (obj : List UInt8) (k : Nat) (hk : k < p.n.toNat) : gr (splitN p obj) k = chunkN p.b.toNat obj k := by
  unfold gr splitN
  rw [List.getD_eq_getElem?_getD]; simp [hk]
theorem comp_split (p : Par) (session : Nat) (obj : List UInt8) (k : Nat) (hk : k < p.n.toNat) : gr (compN p session obj) k = chunkN p.b.toNat obj k := by
  rw [← split_at p obj k hk]
  unfold compN compK
  exact gr_append (by rw [splitN_length]; exact hk)
theorem comp_xor {p : Par} (hm : p.may) (session : Nat) (a b : List UInt8) (h : b.length = a.length) (k : Nat) (hk : k < p.n.toNat + (auxN p).toNat) :
    (gr (compN p session a) k).length = p.b.toNat ∧ (gr (compN p session b) k).length = p.b.toNat ∧ sumB p.b.toNat [gr (compN p session a) k, gr (compN p session b) k] = gr (compN p session (xorL a b)) k := by
  by_cases hn : k < p.n.toNat
  · rw [comp_split p session a k hn, comp_split p session b k hn, comp_split p session _ k hn, chunk_xor h, sum_two (chunkN_length _ _ _)]
    exact ⟨chunkN_length _ _ _, chunkN_length _ _ _, rfl⟩
  · obtain ⟨j, rfl⟩ : ∃ j, k = p.n.toNat + j := ⟨k - p.n.toNat, by omega⟩
    have hj : j < (auxN p).toNat := by omega
    have la := auxB_length hm session a j
    have lb := auxB_length hm session b j
    rw [comp_aux p session a j hj, comp_aux p session b j hj, comp_aux p session _ j hj, sum_two la]
    refine ⟨la, lb, ?_⟩
    have hr := has_range' hm session a j
    rw [splitN_length] at hr
    have hc : ∀ (o : List UInt8), ∀ i ∈ gl (hasN p session p.n.toNat) j, gr (splitN p o) i.toNat = chunkN p.b.toNat o i.toNat := fun o i hi => split_at p o i.toNat (hr i hi).2
    have := sum_xor (n := p.b.toNat) (gl (hasN p session p.n.toNat) j) (splitN p a) (splitN p b) (splitN p (xorL a b)) (fun i hi => by rw [hc a i hi, chunkN_length]) (fun i hi => by rw [hc b i hi, chunkN_length]) (fun i hi => by rw [hc a i hi, hc b i hi, hc _ i hi, chunk_xor h]) (List.replicate p.b.toNat 0) (List.replicate p.b.toNat 0) (by simp) (by simp)
    rw [xorL_zero (by simp)] at this
    unfold auxB sumB
    exact this.symm
end Go.Proofs.Ytpkkaicpbihjfaa
