/-
  Plain facts on polynomials (6): division by taking away what is first; numbers rising, each once.
-/
import Derived.Test.YtokkjklggkoajaaPol5
namespace Go.Proofs.Ytokkjklggkoajaa
namespace Pol

/-- The state of division by taking away what is first. -/
structure TakeSt (A B : Pol) (n nb : Nat) (fq : Nat → F) (L : Pol) : Prop where
  eq : A = pf n fq * B + L
  low : ∀ i, i + nb ≤ L.len → fq i = 0
theorem TakeSt.start (A B : Pol) (n nb : Nat) : TakeSt A B n nb (fun _ => 0) A where
  eq := by
    have h1 : pf n (fun _ => 0) = 0 := ext fun i => by rw [coef_pf, coef_nought]; split <;> rfl
    rw [h1]; grind
  low := fun _ _ => rfl
/-- What is left of a coefficient. -/
def lessAt (L B : Pol) (c : F) (k : Nat) (i : Nat) : F := if k ≤ i then coef L.l i - c * coef B.l (i - k) else coef L.l i
theorem less_eq {B L : Pol} {nb k : Nat} {c : F} (hB : B.len = nb) (hnb : 0 < nb) (hL : L.len = k + nb) (hc : c * B.top = L.top) : L = pf (k + nb - 1) (lessAt L B c k) + con c * X ^ k * B := ext fun i => by
  have e : con c * X ^ k * B = scale B c * X ^ k := by unfold scale; grind
  rw [e, coef_add, coef_pf, coef_X_pow_mul]
  unfold lessAt
  by_cases h1 : i < k + nb - 1
  · rw [if_pos h1]
    by_cases h2 : k ≤ i
    · rw [if_pos h2, if_pos h2, coef_scale]; grind
    · rw [if_neg h2, if_neg h2, add_zero']
  · rw [if_neg h1, if_pos (by omega), coef_scale]
    by_cases h2 : i = k + nb - 1
    · subst h2
      unfold top at hc
      rw [hB, hL] at hc
      rw [show k + nb - 1 - k = nb - 1 by omega, hc, zero_add']
    · rw [coef_high (show L.len ≤ i by omega), coef_high (show B.len ≤ i - k by omega), mul_zero', add_zero']
theorem pf_len (n : Nat) (f : Nat → F) : (pf n f).len ≤ n := len_le fun i hi => by rw [coef_pf, if_neg (by omega)]
theorem TakeSt.step {A B L : Pol} {n nb k : Nat} {fq : Nat → F} {c : F} (h : TakeSt A B n nb fq L) (hB : B.len = nb) (hnb : 0 < nb) (hL : L.len = k + nb) (hk : k < n) (hc : c * B.top = L.top) :
    TakeSt A B n nb (upd fq k c) (pf (k + nb - 1) (lessAt L B c k)) where
  eq := by
    have e1 := pf_upd (c := c) hk (h.low k (by omega))
    have e2 := less_eq hB hnb hL hc
    have e3 := h.eq
    rw [e1]
    generalize pf (k + nb - 1) (lessAt L B c k) = L' at *
    rw [e2] at e3
    rw [e3]; grind
  low := fun i hi => by
    have := pf_len (k + nb - 1) (lessAt L B c k)
    unfold upd
    rw [if_neg (by omega)]
    exact h.low i (by omega)
theorem TakeSt.done {A B L : Pol} {n nb : Nat} {fq : Nat → F} (h : TakeSt A B n nb fq L) (hB : B.len = nb) (hl : L.len < nb) : DivOk A B (pf n fq) L := ⟨h.eq, by rw [hB]; exact hl⟩
end Pol

/-! ### Numbers rising, each once -/
def Rise (l : List F) : Prop := l.Pairwise fun a b => V a < V b
theorem Rise.nil : Rise [] := List.Pairwise.nil
theorem Rise.same : ∀ {l m : List F}, Rise l → Rise m → (∀ x, x ∈ l ↔ x ∈ m) → l = m
  | [], [], _, _, _ => rfl
  | [], b :: m, _, _, h => absurd ((h b).2 (List.mem_cons_self ..)) (by simp)
  | a :: l, [], _, _, h => absurd ((h a).1 (List.mem_cons_self ..)) (by simp)
  | a :: l, b :: m, h1, h2, h => by
    obtain ⟨k1, k2⟩ := List.pairwise_cons.1 h1
    obtain ⟨k3, k4⟩ := List.pairwise_cons.1 h2
    have e : a = b := by
      rcases List.mem_cons.1 ((h a).1 (List.mem_cons_self ..)) with e | e
      · exact e
      · rcases List.mem_cons.1 ((h b).2 (List.mem_cons_self ..)) with e' | e'
        · exact e'.symm
        · have := k1 _ e'; have := k3 _ e; omega
    subst e
    rw [Rise.same k2 k4 fun x => ⟨fun hx => by
      rcases List.mem_cons.1 ((h x).1 (List.mem_cons_of_mem _ hx)) with e | e
      · subst e; have := k1 _ hx; omega
      · exact e, fun hx => by
      rcases List.mem_cons.1 ((h x).2 (List.mem_cons_of_mem _ hx)) with e | e
      · subst e; have := k3 _ hx; omega
      · exact e⟩]
/-- One more number among rising ones, ahead of all that are more. -/
theorem Rise.insert {l : List F} (h : Rise l) {k : Nat} {n : F} (hk : k ≤ l.length) (h1 : ∀ j, j < k → V (coef l j) < V n) (h2 : k < l.length → V n < V (coef l k)) :
    Rise (l.take k ++ n :: l.drop k) ∧ ∀ x, x ∈ l.take k ++ n :: l.drop k ↔ x = n ∨ x ∈ l := by
  have hs : l.take k ++ l.drop k = l := List.take_append_drop k l
  have hp : Rise (l.take k ++ l.drop k) := by rw [hs]; exact h
  obtain ⟨q1, q2, q3⟩ := List.pairwise_append.1 hp
  have a1 : ∀ x ∈ l.take k, V x < V n := fun x hx => by
    obtain ⟨j, hj, rfl⟩ := List.getElem_of_mem hx
    have hj' : j < k := by rw [List.length_take] at hj; omega
    have := h1 j hj'
    rw [coef_lt (by rw [List.length_take] at hj; omega)] at this
    rw [List.getElem_take]; exact this
  have a2 : ∀ x ∈ l.drop k, V n < V x := fun x hx => by
    by_cases hkl : k < l.length
    · have e : l.drop k = l[k] :: l.drop (k + 1) := List.drop_eq_getElem_cons hkl
      have h3 := h2 hkl
      rw [coef_lt hkl] at h3
      rw [e] at hx q2
      rcases List.mem_cons.1 hx with rfl | hx
      · exact h3
      · have := (List.pairwise_cons.1 q2).1 x hx
        omega
    · rw [List.drop_of_length_le (by omega)] at hx; cases hx
  refine ⟨List.pairwise_append.2 ⟨q1, List.pairwise_cons.2 ⟨a2, q2⟩, fun a ha b hb => ?_⟩, fun x => ?_⟩
  · rcases List.mem_cons.1 hb with rfl | hb
    · exact a1 a ha
    · exact q3 a ha b hb
  · rw [List.mem_append, List.mem_cons]
    have : x ∈ l ↔ x ∈ l.take k ∨ x ∈ l.drop k := by rw [← List.mem_append, hs]
    rw [this]
    constructor
    · rintro (h | h | h)
      · exact .inr (.inl h)
      · exact .inl h
      · exact .inr (.inr h)
    · rintro (h | h | h)
      · exact .inr (.inl h)
      · exact .inl h
      · exact .inr (.inr h)
theorem Rise.nodup {l : List F} (h : Rise l) : l.Nodup := h.imp fun {a b} hab e => by rw [e] at hab; omega
/-- What Sorted has put in its place. -/
structure SortedSt (fs : List F) (i : Nat) (S : List F) : Prop where
  rise : Rise S
  mem : ∀ x, x ∈ S ↔ x ∈ fs.take i
theorem SortedSt.start (fs : List F) : SortedSt fs 0 [] := ⟨Rise.nil, fun x => by rw [List.take_zero]⟩
theorem take_mem {fs : List F} {i : Nat} (hi : i < fs.length) (x : F) : x ∈ fs.take (i + 1) ↔ x = coef fs i ∨ x ∈ fs.take i := by
  rw [List.take_succ_eq_append_getElem hi, List.mem_append, List.mem_singleton, coef_lt hi]
  exact Or.comm
theorem SortedSt.same {fs : List F} {i : Nat} {S : List F} (h : SortedSt fs i S) (hi : i < fs.length) {k : Nat} (hk : k < S.length) (he : coef S k = coef fs i) : SortedSt fs (i + 1) S :=
  ⟨h.rise, fun x => by
    rw [take_mem hi, ← h.mem, ← he, coef_lt hk]
    exact ⟨.inr, fun h => h.elim (fun e => e ▸ List.getElem_mem hk) id⟩⟩
theorem SortedSt.more {fs : List F} {i : Nat} {S : List F} (h : SortedSt fs i S) (hi : i < fs.length) {k : Nat} (hk : k ≤ S.length) (h1 : ∀ j, j < k → V (coef S j) < V (coef fs i)) (h2 : k < S.length → V (coef fs i) < V (coef S k)) : SortedSt fs (i + 1) (S.take k ++ coef fs i :: S.drop k) :=
  have a := h.rise.insert hk h1 h2
  ⟨a.1, fun x => by rw [a.2, take_mem hi, h.mem]⟩
theorem SortedSt.len {fs : List F} {i : Nat} {S : List F} (h : SortedSt fs i S) : S.length ≤ i := by
  have h1 := h.rise.nodup
  have h2 : ∀ (l m : List F), l.Nodup → (∀ x ∈ l, x ∈ m) → l.length ≤ m.length := by
    intro l
    induction l with
    | nil => intro m _ _; exact Nat.zero_le _
    | cons a l ih =>
      intro m hd hm
      obtain ⟨k1, k2⟩ := List.nodup_cons.1 hd
      have ha := hm a (List.mem_cons_self ..)
      have := ih (m.erase a) k2 fun x hx => (List.mem_erase_of_ne (fun e => k1 (by rw [← e]; exact hx))).2 (hm x (List.mem_cons_of_mem _ hx))
      rw [List.length_erase_of_mem ha] at this
      have := List.length_pos_of_mem ha
      rw [List.length_cons]; omega
  have := h2 S (fs.take i) h1 fun x hx => (h.mem x).1 hx
  rw [List.length_take] at this
  omega
/-- All of some numbers, rising, each once. -/
def SortedOf (fs S : List F) : Prop := Rise S ∧ ∀ x, x ∈ S ↔ x ∈ fs
theorem SortedSt.done {fs : List F} {i : Nat} {S : List F} (h : SortedSt fs i S) (hi : fs.length ≤ i) : SortedOf fs S := ⟨h.rise, fun x => by rw [h.mem, List.take_of_length_le hi]⟩
theorem SortedOf.same {fs S S' : List F} (h : SortedOf fs S) (k : SortedOf fs S') : S = S' := h.1.same k.1 fun x => by rw [h.2, k.2]
end Go.Proofs.Ytokkjklggkoajaa
