/-
  Lagrange's way to what has given values: plain Lean.
-/
import Derived.Test.YtokkjklggkoajaaPolyPlain2
namespace Go.Proofs.Ytokkjklggkoajaa

theorem ev_scale (p : List F) (y x : F) : ev (p.map (· * y)) x = ev p x * y := by
  induction p with
  | nil => rw [List.map_nil, ev, zero_mul']
  | cons a p ih => rw [List.map_cons, ev, ev, ih]; grind
theorem ev_lin (a z : F) : ev [-a, 1] z = z - a := by
  show -a + z * (1 + z * 0) = _
  grind

/-- A part after k places: y_i at the i-th place, 0 at the others so far. -/
structure PartOk (xs : List F) (i : Nat) (y : F) (k : Nat) (P : List F) : Prop where
  here : ev P (coef xs i) = y
  zero : ∀ j, j < k → j ≠ i → ev P (coef xs j) = 0
  dist : ∀ j, j < k → j ≠ i → coef xs i ≠ coef xs j
  len : P.length ≤ if k ≤ i then k + 1 else k
theorem part_start (xs : List F) (i : Nat) (y : F) : PartOk xs i y 0 [y] where
  here := by rw [ev, ev, mul_zero', add_zero']
  zero := fun j hj => absurd hj (by omega)
  dist := fun j hj => absurd hj (by omega)
  len := by rw [if_pos (by omega)]; exact Nat.le_refl _
theorem part_skip {xs : List F} {i : Nat} {y : F} {P : List F} (h : PartOk xs i y i P) : PartOk xs i y (i + 1) P where
  here := h.here
  zero := fun j hj hne => h.zero j (by omega) hne
  dist := fun j hj hne => h.dist j (by omega) hne
  len := by have := h.len; rw [if_pos (by omega)] at this; rw [if_neg (by omega)]; exact this
theorem part_step {xs : List F} {i k : Nat} {y : F} {P : List F} (h : PartOk xs i y k P) (hk : k ≠ i) (hd : coef xs i - coef xs k ≠ 0) :
    PartOk xs i y (k + 1) (trimF ((trimF (mulL P [- coef xs k, 1])).map (· * inv (coef xs i - coef xs k)))) where
  here := by
    rw [ev_trimF, ev_scale, ev_trimF, ev_mulL, ev_lin, h.here]
    have := mul_inv _ hd
    grind
  zero := fun j hj hne => by
    rw [ev_trimF, ev_scale, ev_trimF, ev_mulL, ev_lin]
    by_cases hjk : j = k
    · subst hjk
      rw [show coef xs j - coef xs j = 0 by grind, mul_zero', zero_mul']
    · rw [h.zero j (by omega) hne, zero_mul', zero_mul']
  dist := fun j hj hne => by
    by_cases hjk : j = k
    · subst hjk
      intro e
      apply hd
      rw [e]; grind
    · exact h.dist j (by omega) hne
  len := by
    have h1 := h.len
    have h2 := trimF_length ((trimF (mulL P [- coef xs k, 1])).map (· * inv (coef xs i - coef xs k)))
    rw [List.length_map] at h2
    have h3 := trimF_length (mulL P [- coef xs k, 1])
    have h4 : (mulL P [- coef xs k, 1]).length ≤ P.length + 1 := by
      by_cases hP : P = []
      · subst hP; simp [mulL]
      · rw [mulL_length P _ hP (by simp)]; simp
    split at h1 <;> split <;> omega

/-- Lagrange's state after i places. -/
structure LagOk (xs ys : List F) (i : Nat) (S : List F) : Prop where
  trim : trimF S = S
  len : S.length ≤ xs.length
  val : ∀ j, j < xs.length → ev S (coef xs j) = if j < i then coef ys j else 0
  dist : ∀ a b, a < i → b < xs.length → b ≠ a → coef xs a ≠ coef xs b
theorem lag_start (xs ys : List F) : LagOk xs ys 0 [] where
  trim := rfl
  len := Nat.zero_le _
  val := fun j _ => by rw [if_neg (by omega)]; rfl
  dist := fun a b ha => absurd ha (by omega)
theorem lag_step {xs ys : List F} {i : Nat} {S P : List F} (h : LagOk xs ys i S) (hi : i < xs.length) (k : PartOk xs i (coef ys i) xs.length P) : LagOk xs ys (i + 1) (trimF (addL S P)) where
  trim := trimF_trimF _
  len := by
    refine Nat.le_trans (trimF_length _) ?_
    rw [addL_length]
    have h1 := k.len
    rw [if_neg (by omega)] at h1
    exact Nat.max_le.2 ⟨h.len, h1⟩
  val := fun j hj => by
    rw [ev_trimF, ev_addL, h.val j hj]
    by_cases hji : j = i
    · subst hji; rw [k.here, if_neg (by omega), if_pos (by omega), zero_add']
    · rw [k.zero j hj hji, add_zero']
      by_cases h2 : j < i
      · rw [if_pos h2, if_pos (by omega)]
      · rw [if_neg h2, if_neg (by omega)]
  dist := fun a b ha hb hne => by
    by_cases hai : a = i
    · subst hai; exact k.dist b hb hne
    · exact h.dist a b (by omega) hb hne
theorem lag_nodup {xs ys : List F} {S : List F} (h : LagOk xs ys xs.length S) : xs.Nodup := by
  rw [List.nodup_iff_pairwise_ne, List.pairwise_iff_getElem]
  intro a b ha hb hab e
  exact h.dist a b ha hb (by omega) (by rw [coef_lt ha, coef_lt hb, e])
theorem lag_end {xs ys : List F} {S : List F} (h : LagOk xs ys xs.length S) : FromOk xs ys S where
  no := fun hn => absurd (lag_nodup h) hn
  trim := fun _ => h.trim
  len := fun _ => h.len
  val := fun _ j hj => by rw [h.val j hj, if_pos hj]
theorem lag_dup {xs : List F} {i k : Nat} (hi : i < xs.length) (hk : k < xs.length) (hne : k ≠ i) (h0 : coef xs i - coef xs k = 0) : ¬ xs.Nodup := by
  intro hd
  have e : coef xs i = coef xs k := by grind
  rw [coef_lt hi, coef_lt hk] at e
  exact hne (List.getElem_inj hd |>.1 e).symm
end Go.Proofs.Ytokkjklggkoajaa
