/-
  Sketches that two lists fit. Plain Lean.
-/
import Derived.Test.YtelnhpcehmdffaaSkA
import Derived.Test.YtelnhpcehmdffaaPol7
namespace Go.Proofs.Ytelnhpcehmdffaa
open Pol

/-- The k-th point. -/
def ptF (k : Nat) : F := T (2305843009213693950 - (k : Int))
theorem ptF_inj {j k : Nat} (hj : j < 1000) (hk : k < 1000) (h : ptF j = ptF k) : j = k := by
  unfold ptF at h
  have := (T_eq _ _).1 h
  omega
theorem ptF_far {x : F} (hx : V x ≤ 1152921504606846976) {k : Nat} (hk : k < 1000) : ptF k ≠ x := fun e => by
  have h := congrArg V e
  unfold ptF at h
  rw [T_small _ (by omega) (by omega)] at h
  omega
/-- The polynomial of so many numbers, with 1 ahead. -/
def mon (f : Nat → F) (m : Nat) : Pol := mk' ((List.range m).map f ++ [1])
theorem coef_mon (f : Nat → F) (m i : Nat) : coef (mon f m).l i = if i < m then f i else if i = m then 1 else 0 := by
  unfold mon
  rw [coef_mk]
  unfold coef
  simp only [List.getD_eq_getElem?_getD]
  by_cases h : i < m
  · rw [if_pos h, List.getElem?_append_left (by simpa using h)]
    simp [h]
  · rw [if_neg h, List.getElem?_append_right (by simpa using h)]
    by_cases e : i = m
    · rw [if_pos e, e]; simp
    · rw [if_neg e, List.getElem?_eq_none (by simp; omega)]; rfl
theorem mon_len (f : Nat → F) (m : Nat) : (mon f m).len = m + 1 := by
  have h1 : (mon f m).len ≤ m + 1 := len_le fun i hi => by rw [coef_mon, if_neg (by omega), if_neg (by omega)]
  have h2 : m < (mon f m).len := len_ge (by rw [coef_mon, if_neg (by omega), if_pos rfl]; exact one_ne)
  omega
theorem mon_top (f : Nat → F) (m : Nat) : (mon f m).top = 1 := by
  unfold top
  rw [mon_len, coef_mon, if_neg (by omega), if_pos (by omega)]
theorem mon_ne (f : Nat → F) (m : Nat) : mon f m ≠ 0 := fun e => by have := mon_len f m; rw [e, len_zero] at this; omega
theorem ev_snoc (l : List F) (a x : F) : ev (l ++ [a]) x = ev l x + a * x ^ l.length := by
  induction l with
  | nil =>
    show a + x * 0 = 0 + a * x ^ 0
    rw [mul_zero', add_zero', pow_zero', mul_one', zero_add']
  | cons b l ih =>
    rw [List.cons_append, ev, ev, ih, List.length_cons]
    have e : x ^ (l.length + 1) = x ^ l.length * x := by grind
    rw [e]; grind
theorem at_mon (f : Nat → F) (m : Nat) (x : F) : (mon f m).at' x = sumF (fun j => f j * x ^ j) m + x ^ m := by
  have h1 : (mon f m).at' x = ev ((List.range m).map f ++ [1]) x := ev_congr (coef_mk _) x
  have h2 : ∀ k, ev ((List.range k).map f) x = sumF (fun j => f j * x ^ j) k := by
    intro k
    induction k with
    | zero => rfl
    | succ k ih => rw [List.range_succ, List.map_append, List.map_cons, List.map_nil, ev_snoc, ih, sumF, List.length_map, List.length_range]
  rw [h1, ev_snoc, h2, List.length_map, List.length_range, one_mul']
theorem mon_of {P : Pol} {m : Nat} (hl : P.len = m + 1) (ht : P.top = 1) : P = mon (coef P.l) m := ext fun i => by
  rw [coef_mon]
  by_cases h : i < m
  · rw [if_pos h]
  · rw [if_neg h]
    by_cases e : i = m
    · rw [if_pos e, e]
      unfold top at ht
      rwa [hl] at ht
    · rw [if_neg e, coef_high (by omega)]
/-- One of the equations. -/
def eqn (a b z : F) (one two : Nat) (j : Nat) : F :=
  if j < one then b * z ^ j else if j < one + two then -(a * z ^ (j - one)) else -(b * z ^ one) + a * z ^ two
theorem sumF_split (f : Nat → F) (m : Nat) : ∀ k, sumF f (m + k) = sumF f m + sumF (fun i => f (m + i)) k
  | 0 => by rw [Nat.add_zero]; show _ = _ + (0 : F); rw [add_zero']
  | k + 1 => by
    rw [← Nat.add_assoc]
    show sumF f (m + k) + f (m + k) = sumF f m + (sumF (fun i => f (m + i)) k + f (m + k))
    rw [sumF_split f m k]; grind
/-- What an answer to an equation says. -/
theorem eqn_dot (a b z : F) (one two : Nat) (l : Nat → F) : dot (one + two) (eqn a b z one two) l = eqn a b z one two (one + two) ↔ b * (mon l one).at' z = a * (mon (fun j => l (one + j)) two).at' z := by
  unfold dot
  rw [sumF_split, at_mon, at_mon]
  have e1 : sumF (fun i => eqn a b z one two i * l i) one = sumF (fun j => l j * z ^ j) one * b := by
    rw [← sumF_mul]
    exact sumF_congr one fun i hi => by unfold eqn; rw [if_pos hi]; grind
  have e2 : sumF (fun i => eqn a b z one two (one + i) * l (one + i)) two = sumF (fun j => l (one + j) * z ^ j) two * (-a) := by
    rw [← sumF_mul]
    exact sumF_congr two fun i hi => by unfold eqn; rw [if_neg (by omega), if_pos (by omega), show one + i - one = i by omega]; grind
  have e3 : eqn a b z one two (one + two) = -(b * z ^ one) + a * z ^ two := by unfold eqn; rw [if_neg (by omega), if_neg (by omega)]
  rw [e1, e2, e3]
  generalize sumF (fun j => l j * z ^ j) one = s
  generalize sumF (fun j => l (one + j) * z ^ j) two = t
  generalize z ^ one = u
  generalize z ^ two = v
  exact ⟨fun h => by grind, fun h => by grind⟩
/-- Two lists fit two rows of values. -/
structure Fits (n : Nat) (d : Int) (a b : Nat → F) (X Y : List F) : Prop where
  ndX : X.Nodup
  ndY : Y.Nodup
  disj : ∀ x, x ∈ X → x ∉ Y
  rX : ∀ x, x ∈ X → 1 ≤ V x ∧ V x ≤ 1152921504606846976
  rY : ∀ x, x ∈ Y → 1 ≤ V x ∧ V x ≤ 1152921504606846976
  few : X.length + Y.length + 2 ≤ n
  diff : (X.length : Int) - Y.length = d
  eqs : ∀ k, k < n → a k * (prodL Y).at' (ptF k) = b k * (prodL X).at' (ptF k)
theorem Fits.turn {n : Nat} {d : Int} {a b : Nat → F} {X Y : List F} (h : Fits n d a b X Y) : Fits n (-d) b a Y X :=
  ⟨h.ndY, h.ndX, fun x hy hx => h.disj x hx hy, h.rY, h.rX, by have := h.few; omega, by have := h.diff; omega, fun k hk => (h.eqs k hk).symm⟩
/-- Values at many unlike points tell a polynomial. -/
theorem same_of_points {P Q : Pol} {m : Nat} (hm : m ≤ 1000) (hl : ∀ i, m ≤ i → coef P.l i = coef Q.l i) (h : ∀ k, k < m → P.at' (ptF k) = Q.at' (ptF k)) : P = Q := by
  apply Classical.byContradiction
  intro hne
  have hD : P - Q ≠ 0 := fun e => hne (by
    have : P = (P - Q) + Q := by grind
    rw [this, e]; grind)
  have hlen : (P - Q).len ≤ m := len_le fun i hi => by
    have e : P - Q = P + -Q := by grind
    rw [e, coef_add, coef_neg, hl i hi]; grind
  have hnd : ((List.range m).map ptF).Nodup := List.pairwise_map.2 (List.Pairwise.imp_of_mem (fun {x y} hx hy hne e => hne (ptF_inj (by have := List.mem_range.1 hx; omega) (by have := List.mem_range.1 hy; omega) e)) List.nodup_range)
  have := roots_lt hD hnd fun x hx => by
    obtain ⟨k, hk, rfl⟩ := List.mem_map.1 hx
    rw [at_sub, h k (List.mem_range.1 hk)]; grind
  rw [List.length_map, List.length_range] at this
  omega
theorem prodL_dvd : ∀ {L : List F}, L.Nodup → ∀ {P : Pol}, (∀ x, x ∈ L → P.at' x = 0) → Dvd (prodL L) P
  | [], _, P, _ => ⟨P, by show P = P * 1; grind⟩
  | r :: L, hd, P, h => by
    obtain ⟨k1, k2⟩ := List.nodup_cons.1 hd
    obtain ⟨w, hw⟩ := (root_dvd P r).1 (h r (List.mem_cons_self ..))
    obtain ⟨v, hv⟩ := prodL_dvd k2 (P := w) fun x hx => by
      have h1 := h x (List.mem_cons_of_mem _ hx)
      rw [hw, at_mul, at_lin, mul_eq_zero'] at h1
      refine h1.resolve_right fun e => k1 ?_
      have : x = r := by grind
      rw [← this]; exact hx
    exact ⟨v, by rw [hw, hv]; show _ = v * (lin r * prodL L); grind⟩
theorem mul_coef_high {P Q : Pol} {m : Nat} (h : P.len + Q.len ≤ m + 1) (i : Nat) (hi : m ≤ i) : coef (P * Q).l i = 0 := by
  apply coef_high
  by_cases hP : P = 0
  · rw [hP, show (0 : Pol) * Q = 0 by grind, len_zero]; omega
  · by_cases hQ : Q = 0
    · rw [hQ, show P * (0 : Pol) = 0 by grind, len_zero]; omega
    · rw [len_mul hP hQ]; omega
/-- Two products of the same degree with 1 ahead, that are the same at as many points as their degree, are the same. -/
theorem same_of_monic {P Q R S : Pol} {m : Nat} (hm : m ≤ 1000) (hP : P ≠ 0) (hQ : Q ≠ 0) (hR : R ≠ 0) (hS : S ≠ 0) (tP : P.top = 1) (tQ : Q.top = 1) (tR : R.top = 1) (tS : S.top = 1) (h1 : P.len + Q.len = R.len + S.len) (h2 : P.len + Q.len ≤ m + 2)
    (h : ∀ k, k < m → P.at' (ptF k) * Q.at' (ptF k) = R.at' (ptF k) * S.at' (ptF k)) : P * Q = R * S := by
  refine same_of_points hm (fun i hi => ?_) fun k hk => by rw [at_mul, at_mul]; exact h k hk
  have a1 := len_mul hP hQ
  have a2 := len_mul hR hS
  have b1 := top_mul hP hQ
  have b2 := top_mul hR hS
  have p1 := len_pos hP
  have p2 := len_pos hQ
  by_cases e : i = P.len + Q.len - 2
  · have c1 : coef (P * Q).l i = (P * Q).top := by unfold top; rw [a1, e]; congr 1
    have c2 : coef (R * S).l i = (R * S).top := by unfold top; rw [a2, e, h1]; congr 1
    rw [c1, c2, b1, b2, tP, tQ, tR, tS]
  · rw [coef_high (by omega), coef_high (by omega)]
/-- There are no two such pairs. -/
theorem Fits.only {n : Nat} {d : Int} {a b : Nat → F} {X Y X2 Y2 : List F} (h : Fits n d a b X Y) (k : Fits n d a b X2 Y2) (hn : n ≤ 1000) (ha : ∀ i, i < n → a i ≠ 0) (hb : ∀ i, i < n → b i ≠ 0) : (∀ x, x ∈ X ↔ x ∈ X2) ∧ ∀ x, x ∈ Y ↔ x ∈ Y2 := by
  have e : prodL Y * prodL X2 = prodL X * prodL Y2 := by
    refine same_of_monic hn (prodL_ne _) (prodL_ne _) (prodL_ne _) (prodL_ne _) (top_prodL _) (top_prodL _) (top_prodL _) (top_prodL _) ?_ ?_ fun i hi => ?_
    · rw [len_prodL, len_prodL, len_prodL, len_prodL]; have := h.diff; have := k.diff; omega
    · rw [len_prodL, len_prodL]; have := h.diff; have := k.diff; have := h.few; have := k.few; omega
    · have e1 := h.eqs i hi
      have e2 := k.eqs i hi
      have h0 := mul_ne _ _ (ha i hi) (hb i hi)
      have hh : (a i * b i) * ((prodL Y).at' (ptF i) * (prodL X2).at' (ptF i) - (prodL X).at' (ptF i) * (prodL Y2).at' (ptF i)) = 0 := by
        generalize (prodL Y).at' (ptF i) = y at *
        generalize (prodL X).at' (ptF i) = x at *
        generalize (prodL Y2).at' (ptF i) = y2 at *
        generalize (prodL X2).at' (ptF i) = x2 at *
        generalize a i = p at *
        generalize b i = q at *
        have : p * q * (y * x2 - x * y2) = (p * y) * (q * x2) - (q * x) * (p * y2) := by grind
        rw [this, e1, e2]; grind
      have := ((mul_eq_zero' _ _).1 hh).resolve_left h0
      grind
  have key : ∀ x, (x ∈ Y ∨ x ∈ X2) ↔ (x ∈ X ∨ x ∈ Y2) := fun x => by
    have := congrArg (fun p => at' p x) e
    simp only [at_mul] at this
    rw [← at_prodL x Y, ← at_prodL x X2, ← at_prodL x X, ← at_prodL x Y2, ← mul_eq_zero', ← mul_eq_zero', this]
  exact ⟨fun x => ⟨fun hx => ((key x).2 (.inl hx)).resolve_left (h.disj x hx), fun hx => ((key x).1 (.inr hx)).resolve_right (k.disj x hx)⟩,
    fun x => ⟨fun hx => ((key x).1 (.inl hx)).resolve_left fun hx' => h.disj x hx' hx, fun hx => ((key x).2 (.inr hx)).resolve_right fun hx' => k.disj x hx' hx⟩⟩
/-- How many equations there are, and of how many numbers. -/
structure Degs (n : Nat) (d : Int) (all one two : Nat) : Prop where
  sum : one + two = all
  diff : (one : Int) - two = d
  le : all + 2 ≤ n
  most : n ≤ all + 3
theorem Fits.degs {n : Nat} {d : Int} {a b : Nat → F} {X Y : List F} {all one two : Nat} (h : Fits n d a b X Y) (g : Degs n d all one two) : X.length ≤ one ∧ Y.length ≤ two ∧ one - X.length = two - Y.length := by
  have := h.few; have := h.diff; have := g.sum; have := g.diff; have := g.le; have := g.most
  omega
/-- The equations have an answer. -/
theorem Fits.solved {n : Nat} {d : Int} {a b : Nat → F} {X Y : List F} {all one two : Nat} (h : Fits n d a b X Y) (g : Degs n d all one two) : ∃ l, Sol all all (fun k => eqn (a k) (b k) (ptF k) one two) l := by
  obtain ⟨g1, g2, g3⟩ := h.degs g
  have hX : prodL X * Pol.X ^ (one - X.length) ≠ 0 := mul_ne_zero (prodL_ne _) (pow_X_ne _)
  have hY : prodL Y * Pol.X ^ (one - X.length) ≠ 0 := mul_ne_zero (prodL_ne _) (pow_X_ne _)
  have l1 := len_mul (prodL_ne X) (pow_X_ne (one - X.length))
  have l2 := len_mul (prodL_ne Y) (pow_X_ne (one - X.length))
  have t1 := top_mul (prodL_ne X) (pow_X_ne (one - X.length))
  have t2 := top_mul (prodL_ne Y) (pow_X_ne (one - X.length))
  rw [len_prodL, len_pow_X] at l1 l2
  rw [top_prodL, top_pow_X, mul_one'] at t1 t2
  have m1 := mon_of (m := one) (by omega) t1
  have m2 := mon_of (m := two) (by omega) t2
  obtain ⟨P, hP⟩ : ∃ P, P = prodL X * Pol.X ^ (one - X.length) := ⟨_, rfl⟩
  obtain ⟨Q', hQ⟩ : ∃ Q', Q' = prodL Y * Pol.X ^ (one - X.length) := ⟨_, rfl⟩
  rw [← hP] at m1
  rw [← hQ] at m2
  refine ⟨fun j => if j < one then coef P.l j else coef Q'.l (j - one), fun k hk => ?_⟩
  rw [← g.sum]
  refine (eqn_dot _ _ _ _ _ _).2 ?_
  have e1 : mon (fun j => if j < one then coef P.l j else coef Q'.l (j - one)) one = P := by
    refine Eq.trans (ext fun i => ?_) m1.symm
    rw [coef_mon, coef_mon]
    by_cases hi : i < one
    · rw [if_pos hi, if_pos hi, if_pos hi]
    · rw [if_neg hi, if_neg hi]
  have e2 : mon (fun j => if one + j < one then coef P.l (one + j) else coef Q'.l (one + j - one)) two = Q' := by
    refine Eq.trans (ext fun i => ?_) m2.symm
    rw [coef_mon, coef_mon]
    by_cases hi : i < two
    · rw [if_pos hi, if_pos hi, if_neg (by omega), show one + i - one = i by omega]
    · rw [if_neg hi, if_neg hi]
  rw [e1, e2, hP, hQ, at_mul, at_mul]
  have := h.eqs k (by have := g.le; omega)
  generalize (Pol.X ^ (one - X.length)).at' (ptF k) = s
  generalize (prodL X).at' (ptF k) = x at *
  generalize (prodL Y).at' (ptF k) = y at *
  have e3 : b k * (x * s) = (b k * x) * s := by grind
  rw [e3, ← this]; grind
where
  len_pow_X {m : Nat} : (Pol.X ^ m).len = m + 1 := by
    have h1 : (Pol.X ^ m).len ≤ m + 1 := len_le fun i hi => by rw [coef_X_pow, if_neg (by omega)]
    have h2 : m < (Pol.X ^ m).len := len_ge (by rw [coef_X_pow, if_pos rfl]; exact one_ne)
    omega
  pow_X_ne (m : Nat) : Pol.X ^ m ≠ 0 := fun e => by have := len_pow_X (m := m); rw [e, len_zero] at this; omega
  top_pow_X {m : Nat} : (Pol.X ^ m).top = 1 := by
    unfold top
    rw [len_pow_X, coef_X_pow, if_pos (by omega)]
end Go.Proofs.Ytelnhpcehmdffaa
