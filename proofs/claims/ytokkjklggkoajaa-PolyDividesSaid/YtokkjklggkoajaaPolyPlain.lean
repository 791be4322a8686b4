/-
  Polynomials over the field as lists of coefficients, the least power first: plain Lean, no program in sight.
-/
import Derived.Test.YtokkjklggkoajaaPlain
namespace Go.Proofs.Ytokkjklggkoajaa

/-- Without noughts at the end. -/
def trimF : List F → List F
  | [] => []
  | a :: p => if trimF p = [] ∧ a = 0 then [] else a :: trimF p

theorem trimF_length (p : List F) : (trimF p).length ≤ p.length := by
  induction p with
  | nil => simp [trimF]
  | cons a p ih => rw [trimF]; split <;> simp <;> omega
theorem trimF_snoc_zero (p : List F) : trimF (p ++ [0]) = trimF p := by
  induction p with
  | nil => simp [trimF]
  | cons a p ih => rw [List.cons_append, trimF, trimF, ih]
theorem trimF_snoc (p : List F) (c : F) (hc : c ≠ 0) : trimF (p ++ [c]) = p ++ [c] := by
  induction p with
  | nil => simp [trimF, hc]
  | cons a p ih => rw [List.cons_append, trimF, ih, if_neg (by simp)]
theorem trimF_take (p : List F) (k : Nat) (hk : k < p.length) (h : p[k] = 0) : trimF (p.take (k + 1)) = trimF (p.take k) := by
  rw [List.take_succ_eq_append_getElem hk, h, trimF_snoc_zero]
theorem trimF_take_ne (p : List F) (k : Nat) (hk : k < p.length) (h : p[k] ≠ 0) : trimF (p.take (k + 1)) = p.take (k + 1) := by
  rw [List.take_succ_eq_append_getElem hk, trimF_snoc _ _ h]

/-! ### Coefficients -/
/-- The coefficient at a power: 0 behind all of them. -/
def coef (p : List F) (i : Nat) : F := p.getD i 0
theorem coef_nil (i : Nat) : coef [] i = 0 := by simp [coef]
theorem coef_zero (a : F) (p : List F) : coef (a :: p) 0 = a := by simp [coef]
theorem coef_succ (a : F) (p : List F) (i : Nat) : coef (a :: p) (i + 1) = coef p i := by simp [coef]
theorem coef_lt {p : List F} {i : Nat} (h : i < p.length) : coef p i = p[i] := by simp [coef, h]
theorem coef_ge {p : List F} {i : Nat} (h : p.length ≤ i) : coef p i = 0 := by simp [coef, List.getElem?_eq_none h]
theorem ext_coef {p q : List F} (hl : p.length = q.length) (h : ∀ i, coef p i = coef q i) : p = q := by
  apply List.ext_getElem hl
  intro i h1 h2
  rw [← coef_lt h1, ← coef_lt h2, h]

/-- A sum, coefficient by coefficient. -/
def addL : List F → List F → List F
  | [], q => q
  | a :: p, [] => a :: p
  | a :: p, b :: q => (a + b) :: addL p q
theorem addL_length (p q : List F) : (addL p q).length = max p.length q.length := by
  induction p generalizing q with
  | nil => simp [addL]
  | cons a p ih => cases q with
    | nil => simp [addL]
    | cons b q => simp only [addL, List.length_cons, ih]; omega
theorem coef_addL (p q : List F) (i : Nat) : coef (addL p q) i = coef p i + coef q i := by
  induction p generalizing q i with
  | nil => rw [addL, coef_nil]; grind
  | cons a p ih => cases q with
    | nil => rw [addL, coef_nil]; grind
    | cons b q => cases i with
      | zero => rw [addL, coef_zero, coef_zero, coef_zero]
      | succ i => rw [addL, coef_succ, coef_succ, coef_succ, ih]
theorem addL_comm (p q : List F) : addL p q = addL q p := by
  apply ext_coef
  · rw [addL_length, addL_length, Nat.max_comm]
  · intro i; rw [coef_addL, coef_addL]; grind

/-! ### Products -/
theorem coef_smul (a : F) (q : List F) (i : Nat) : coef (q.map (a * ·)) i = a * coef q i := by
  by_cases h : i < q.length
  · rw [coef_lt (by simpa using h), coef_lt h, List.getElem_map]
  · rw [coef_ge (by simpa using h), coef_ge (by omega), mul_zero']
/-- A product. -/
def mulL : List F → List F → List F
  | [], _ => []
  | a :: p, q => addL (q.map (a * ·)) (0 :: mulL p q)
theorem mulL_length (p q : List F) (hp : p ≠ []) (hq : q ≠ []) : (mulL p q).length = p.length + q.length - 1 := by
  induction p with
  | nil => exact absurd rfl hp
  | cons a p ih =>
    have hq' : 0 < q.length := List.length_pos_iff.2 hq
    rw [mulL, addL_length, List.length_map, List.length_cons, List.length_cons]
    cases p with
    | nil => simp [mulL]; omega
    | cons b p => rw [ih (by simp), List.length_cons]; omega
theorem coef_mulL_cons (a : F) (p q : List F) (i : Nat) : coef (mulL (a :: p) q) i = a * coef q i + coef (0 :: mulL p q) i := by
  rw [mulL, coef_addL, coef_smul]
/-- One more row. -/
theorem coef_mulL_snoc (p q : List F) (a : F) (j : Nat) : coef (mulL (p ++ [a]) q) j = coef (mulL p q) j + if p.length ≤ j then a * coef q (j - p.length) else 0 := by
  induction p generalizing j with
  | nil =>
    rw [List.nil_append, coef_mulL_cons, mulL, coef_nil]
    simp only [List.length_nil, Nat.zero_le, if_true, Nat.sub_zero]
    cases j with
    | zero => rw [coef_zero, add_zero', zero_add']
    | succ j => rw [coef_succ, coef_nil, add_zero', zero_add']
  | cons b p ih =>
    rw [List.cons_append, coef_mulL_cons, coef_mulL_cons]
    cases j with
    | zero => rw [coef_zero, coef_zero, if_neg (by simp), add_zero', add_zero']
    | succ j =>
      rw [coef_succ, coef_succ, ih, List.length_cons]
      by_cases h : p.length ≤ j
      · rw [if_pos h, if_pos (by omega), Nat.add_sub_add_right]; grind
      · rw [if_neg h, if_neg (by omega)]; grind
theorem coef_take (q : List F) (k j : Nat) : coef (q.take k) j = if j < k then coef q j else 0 := by
  by_cases h : j < k
  · rw [if_pos h]
    by_cases h2 : j < q.length
    · rw [coef_lt (by rw [List.length_take]; omega), coef_lt h2, List.getElem_take]
    · rw [coef_ge (by rw [List.length_take]; omega), coef_ge (by omega)]
  · rw [if_neg h, coef_ge (by rw [List.length_take]; omega)]

/-- What stands at j after i rows and k products of the next row. -/
def mulAt (p q : List F) (i k j : Nat) : F := coef (mulL (p.take i) q) j + if i ≤ j then coef p i * coef (q.take k) (j - i) else 0
theorem mulAt_zero (p q : List F) (j : Nat) : mulAt p q 0 0 j = 0 := by
  unfold mulAt
  rw [List.take_zero, List.take_zero, mulL, coef_nil, coef_nil, mul_zero']
  split <;> exact add_zero' _
theorem mulAt_row (p q : List F) (i j : Nat) (hi : i < p.length) : mulAt p q i q.length j = mulAt p q (i + 1) 0 j := by
  unfold mulAt
  rw [List.take_succ_eq_append_getElem hi, coef_mulL_snoc, List.take_zero, coef_nil, mul_zero', List.length_take, List.take_of_length_le (Nat.le_refl _), Nat.min_eq_left (by omega), coef_lt hi]
  split <;> split <;> grind
theorem mulAt_step (p q : List F) (i k : Nat) (j : Nat) :
    mulAt p q i (k + 1) j = if j = i + k then mulAt p q i k (i + k) + coef p i * coef q k else mulAt p q i k j := by
  unfold mulAt
  by_cases h : j = i + k
  · subst h
    rw [if_pos rfl, if_pos (by omega), if_pos (by omega), coef_take, coef_take, if_pos (by omega), if_neg (by omega), Nat.add_sub_cancel_left]; grind
  · rw [if_neg h]
    congr 1
    by_cases h2 : i ≤ j
    · rw [if_pos h2, if_pos h2, coef_take, coef_take]
      by_cases h3 : j - i < k
      · rw [if_pos h3, if_pos (by omega)]
      · rw [if_neg h3, if_neg (by omega)]
    · rw [if_neg h2, if_neg h2]
theorem mulAt_all (p q : List F) (j : Nat) : mulAt p q p.length 0 j = coef (mulL p q) j := by
  unfold mulAt
  rw [List.take_of_length_le (Nat.le_refl _), List.take_zero, coef_nil, mul_zero']
  split <;> exact add_zero' _
theorem mulL_eq (p q : List F) (hp : p ≠ []) (hq : q ≠ []) : (List.range (p.length + q.length - 1)).map (mulAt p q p.length 0) = mulL p q := by
  apply ext_coef
  · rw [List.length_map, List.length_range, mulL_length p q hp hq]
  · intro j
    by_cases h : j < p.length + q.length - 1
    · rw [coef_lt (by simpa using h), List.getElem_map, List.getElem_range, mulAt_all]
    · rw [coef_ge (by simpa using h), coef_ge (by rw [mulL_length p q hp hq]; omega)]

/-! ### Values -/
/-- The value at a number. -/
def ev : List F → F → F
  | [], _ => 0
  | a :: p, x => a + x * ev p x
theorem ev_drop (p : List F) (x : F) (k : Nat) (h : k < p.length) : ev (p.drop k) x = ev (p.drop (k + 1)) x * x + coef p k := by
  rw [List.drop_eq_getElem_cons h, ev, coef_lt h]; grind
end Go.Proofs.Ytokkjklggkoajaa
