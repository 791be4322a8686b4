/-
  Polynomials as a ring: lists without noughts at the end. Plain Lean.
-/
import Derived.Test.YtokkjklggkoajaaPolyPlain2
namespace Go.Proofs.Ytokkjklggkoajaa

/-! ### Coefficients of products -/
theorem mulL_nil_coef (q : List F) (i : Nat) : coef (mulL [] q) i = 0 := by rw [mulL, coef_nil]
theorem coef_cons_succ (a : F) (p : List F) (i : Nat) : coef (a :: p) (i + 1) = coef p i := coef_succ a p i
theorem mulL_add_left (p p' q : List F) : ∀ i, coef (mulL (addL p p') q) i = coef (mulL p q) i + coef (mulL p' q) i := by
  induction p generalizing p' with
  | nil => intro i; rw [addL, mulL, coef_nil, zero_add']
  | cons a p ih => cases p' with
    | nil => intro i; rw [addL, mulL_nil_coef, add_zero']
    | cons b p' =>
      intro i
      rw [addL, coef_mulL_cons, coef_mulL_cons, coef_mulL_cons]
      cases i with
      | zero => rw [coef_zero, coef_zero, coef_zero]; grind
      | succ i => rw [coef_succ, coef_succ, coef_succ, ih]; grind
theorem mulL_add_right (p q q' : List F) : ∀ i, coef (mulL p (addL q q')) i = coef (mulL p q) i + coef (mulL p q') i := by
  induction p with
  | nil => intro i; rw [mulL_nil_coef, mulL_nil_coef, mulL_nil_coef, add_zero']
  | cons a p ih =>
    intro i
    rw [coef_mulL_cons, coef_mulL_cons, coef_mulL_cons, coef_addL]
    cases i with
    | zero => rw [coef_zero, coef_zero, coef_zero]; grind
    | succ i => rw [coef_succ, coef_succ, coef_succ, ih]; grind
theorem mulL_smul (a : F) (p q : List F) : ∀ i, coef (mulL (p.map (a * ·)) q) i = a * coef (mulL p q) i := by
  induction p with
  | nil => intro i; rw [List.map_nil, mulL_nil_coef, mul_zero']
  | cons b p ih =>
    intro i
    rw [List.map_cons, coef_mulL_cons, coef_mulL_cons]
    cases i with
    | zero => rw [coef_zero, coef_zero]; grind
    | succ i => rw [coef_succ, coef_succ, ih]; grind
theorem mulL_shift (p q : List F) : ∀ i, coef (mulL (0 :: p) q) i = coef (0 :: mulL p q) i := by
  intro i; rw [coef_mulL_cons]; grind
theorem mulL_cons_right (p : List F) (b : F) (q : List F) : ∀ i, coef (mulL p (b :: q)) i = b * coef p i + coef (0 :: mulL p q) i := by
  induction p with
  | nil =>
    intro i
    rw [mulL_nil_coef, coef_nil]
    cases i with
    | zero => rw [coef_zero, mul_zero', add_zero']
    | succ i => rw [coef_succ, mulL_nil_coef, mul_zero', add_zero']
  | cons a p ih =>
    intro i
    rw [coef_mulL_cons]
    cases i with
    | zero => rw [coef_zero, coef_zero, coef_zero, coef_zero]; grind
    | succ i =>
      rw [coef_succ, coef_succ, coef_succ, coef_succ, ih, coef_mulL_cons]; grind
theorem mulL_comm (p q : List F) : ∀ i, coef (mulL p q) i = coef (mulL q p) i := by
  induction p with
  | nil =>
    intro i
    rw [mulL_nil_coef]
    induction q generalizing i with
    | nil => rw [mulL_nil_coef]
    | cons b q ih =>
      rw [coef_mulL_cons, coef_nil]
      cases i with
      | zero => rw [coef_zero, mul_zero', add_zero']
      | succ i => rw [coef_succ, ← ih, mul_zero', add_zero']
  | cons a p ih =>
    intro i
    rw [coef_mulL_cons, mulL_cons_right]
    cases i with
    | zero => rw [coef_zero, coef_zero]
    | succ i => rw [coef_succ, coef_succ, ih]
theorem mulL_assoc (p q r : List F) : ∀ i, coef (mulL (mulL p q) r) i = coef (mulL p (mulL q r)) i := by
  induction p with
  | nil => intro i; rw [mulL_nil_coef, mulL, mulL_nil_coef]
  | cons a p ih =>
    intro i
    rw [mulL, mulL_add_left, mulL_smul, mulL_shift, coef_mulL_cons]
    cases i with
    | zero => rw [coef_zero, coef_zero]
    | succ i => rw [coef_succ, coef_succ, ih]
theorem mulL_one (p : List F) : ∀ i, coef (mulL p [1]) i = coef p i := by
  intro i
  rw [mulL_comm, coef_mulL_cons]
  cases i with
  | zero => rw [coef_zero]; grind
  | succ i => rw [coef_succ, mulL_nil_coef]; grind

/-! ### The ring -/
/-- A polynomial. -/
structure Pol where
  l : List F
  tr : trimF l = l
namespace Pol
theorem ext {p q : Pol} (h : ∀ i, coef p.l i = coef q.l i) : p = q := by
  have e : p.l = q.l := by rw [← p.tr, ← q.tr]; exact trimF_congr h
  cases p; cases q; simp only at e; subst e; rfl
theorem ext_iff' {p q : Pol} : p = q ↔ ∀ i, coef p.l i = coef q.l i := ⟨fun h _ => by rw [h], ext⟩
/-- .. of any list. -/
def mk' (l : List F) : Pol := ⟨trimF l, trimF_trimF l⟩
theorem coef_mk (l : List F) (i : Nat) : coef (mk' l).l i = coef l i := coef_trimF l i
def add (p q : Pol) : Pol := mk' (addL p.l q.l)
def mul (p q : Pol) : Pol := mk' (mulL p.l q.l)
def neg (p : Pol) : Pol := mk' (p.l.map (-1 * ·))
def con (a : F) : Pol := mk' [a]
def pow (p : Pol) : Nat → Pol
  | 0 => con 1
  | n + 1 => mul (pow p n) p
instance : Add Pol := ⟨add⟩
instance : Mul Pol := ⟨mul⟩
instance : Neg Pol := ⟨neg⟩
instance : Sub Pol := ⟨fun p q => add p (neg q)⟩
theorem coef_add (p q : Pol) (i : Nat) : coef (p + q).l i = coef p.l i + coef q.l i := by
  show coef (mk' (addL p.l q.l)).l i = _
  rw [coef_mk, coef_addL]
theorem coef_mul (p q : Pol) (i : Nat) : coef (p * q).l i = coef (mulL p.l q.l) i := by
  show coef (mk' (mulL p.l q.l)).l i = _
  rw [coef_mk]
theorem coef_neg (p : Pol) (i : Nat) : coef (-p).l i = - coef p.l i := by
  show coef (mk' _).l i = _
  rw [coef_mk, coef_smul]; grind
theorem coef_con (a : F) (i : Nat) : coef (con a).l i = if i = 0 then a else 0 := by
  unfold con
  rw [coef_mk]
  cases i with
  | zero => rw [coef_zero]; rfl
  | succ i => rw [coef_succ, coef_nil]; rfl
def ofN : Nat → Pol
  | 0 => con 0
  | 1 => con 1
  | n + 2 => ofN (n + 1) + con 1
theorem coef_ofN (n : Nat) (i : Nat) : coef (ofN n).l i = if i = 0 then (OfNat.ofNat n : F) else 0 := by
  induction n with
  | zero => exact coef_con 0 i
  | succ n ih =>
    cases n with
    | zero => exact coef_con 1 i
    | succ n =>
      show coef (ofN (n + 1) + con 1).l i = _
      rw [coef_add, ih, coef_con]
      split
      · exact (Lean.Grind.Semiring.ofNat_succ (α := F) (n + 1)).symm
      · exact add_zero' 0
instance (n : Nat) : OfNat Pol n := ⟨ofN n⟩
instance : NatCast Pol := ⟨ofN⟩
instance : HPow Pol Nat Pol := ⟨pow⟩
instance : SMul Nat Pol := ⟨fun n p => ofN n * p⟩
def ofZ (n : Int) : Pol := match n with
  | .ofNat n => ofN n
  | .negSucc n => -(ofN (n + 1))
instance : IntCast Pol := ⟨ofZ⟩
instance : SMul Int Pol := ⟨fun n p => ofZ n * p⟩
theorem zero_l : (0 : Pol).l = [] := by decide
theorem coef_nought (i : Nat) : coef (0 : Pol).l i = 0 := by rw [zero_l, coef_nil]
theorem one_l : (1 : Pol).l = [1] := by decide +kernel
theorem mul_comm' (p q : Pol) : p * q = q * p := ext fun i => by rw [coef_mul, coef_mul, mulL_comm]
theorem mulL_congr_left {p p' : List F} (q : List F) (h : ∀ i, coef p i = coef p' i) (i : Nat) : coef (mulL p q) i = coef (mulL p' q) i := mulL_congr h (fun _ => rfl) i
theorem mulL_congr_right (p : List F) {q q' : List F} (h : ∀ i, coef q i = coef q' i) (i : Nat) : coef (mulL p q) i = coef (mulL p q') i := mulL_congr (fun _ => rfl) h i
theorem mul_assoc' (p q r : Pol) : p * q * r = p * (q * r) := ext fun i => by
  rw [coef_mul, coef_mul, mulL_congr_left r.l (coef_mul p q), mulL_congr_right p.l (coef_mul q r), mulL_assoc]
theorem right_distrib' (p q r : Pol) : (p + q) * r = p * r + q * r := ext fun i => by
  rw [coef_mul, coef_add, coef_mul, coef_mul, mulL_congr_left r.l (p' := addL p.l q.l) (fun i => by rw [coef_add, coef_addL]), mulL_add_left]
theorem add_comm' (p q : Pol) : p + q = q + p := ext fun i => by rw [coef_add, coef_add]; grind
theorem pmul_one (p : Pol) : p * 1 = p := ext fun i => by rw [coef_mul, one_l, mulL_one]
theorem pzero_mul (p : Pol) : 0 * p = 0 := ext fun i => by rw [coef_mul, zero_l, mulL_nil_coef, coef_nil]
theorem ofN_succ (n : Nat) : ofN (n + 1) = ofN n + con 1 := by
  cases n with
  | zero =>
    refine ext fun i => ?_
    show coef (con 1).l i = _
    rw [coef_add]
    show _ = coef (con 0).l i + _
    rw [coef_con, coef_con]
    split
    · exact (zero_add' 1).symm
    · exact (add_zero' 0).symm
  | succ n => rfl
instance : Lean.Grind.CommRing Pol where
  add_zero p := ext fun i => by rw [coef_add, coef_nought, add_zero']
  add_comm := add_comm'
  add_assoc p q r := ext fun i => by rw [coef_add, coef_add, coef_add, coef_add]; grind
  mul_assoc := mul_assoc'
  mul_one := pmul_one
  one_mul p := by rw [mul_comm', pmul_one]
  left_distrib p q r := by rw [mul_comm', right_distrib', mul_comm' q, mul_comm' r]
  right_distrib := right_distrib'
  zero_mul := pzero_mul
  mul_zero p := by rw [mul_comm', pzero_mul]
  pow_zero p := rfl
  pow_succ p n := rfl
  ofNat_succ n := ofN_succ n
  ofNat_eq_natCast n := rfl
  nsmul_eq_natCast_mul n p := rfl
  neg_add_cancel p := ext fun i => by rw [coef_add, coef_neg, coef_nought]; grind
  sub_eq_add_neg p q := rfl
  neg_zsmul n p := by
    show ofZ (-n) * p = -(ofZ n * p)
    have e : ofZ (-n) = - ofZ n := by
      cases n with
      | ofNat n =>
        cases n with
        | zero => exact ext fun i => by rw [coef_neg]; show coef (ofN 0).l i = - coef (ofN 0).l i; rw [coef_ofN]; split <;> grind
        | succ n => rfl
      | negSucc n => exact ext fun i => by rw [coef_neg]; show coef (ofN (n + 1)).l i = - coef (-(ofN (n + 1))).l i; rw [coef_neg]; grind
    rw [e]
    exact ext fun i => by
      rw [coef_neg, coef_mul, coef_mul, mulL_congr_left p.l (p' := (ofZ n).l.map (-1 * ·)) (fun i => by rw [coef_neg, coef_smul]; grind), mulL_smul]; grind
  zsmul_natCast_eq_nsmul n p := rfl
  intCast_ofNat n := rfl
  intCast_neg n := by
    show ofZ (-n) = - ofZ n
    cases n with
    | ofNat n =>
      cases n with
      | zero => exact ext fun i => by rw [coef_neg]; show coef (ofN 0).l i = - coef (ofN 0).l i; rw [coef_ofN]; split <;> grind
      | succ n => rfl
    | negSucc n => exact ext fun i => by rw [coef_neg]; show coef (ofN (n + 1)).l i = - coef (-(ofN (n + 1))).l i; rw [coef_neg]; grind
  mul_comm := mul_comm'
example (p q r : Pol) (h : p = q * r + 1) : p * r - r = q * r * r := by grind
end Pol
end Go.Proofs.Ytokkjklggkoajaa
