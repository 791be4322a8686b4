/-
  Polynomials as arrays: the steps of long division. Plain Lean.
-/
import Derived.Test.YtokkjklggkoajaaPol2
namespace Go.Proofs.Ytokkjklggkoajaa
namespace Pol

/-- The polynomial of an array. -/
def pf (n : Nat) (f : Nat → F) : Pol := mk' ((List.range n).map f)
theorem coef_pf (n : Nat) (f : Nat → F) (i : Nat) : coef (pf n f).l i = if i < n then f i else 0 := by
  unfold pf; rw [coef_mk, coef_range]
theorem pf_l (n : Nat) (f : Nat → F) : (pf n f).l = trimF ((List.range n).map f) := rfl
theorem pf_cut {n k : Nat} {f : Nat → F} (hk : k ≤ n) (h : ∀ i, k ≤ i → i < n → f i = 0) : pf n f = pf k f := ext fun i => by
  rw [coef_pf, coef_pf]
  by_cases h1 : i < k
  · rw [if_pos h1, if_pos (by omega)]
  · rw [if_neg h1]
    by_cases h2 : i < n
    · rw [if_pos h2, h i (by omega) h2]
    · rw [if_neg h2]
theorem coef_X_pow_mul (p : Pol) (k i : Nat) : coef (p * X ^ k).l i = if k ≤ i then coef p.l (i - k) else 0 := by
  induction k generalizing i with
  | zero => rw [pow_zero'', pmul_one, if_pos (Nat.zero_le _)]; rfl
  | succ k ih =>
    rw [pow_succ'', ← mul_assoc', coef_X_mul]
    cases i with
    | zero => rw [coef_zero, if_neg (by omega)]
    | succ i =>
      rw [coef_succ, ih]
      by_cases h : k ≤ i
      · rw [if_pos h, if_pos (by omega), show i + 1 - (k + 1) = i - k by omega]
      · rw [if_neg h, if_neg (by omega)]
/-- The array of quotients with one more. -/
def upd (f : Nat → F) (k : Nat) (c : F) : Nat → F := fun j => if j = k then c else f j
theorem pf_upd {n k : Nat} {f : Nat → F} {c : F} (hk : k < n) (h0 : f k = 0) : pf n (upd f k c) = pf n f + con c * X ^ k := ext fun i => by
  rw [coef_add, coef_pf, coef_pf, coef_X_pow_mul, coef_con]
  unfold upd
  by_cases hin : i < n
  · rw [if_pos hin, if_pos hin]
    by_cases h1 : i = k
    · subst h1
      rw [if_pos rfl, h0, if_pos (Nat.le_refl _), if_pos (by omega), zero_add']
    · rw [if_neg h1]
      by_cases h2 : k ≤ i
      · rw [if_pos h2, if_neg (by omega), add_zero']
      · rw [if_neg h2, add_zero']
  · rw [if_neg hin, if_neg hin, if_pos (by omega), if_neg (by omega), add_zero']
/-- What is left, of t places taken. -/
def subAt (fa fb : Nat → F) (c : F) (k t : Nat) : Nat → F := fun i => if k ≤ i ∧ i < k + t then fa i - c * fb (i - k) else fa i
theorem subAt_zero (fa fb : Nat → F) (c : F) (k : Nat) : subAt fa fb c k 0 = fa := by
  funext i; unfold subAt; rw [if_neg (by omega)]
theorem subAt_succ (fa fb : Nat → F) (c : F) (k t : Nat) (j : Nat) : subAt fa fb c k (t + 1) j = if j = k + t then subAt fa fb c k t (k + t) - c * fb t else subAt fa fb c k t j := by
  unfold subAt
  by_cases h : j = k + t
  · subst h
    rw [if_pos rfl, if_pos (by omega), if_neg (by omega), show k + t - k = t by omega]
  · rw [if_neg h]
    by_cases h1 : k ≤ j ∧ j < k + t
    · rw [if_pos h1, if_pos (by omega)]
    · rw [if_neg h1, if_neg (by omega)]
theorem pf_sub {n k nb : Nat} {fa fb : Nat → F} {c : F} {B : Pol} (hn : k + nb ≤ n) (hB : ∀ i, coef B.l i = if i < nb then fb i else 0) : pf n fa = pf n (subAt fa fb c k nb) + con c * X ^ k * B := ext fun i => by
  have e : con c * X ^ k * B = scale B c * X ^ k := by unfold scale; grind
  rw [e, coef_add, coef_pf, coef_pf, coef_X_pow_mul]
  unfold subAt
  by_cases hin : i < n
  · rw [if_pos hin, if_pos hin]
    by_cases h1 : k ≤ i
    · rw [if_pos h1, coef_scale, hB]
      by_cases h2 : i < k + nb
      · rw [if_pos ⟨h1, h2⟩, if_pos (by omega)]; grind
      · rw [if_neg (fun h => h2 h.2), if_neg (by omega), mul_zero', add_zero']
    · rw [if_neg h1, if_neg (fun h => h1 h.1), add_zero']
  · rw [if_neg hin, if_neg hin, if_pos (by omega), coef_scale, hB, if_neg (by omega), mul_zero', add_zero']
/-- The state of long division: j places are left. -/
structure DivSt (A B : Pol) (n nb nq : Nat) (j : Nat) (fq fa : Nat → F) : Prop where
  eq : A = pf nq fq * B + pf n fa
  low : ∀ i, i < j → fq i = 0
  high : ∀ i, j + nb ≤ i + 1 → i < n → fa i = 0
theorem DivSt.start {A B : Pol} {n na nb nq : Nat} {fa : Nat → F} (hA : ∀ i, coef A.l i = if i < n then fa i else 0) (hna : ∀ i, na ≤ i → i < n → fa i = 0) (hq : na + 1 = nq + nb) : DivSt A B n nb nq nq (fun _ => 0) fa where
  eq := by
    have h1 : pf nq (fun _ => 0) = 0 := ext fun i => by rw [coef_pf, coef_nought]; split <;> rfl
    have h2 : A = pf n fa := ext fun i => by rw [hA, coef_pf]
    rw [h1, ← h2]; grind
  low := fun _ _ => rfl
  high := fun i h1 h2 => hna i (by omega) h2
theorem DivSt.step {A B : Pol} {n nb nq k : Nat} {fq fa fb : Nat → F} {c : F} (h : DivSt A B n nb nq (k + 1) fq fa) (hB : ∀ i, coef B.l i = if i < nb then fb i else 0) (hk : k < nq) (hn : k + nb ≤ n) (hnb : 0 < nb) (hc : c * fb (nb - 1) = fa (k + nb - 1)) :
    DivSt A B n nb nq k (upd fq k c) (subAt fa fb c k nb) where
  eq := by
    have e1 := pf_upd (c := c) hk (h.low k (by omega))
    have e2 := pf_sub (fa := fa) (c := c) hn hB
    have e3 := h.eq
    rw [e1]
    rw [e2] at e3
    rw [e3]; grind
  low := fun i hi => by unfold upd; rw [if_neg (by omega)]; exact h.low i (by omega)
  high := fun i h1 h2 => by
    unfold subAt
    by_cases h3 : i < k + nb
    · rw [if_pos ⟨by omega, h3⟩]
      have : i = k + nb - 1 := by omega
      subst this
      rw [show k + nb - 1 - k = nb - 1 by omega, hc]; grind
    · rw [if_neg (fun h => h3 h.2)]; exact h.high i (by omega) h2
theorem DivSt.done {A B : Pol} {n nb nq : Nat} {fq fa : Nat → F} (h : DivSt A B n nb nq 0 fq fa) (hB : B.len = nb) (hnb : 0 < nb) : DivOk A B (pf nq fq) (pf n fa) where
  eq := h.eq
  less := by
    have : (pf n fa).len ≤ nb - 1 := len_le fun i hi => by
      rw [coef_pf]; split
      · exact h.high i (by omega) (by assumption)
      · rfl
    omega
/-- What DivMod answers. -/
def DivIs (A B Q R : Pol) : Prop := (B = 0 ∧ Q = 0 ∧ R = 0) ∨ (B ≠ 0 ∧ DivOk A B Q R)
theorem DivIs.same {A B Q R Q' R' : Pol} (h : DivIs A B Q R) (k : DivIs A B Q' R') : Q = Q' ∧ R = R' := by
  rcases h with ⟨h0, rfl, rfl⟩ | ⟨h0, h1⟩
  · rcases k with ⟨_, rfl, rfl⟩ | ⟨k0, _⟩
    · exact ⟨rfl, rfl⟩
    · exact absurd h0 k0
  · rcases k with ⟨k0, _⟩ | ⟨_, k1⟩
    · exact absurd k0 h0
    · exact h1.same k1
theorem DivOk.small {A B : Pol} (h : A.len < B.len) : DivOk A B 0 A := ⟨by grind, h⟩
end Pol
theorem trimF_prefix : ∀ l : List F, l.take (trimF l).length = trimF l
  | [] => rfl
  | a :: l => by
    rw [trimF]
    by_cases h : trimF l = [] ∧ a = 0
    · rw [if_pos h]; rfl
    · rw [if_neg h, List.length_cons, List.take_succ_cons, trimF_prefix l]
end Go.Proofs.Ytokkjklggkoajaa
