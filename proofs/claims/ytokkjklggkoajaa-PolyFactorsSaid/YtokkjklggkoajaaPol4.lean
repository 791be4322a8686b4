/-
  Polynomials modulo one of them; powers. Plain Lean.
-/
import Derived.Test.YtokkjklggkoajaaPol3
namespace Go.Proofs.Ytokkjklggkoajaa
namespace Pol
/-- The same modulo M. -/
def Cong (M A B : Pol) : Prop := Dvd M (A - B)
theorem Cong.refl (M A : Pol) : Cong M A A := ⟨0, by grind⟩
theorem Cong.symm {M A B : Pol} (h : Cong M A B) : Cong M B A := by
  obtain ⟨u, hu⟩ := h
  exact ⟨-u, by grind⟩
theorem Cong.trans {M A B C : Pol} (h : Cong M A B) (k : Cong M B C) : Cong M A C := by
  obtain ⟨u, hu⟩ := h
  obtain ⟨v, hv⟩ := k
  exact ⟨u + v, by grind⟩
theorem Cong.mul {M A B C D : Pol} (h : Cong M A B) (k : Cong M C D) : Cong M (A * C) (B * D) := by
  obtain ⟨u, hu⟩ := h
  obtain ⟨v, hv⟩ := k
  refine ⟨u * C + B * v, ?_⟩
  have e : A * C - B * D = (A - B) * C + B * (C - D) := by grind
  rw [e, hu, hv]; grind
theorem Cong.sub {M A B C D : Pol} (h : Cong M A B) (k : Cong M C D) : Cong M (A - C) (B - D) := by
  obtain ⟨u, hu⟩ := h
  obtain ⟨v, hv⟩ := k
  exact ⟨u - v, by grind⟩
theorem Cong.pow {M A B : Pol} (h : Cong M A B) (n : Nat) : Cong M (A ^ n) (B ^ n) := by
  induction n with
  | zero => exact Cong.refl _ _
  | succ n ih => rw [pow_succ'', pow_succ'']; exact ih.mul h
theorem DivOk.cong {M A Q R : Pol} (h : DivOk A M Q R) : Cong M A R := ⟨Q, by have := h.eq; grind⟩
theorem pow_add'' (A : Pol) (m n : Nat) : A ^ (m + n) = A ^ m * A ^ n := by
  induction n with
  | zero => rw [pow_zero'', pmul_one]; rfl
  | succ n ih => rw [← Nat.add_assoc, pow_succ'', pow_succ'', ih, mul_assoc']
theorem pow_two_mul (A : Pol) (n : Nat) : A ^ (2 * n) = (A * A) ^ n := by
  induction n with
  | zero => rfl
  | succ n ih =>
    rw [show 2 * (n + 1) = 2 * n + 1 + 1 by omega, pow_succ'', pow_succ'', pow_succ'', ih, mul_assoc']
/-- The state of a power by squares. -/
def PowSt (M A : Pol) (n : Nat) (O P : Pol) (k : Nat) : Prop := Cong M (A ^ n) (O * P ^ k)
theorem PowSt.start (M A : Pol) (n : Nat) : PowSt M A n 1 A n := by
  unfold PowSt
  rw [show (1 : Pol) * A ^ n = A ^ n by grind]
  exact Cong.refl _ _
theorem PowSt.even {M A O P P' : Pol} {n k : Nat} (h : PowSt M A n O P k) (hk : k % 2 = 0) (hp : Cong M (P * P) P') : PowSt M A n O P' (k / 2) := by
  have e : P ^ k = (P * P) ^ (k / 2) := by rw [← pow_two_mul, show 2 * (k / 2) = k by omega]
  unfold PowSt at h ⊢
  rw [e] at h
  exact h.trans ((Cong.refl _ _).mul (hp.pow _))
theorem PowSt.odd {M A O O' P P' : Pol} {n k : Nat} (h : PowSt M A n O P k) (hk : k % 2 = 1) (ho : Cong M (O * P) O') (hp : Cong M (P * P) P') : PowSt M A n O' P' (k / 2) := by
  have e : O * P ^ k = O * P * (P * P) ^ (k / 2) := by
    rw [← pow_two_mul, show k = 2 * (k / 2) + 1 by omega, pow_succ'', show (2 * (k / 2) + 1) / 2 = k / 2 by omega]; grind
  unfold PowSt at h ⊢
  rw [e] at h
  exact h.trans (ho.mul (hp.pow _))
theorem PowSt.done {M A O P : Pol} {n : Nat} (h : PowSt M A n O P 0) : Cong M (A ^ n) O := by
  unfold PowSt at h
  rwa [pow_zero'', pmul_one] at h
theorem dvd_cong {M A B D : Pol} (h : Cong M A B) (hd : Dvd D M) : Dvd D A ↔ Dvd D B := by
  obtain ⟨u, hu⟩ := h
  have e1 : A = B + u * M := by grind
  have e2 : B = A - u * M := by grind
  exact ⟨fun k => by rw [e2]; exact k.sub (hd.mul u), fun k => by rw [e1]; exact k.add (hd.mul u)⟩
end Pol
end Go.Proofs.Ytokkjklggkoajaa
