/-
  Plain facts on polynomials (7): what the statements ask of quotients and of what divides both.
-/
import Derived.Test.YtelnhpcehmdffaaPolyM
namespace Go.Proofs.Ytelnhpcehmdffaa
namespace Pol

theorem DivIs.exact {P G X R : Pol} (h : DivIs P G X R) (hG : G ≠ 0) (hd : Dvd G P) : R = 0 ∧ X * G = P := by
  have h1 := (h.resolve_left fun k => hG k.1).2
  have h2 := h1.dvd hd
  refine ⟨h2, ?_⟩
  have := h1.eq
  rw [h2] at this
  rw [this]; grind
theorem DivIs.back {P G X R : Pol} (h : DivIs P G X R) (hG : G ≠ 0) : X * G + R = P ∧ R.len < G.len := by
  have h1 := (h.resolve_left fun k => hG k.1).2
  exact ⟨h1.eq.symm, h1.less⟩
theorem GcdOk.zero {G : Pol} (h : GcdOk 0 0 G) : G = 0 := by
  obtain ⟨w, hw⟩ := h.best 0 (Dvd.refl 0) (Dvd.refl 0)
  rw [hw]; grind
theorem GcdOk.ne {P Q G : Pol} (h : GcdOk P Q G) (hn : P ≠ 0 ∨ Q ≠ 0) : G ≠ 0 := fun e => by
  rcases hn with hn | hn
  · obtain ⟨w, hw⟩ := h.left
    exact hn (by rw [hw, e]; grind)
  · obtain ⟨w, hw⟩ := h.right
    exact hn (by rw [hw, e]; grind)
theorem GcdOk.rest {P Q G X Y D : Pol} (h : GcdOk P Q G) (hG : G ≠ 0) (hx : X * G = P) (hy : Y * G = Q) (k : GcdOk X Y D) : D.len = 1 := by
  obtain ⟨a, ha⟩ := k.left
  obtain ⟨b, hb⟩ := k.right
  obtain ⟨w, hw⟩ := h.best (D * G) ⟨a, by rw [← hx, ha]; grind⟩ ⟨b, by rw [← hy, hb]; grind⟩
  have e : w * D = 1 := mul_cancel hG (by
    have : w * D * G = G := by rw [mul_assoc', ← hw]
    rw [this]; grind)
  have hD : D ≠ 0 := fun e' => one_ne_zero (by rw [← e, e']; grind)
  have hW : w ≠ 0 := fun e' => one_ne_zero (by rw [← e, e']; grind)
  have h1 := len_mul hW hD
  rw [e, len_one] at h1
  have := len_pos hD
  have := len_pos hW
  omega
theorem dvd_mul (A C : Pol) : Dvd C (A * C) := ⟨A, rfl⟩
theorem ne_of_len {P : Pol} {n : Nat} (h : P.len = n) (hn : n ≠ 0) : P ≠ 0 := fun e => hn (by rw [← h, e, len_zero])
theorem len_ne {P : Pol} {n : Nat} (h : P.len = n) (hP : P ≠ 0) : n ≠ 0 := by rw [← h]; have := len_pos hP; omega
end Pol
/-- The first coefficient, in its cell. -/
theorem Sp.top {w : World} {p : Option Addr} {n : Nat} {P : Pol} (h : Sp w p n P) (hn : 0 < n) : ∃ b off, p = some ⟨b, off, none⟩ ∧ w.cell? ⟨b, off + (n - 1), none⟩ = some (.int .u64 (V P.top)) := by
  obtain ⟨b, off, hp, _, hc, _⟩ := h.u.look (i := n - 1) (by omega)
  refine ⟨b, off, hp, ?_⟩
  rw [hc, coef_cell h.u (by omega)]
  unfold Pol.top
  rw [h.len]
end Go.Proofs.Ytelnhpcehmdffaa
