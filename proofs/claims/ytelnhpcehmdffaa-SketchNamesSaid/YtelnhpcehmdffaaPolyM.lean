/-
  The contracts of polynomials, of the program and of the references, in polynomials alone.
-/
import Derived.Test.YtelnhpcehmdffaaRefF
namespace Go.Proofs.Ytelnhpcehmdffaa
open Go.RowKit
attribute [local go_sem] T_V

namespace Pol
theorem DivIs.len_r {A B Q R : Pol} (h : DivIs A B Q R) : R.len ≤ B.len := by
  rcases h with ⟨_, _, rfl⟩ | ⟨_, h⟩
  · rw [len_zero]; omega
  · have := h.less; omega
theorem DivIs.len_q {A B Q R : Pol} (h : DivIs A B Q R) : Q.len ≤ A.len := by
  rcases h with ⟨_, rfl, _⟩ | ⟨hB, h⟩
  · rw [len_zero]; omega
  · by_cases hQ : Q = 0
    · rw [hQ, len_zero]; omega
    · have e : Q * B = A - R := by rw [h.eq]; grind
      have h1 := len_mul hQ hB
      rw [e] at h1
      have h2 := len_sub A R
      have h3 := h.less
      have h4 := len_pos hQ
      have h5 := len_pos hB
      omega
theorem GcdOk.len {A B G : Pol} (h : GcdOk A B G) : G.len ≤ A.len + B.len := by
  by_cases hA : A = 0
  · by_cases hB : B = 0
    · have h0 : G = 0 := by
        have h1 : Dvd 0 G := h.best 0 (hA ▸ Dvd.refl 0) (hB ▸ Dvd.refl 0)
        obtain ⟨w, hw⟩ := h1
        rw [hw]; grind
      rw [h0, len_zero]; omega
    · have := h.right.len hB; omega
  · have := h.left.len hA; omega
end Pol
/-- A slice that reads as a polynomial, reduced or not. -/
structure Rp (w : World) (p : Option Addr) (n : Nat) (P : Pol) : Prop where
  ex : ∃ xs, U w p n xs ∧ pol xs = P
/-- A slice that reads as a polynomial, reduced. -/
structure Sp (w : World) (p : Option Addr) (n : Nat) (P : Pol) : Prop where
  len : P.len = n
  u : U w p n (P.l.map V)
theorem U.rp {w : World} {p : Option Addr} {n : Nat} {xs : List Int} (h : U w p n xs) : Rp w p n (pol xs) := ⟨xs, h, rfl⟩
theorem Sp.rp {w : World} {p : Option Addr} {n : Nat} {P : Pol} (h : Sp w p n P) : Rp w p n P := ⟨_, h.u, pol_V P⟩
theorem Rp.below {w w' : World} {p : Option Addr} {n : Nat} {P : Pol} (h : Rp w p n P) (hb : Below w.heap.size w w') : Rp w' p n P := by
  obtain ⟨xs, h1, h2⟩ := h.ex
  exact ⟨xs, h1.below hb, h2⟩
theorem Sp.below {w w' : World} {p : Option Addr} {n : Nat} {P : Pol} (h : Sp w p n P) (hb : Below w.heap.size w w') : Sp w' p n P := ⟨h.len, h.u.below hb⟩
theorem Rp.nil (w : World) (p : Option Addr) : Rp w p 0 0 := ⟨[], U.nil, Pol.mk_nil⟩
/-- A polynomial as what a call returns. -/
def Rets (e : Ending) (w' : World) (P : Pol) (k : Nat) : Prop := ∃ p n c, e = .returned (.slice p n c) ∧ Sp w' p n P ∧ n ≤ k ∧ n ≤ c
theorem Ps.rets {v : Value} {w' : World} {P : Pol} {k : Nat} (h : Ps w' v P) (hk : P.len ≤ k) : Rets (.returned v) w' P k := by
  obtain ⟨p, c, rfl, hc, hU⟩ := h
  exact ⟨p, _, c, rfl, ⟨rfl, hU⟩, hk, hc⟩
theorem Rp.len {w : World} {p : Option Addr} {n : Nat} {P : Pol} (h : Rp w p n P) : P.len ≤ n := by
  obtain ⟨xs, h1, rfl⟩ := h.ex
  have := pol_len xs
  rwa [h1.len] at this

section
variable {p q : Option Addr} {n m : Nat} {A B : Pol} (c d : Nat) {w : World} (hA : Rp w p n A) (hB : Rp w q m B) (hn : n ≤ 100000) (hm : m ≤ 100000)
include hA hn
theorem Trim_p : Calls Try.prog 47 #[.slice p n c] w fun e w' => Rets e w' A n ∧ Below w.heap.size w w' := by
  have hl := hA.len
  obtain ⟨xs, h1, rfl⟩ := hA.ex
  exact (TrimG p n xs c w h1 (by omega)).mono fun _ _ ⟨v, he, hv, hb⟩ => ⟨he ▸ hv.rets hl, hb⟩
include hB hm
theorem Add_p : Calls Try.prog 63 #[.slice p n c, .slice q m d] w fun e w' => Rets e w' (A + B) (n + m) ∧ Below w.heap.size w w' := by
  have hl := hA.len; have hl2 := hB.len
  obtain ⟨xs, h1, rfl⟩ := hA.ex
  obtain ⟨ys, h2, rfl⟩ := hB.ex
  exact (AddG p q n m xs ys c d w h1 h2 (by omega) (by omega)).mono fun _ _ ⟨v, he, hv, hb⟩ => ⟨he ▸ hv.rets (by have := Pol.len_add (pol xs) (pol ys); omega), hb⟩
theorem Mul_p : Calls Try.prog 72 #[.slice p n c, .slice q m d] w fun e w' => Rets e w' (A * B) (n + m) ∧ Below w.heap.size w w' := by
  have hl := hA.len; have hl2 := hB.len
  obtain ⟨xs, h1, rfl⟩ := hA.ex
  obtain ⟨ys, h2, rfl⟩ := hB.ex
  exact (MulG p q n m xs ys c d w h1 h2 (by omega) (by omega)).mono fun _ _ ⟨v, he, hv, hb⟩ => ⟨he ▸ hv.rets (by have := len_mul_le (pol xs) (pol ys); omega), hb⟩
/-- A quotient, and what is left, as what a call returns. -/
def Rets2 (e : Ending) (w' : World) (A B : Pol) (n m : Nat) : Prop := ∃ p1 n1 c1 p2 n2 c2 Q R, e = .returned (.tuple #[.slice p1 n1 c1, .slice p2 n2 c2]) ∧ Sp w' p1 n1 Q ∧ Sp w' p2 n2 R ∧ n1 ≤ n ∧ n2 ≤ m ∧ Hid (Pol.DivIs A B Q R)
theorem DivMod_p : Calls Try.prog 31 #[.slice p n c, .slice q m d] w fun e w' => Rets2 e w' A B n m ∧ Below w.heap.size w w' := by
  have hl := hA.len; have hl2 := hB.len
  obtain ⟨xs, h1, rfl⟩ := hA.ex
  obtain ⟨ys, h2, rfl⟩ := hB.ex
  refine (DivModG p q n m xs ys c d w h1 h2 (by omega) (by omega)).mono ?_
  rintro _ _ ⟨v1, v2, Q, R, he, ⟨⟨p1, c1, rfl, _, u1⟩, _⟩, ⟨⟨p2, c2, rfl, _, u2⟩, _⟩, hdv, hb⟩
  exact ⟨⟨p1, _, c1, p2, _, c2, Q, R, he, ⟨rfl, u1⟩, ⟨rfl, u2⟩, Nat.le_trans hdv.len_q hl, Nat.le_trans hdv.len_r hl2, Lib.hid hdv⟩, hb⟩
def RetsG (e : Ending) (w' : World) (A B : Pol) (k : Nat) : Prop := ∃ p n c G, e = .returned (.slice p n c) ∧ Sp w' p n G ∧ (n ≤ k ∧ n ≤ c) ∧ Hid (Pol.GcdOk A B G)
theorem Gcd_p : Calls Try.prog 30 #[.slice p n c, .slice q m d] w fun e w' => RetsG e w' A B (n + m) ∧ Below w.heap.size w w' := by
  have hl := hA.len; have hl2 := hB.len
  obtain ⟨xs, h1, rfl⟩ := hA.ex
  obtain ⟨ys, h2, rfl⟩ := hB.ex
  refine (Gcd_any p q n m xs ys c d w h1 h2 (by omega) (by omega)).mono ?_
  rintro _ _ ⟨v, G, he, ⟨p1, c1, rfl, k1, u1⟩, _, hg, hb⟩
  exact ⟨⟨p1, _, c1, G, he, ⟨rfl, u1⟩, ⟨by have := hg.len; omega, k1⟩, Lib.hid hg⟩, hb⟩
end
/-- Roots as what a call returns. -/
def RetsR (B : Nat) (e : Ending) (w' : World) (P : Pol) (k : Nat) : Prop := ∃ p n c rs, e = .returned (.slice p n c) ∧ U w' p n (rs.map V) ∧ n ≤ k ∧ (n ≤ c ∧ Own w' B (.slice p n c) n (rs.map V)) ∧ Hid (RootsOk P rs)
theorem RootsOk.len {P : Pol} {rs : List F} (h : RootsOk P rs) : rs.length ≤ P.len := by
  by_cases hP : P = 0
  · rw [h.2.1 hP]; simp
  · exact Nat.le_of_lt (Pol.roots_lt hP h.1.nodup fun x hx => (h.2.2 hP x).1 hx)
theorem Roots_p {p : Option Addr} {n : Nat} {A : Pol} (c : Nat) {w : World} (hA : Rp w p n A) (hn : n ≤ 13) :
    Calls Try.prog 50 #[.slice p n c] w fun e w' => RetsR w.heap.size e w' A n ∧ Below w.heap.size w w' := by
  have hl := hA.len
  obtain ⟨xs, h1, rfl⟩ := hA.ex
  refine (Roots_any p n xs c w h1 hn).mono ?_
  rintro _ _ ⟨v, rs, he, ⟨p1, n1, c1, rfl, hc, u1⟩, ⟨hr, ho⟩, hb⟩
  have e1 := u1.len
  rw [List.length_map] at e1
  exact ⟨⟨p1, n1, c1, rs, he, u1, by have := hr.len; omega, ⟨hc, e1 ▸ ho⟩, Lib.hid hr⟩, hb⟩
/-- Numbers rising as what a call returns. -/
def RetsS (e : Ending) (w' : World) (fs : List F) (k : Nat) : Prop := ∃ p n c S, e = .returned (.slice p n c) ∧ U w' p n (S.map V) ∧ n ≤ k ∧ n ≤ c ∧ (p = none → c = 0) ∧ Hid (SortedOf fs S)
/-- The first numbers as what a call returns. -/
def RetsN (e : Ending) (w' : World) (n k : Nat) (xs : List Int) : Prop := ∃ p m c, e = .returned (.slice p m c) ∧ U w' p m (xs.take m) ∧ m ≤ k ∧ m ≤ c ∧ (p = none → c = 0) ∧ Hid (m = min n k)
end Go.Proofs.Ytelnhpcehmdffaa
