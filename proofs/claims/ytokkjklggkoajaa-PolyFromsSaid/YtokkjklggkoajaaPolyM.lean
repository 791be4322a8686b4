/-
  The contracts of polynomials, of the program and of the references, in polynomials alone.
-/
import Derived.Test.YtokkjklggkoajaaRefF
namespace Go.Proofs.Ytokkjklggkoajaa
open Go.RowKit
attribute [local go_sem] T_V

namespace Pol
theorem DivIs.len_r {A B Q R : Pol} (h : DivIs A B Q R) : R.len ≤ B.len := by
  rcases h with ⟨_, _, rfl⟩ | ⟨_, h⟩
  · rw [len_zero]; omega
  · have := h.less; omega
theorem DivIs.len_q {A B Q R : Pol} (h : DivIs A B Q R) : Q.len ≤ A.len := by
  rcases h with ⟨_, rfl, _⟩ | ⟨hB, h⟩
  · rw [len_zero]; omega
  · by_cases hQ : Q = 0
    · rw [hQ, len_zero]; omega
    · have e : Q * B = A - R := by rw [h.eq]; grind
      have h1 := len_mul hQ hB
      rw [e] at h1
      have h2 := len_sub A R
      have h3 := h.less
      have h4 := len_pos hQ
      have h5 := len_pos hB
      omega
theorem GcdOk.len {A B G : Pol} (h : GcdOk A B G) : G.len ≤ A.len + B.len := by
  by_cases hA : A = 0
  · by_cases hB : B = 0
    · have h0 : G = 0 := by
        have h1 : Dvd 0 G := h.best 0 (hA ▸ Dvd.refl 0) (hB ▸ Dvd.refl 0)
        obtain ⟨w, hw⟩ := h1
        rw [hw]; grind
      rw [h0, len_zero]; omega
    · have := h.right.len hB; omega
  · have := h.left.len hA; omega
end Pol
/-- A slice that reads as a polynomial, reduced or not. -/
structure Rp (w : World) (p : Option Addr) (n : Nat) (P : Pol) : Prop where
  ex : ∃ xs, U w p n xs ∧ pol xs = P
/-- A slice that reads as a polynomial, reduced. -/
structure Sp (w : World) (p : Option Addr) (n : Nat) (P : Pol) : Prop where
  len : P.len = n
  u : U w p n (P.l.map V)
theorem U.rp {w : World} {p : Option Addr} {n : Nat} {xs : List Int} (h : U w p n xs) : Rp w p n (pol xs) := ⟨xs, h, rfl⟩
theorem Sp.rp {w : World} {p : Option Addr} {n : Nat} {P : Pol} (h : Sp w p n P) : Rp w p n P := ⟨_, h.u, pol_V P⟩
theorem Rp.below {w w' : World} {p : Option Addr} {n : Nat} {P : Pol} (h : Rp w p n P) (hb : Below w.heap.size w w') : Rp w' p n P := by
  obtain ⟨xs, h1, h2⟩ := h.ex
  exact ⟨xs, h1.below hb, h2⟩
theorem Sp.below {w w' : World} {p : Option Addr} {n : Nat} {P : Pol} (h : Sp w p n P) (hb : Below w.heap.size w w') : Sp w' p n P := ⟨h.len, h.u.below hb⟩
theorem Rp.nil (w : World) (p : Option Addr) : Rp w p 0 0 := ⟨[], U.nil, Pol.mk_nil⟩
/-- A polynomial as what a call returns. -/
def Rets (e : Ending) (w' : World) (P : Pol) (k : Nat) : Prop := ∃ p n c, e = .returned (.slice p n c) ∧ Sp w' p n P ∧ n ≤ k ∧ n ≤ c
theorem Ps.rets {v : Value} {w' : World} {P : Pol} {k : Nat} (h : Ps w' v P) (hk : P.len ≤ k) : Rets (.returned v) w' P k := by
  obtain ⟨p, c, rfl, hc, hU⟩ := h
  exact ⟨p, _, c, rfl, ⟨rfl, hU⟩, hk, hc⟩
theorem Rp.len {w : World} {p : Option Addr} {n : Nat} {P : Pol} (h : Rp w p n P) : P.len ≤ n := by
  obtain ⟨xs, h1, rfl⟩ := h.ex
  have := pol_len xs
  rwa [h1.len] at this

section
variable {p q : Option Addr} {n m : Nat} {A B : Pol} (c d : Nat) {w : World} (hA : Rp w p n A) (hB : Rp w q m B) (hn : n ≤ 100000) (hm : m ≤ 100000)
include hA hn
theorem Trim_p : Calls Try.prog 14 #[.slice p n c] w fun e w' => Rets e w' A n ∧ Below w.heap.size w w' := by
  have hl := hA.len
  obtain ⟨xs, h1, rfl⟩ := hA.ex
  exact (TrimG p n xs c w h1 (by omega)).mono fun _ _ ⟨v, he, hv, hb⟩ => ⟨he ▸ hv.rets hl, hb⟩
theorem rTrim_p : Calls Try.prog 15 #[.slice p n c] w fun e w' => Rets e w' A n ∧ Below w.heap.size w w' := by
  have hl := hA.len
  obtain ⟨xs, h1, rfl⟩ := hA.ex
  exact (rTrimG p n xs c w h1 (by omega)).mono fun _ _ ⟨v, he, hv, _, hb⟩ => ⟨he ▸ hv.rets hl, hb⟩
theorem Eval_p {x : Int} (hx0 : 0 ≤ x) (hx1 : x < 18446744073709551616) : Calls Try.prog 20 #[.slice p n c, .int .u64 x] w fun e w' => e = .returned (.int .u64 (V (A.at' (T x)))) ∧ Below w.heap.size w w' := by
  obtain ⟨xs, h1, rfl⟩ := hA.ex
  rw [at_pol]
  exact Eval_any p n xs c x w h1 (by omega) hx0 hx1
theorem rEval_p {x : Int} (hx0 : 0 ≤ x) (hx1 : x < 18446744073709551616) : Calls Try.prog 21 #[.slice p n c, .int .u64 x] w fun e w' => e = .returned (.int .u64 (V (A.at' (T x)))) ∧ Below w.heap.size w w' := by
  obtain ⟨xs, h1, rfl⟩ := hA.ex
  rw [at_pol]
  exact rEval_any p n xs c x w h1 (by omega) hx0 hx1
theorem rScale_p {y : Int} (hy0 : 0 ≤ y) (hy1 : y < 18446744073709551616) : Calls Try.prog 34 #[.slice p n c, .int .u64 y] w fun e w' => Rets e w' (Pol.con (T y) * A) n ∧ Below w.heap.size w w' := by
  have hl := hA.len
  obtain ⟨xs, h1, rfl⟩ := hA.ex
  exact (rScaleG p n xs c y w h1 (by omega) hy0 hy1).mono fun _ _ ⟨v, he, hv, hb⟩ => ⟨he ▸ hv.rets (by
    refine Nat.le_trans (Pol.len_le fun i hi => ?_) hl
    rw [Pol.coef_scale, Pol.coef_high hi, mul_zero']), hb⟩
include hB hm
theorem Add_p : Calls Try.prog 16 #[.slice p n c, .slice q m d] w fun e w' => Rets e w' (A + B) (n + m) ∧ Below w.heap.size w w' := by
  have hl := hA.len; have hl2 := hB.len
  obtain ⟨xs, h1, rfl⟩ := hA.ex
  obtain ⟨ys, h2, rfl⟩ := hB.ex
  exact (AddG p q n m xs ys c d w h1 h2 (by omega) (by omega)).mono fun _ _ ⟨v, he, hv, hb⟩ => ⟨he ▸ hv.rets (by have := Pol.len_add (pol xs) (pol ys); omega), hb⟩
theorem rAdd_p : Calls Try.prog 17 #[.slice p n c, .slice q m d] w fun e w' => Rets e w' (A + B) (n + m) ∧ Below w.heap.size w w' := by
  have hl := hA.len; have hl2 := hB.len
  obtain ⟨xs, h1, rfl⟩ := hA.ex
  obtain ⟨ys, h2, rfl⟩ := hB.ex
  exact (rAddG p q n m xs ys c d w h1 h2 (by omega) (by omega)).mono fun _ _ ⟨v, he, hv, hb⟩ => ⟨he ▸ hv.rets (by have := Pol.len_add (pol xs) (pol ys); omega), hb⟩
theorem Mul_p : Calls Try.prog 18 #[.slice p n c, .slice q m d] w fun e w' => Rets e w' (A * B) (n + m) ∧ Below w.heap.size w w' := by
  have hl := hA.len; have hl2 := hB.len
  obtain ⟨xs, h1, rfl⟩ := hA.ex
  obtain ⟨ys, h2, rfl⟩ := hB.ex
  exact (MulG p q n m xs ys c d w h1 h2 (by omega) (by omega)).mono fun _ _ ⟨v, he, hv, hb⟩ => ⟨he ▸ hv.rets (by have := len_mul_le (pol xs) (pol ys); omega), hb⟩
theorem rMul_p : Calls Try.prog 19 #[.slice p n c, .slice q m d] w fun e w' => Rets e w' (A * B) (n + m) ∧ Below w.heap.size w w' := by
  have hl := hA.len; have hl2 := hB.len
  obtain ⟨xs, h1, rfl⟩ := hA.ex
  obtain ⟨ys, h2, rfl⟩ := hB.ex
  exact (rMulG p q n m xs ys c d w h1 h2 (by omega) (by omega)).mono fun _ _ ⟨v, he, hv, hb⟩ => ⟨he ▸ hv.rets (by have := len_mul_le (pol xs) (pol ys); omega), hb⟩
/-- A quotient, and what is left, as what a call returns. -/
def Rets2 (e : Ending) (w' : World) (A B : Pol) (n m : Nat) : Prop := ∃ p1 n1 c1 p2 n2 c2 Q R, e = .returned (.tuple #[.slice p1 n1 c1, .slice p2 n2 c2]) ∧ Sp w' p1 n1 Q ∧ Sp w' p2 n2 R ∧ n1 ≤ n ∧ n2 ≤ m ∧ Hid (Pol.DivIs A B Q R)
theorem DivMod_p : Calls Try.prog 24 #[.slice p n c, .slice q m d] w fun e w' => Rets2 e w' A B n m ∧ Below w.heap.size w w' := by
  have hl := hA.len; have hl2 := hB.len
  obtain ⟨xs, h1, rfl⟩ := hA.ex
  obtain ⟨ys, h2, rfl⟩ := hB.ex
  refine (DivModG p q n m xs ys c d w h1 h2 (by omega) (by omega)).mono ?_
  rintro _ _ ⟨v1, v2, Q, R, he, ⟨⟨p1, c1, rfl, _, u1⟩, _⟩, ⟨⟨p2, c2, rfl, _, u2⟩, _⟩, hdv, hb⟩
  exact ⟨⟨p1, _, c1, p2, _, c2, Q, R, he, ⟨rfl, u1⟩, ⟨rfl, u2⟩, Nat.le_trans hdv.len_q hl, Nat.le_trans hdv.len_r hl2, Lib.hid hdv⟩, hb⟩
theorem rDivMod_p : Calls Try.prog 25 #[.slice p n c, .slice q m d] w fun e w' => Rets2 e w' A B n m ∧ Below w.heap.size w w' := by
  have hl := hA.len; have hl2 := hB.len
  obtain ⟨xs, h1, rfl⟩ := hA.ex
  obtain ⟨ys, h2, rfl⟩ := hB.ex
  refine (rDivMod_any p q n m xs ys c d w h1 h2 (by omega) (by omega)).mono ?_
  rintro _ _ ⟨v1, v2, Q, R, he, ⟨p1, c1, rfl, _, u1⟩, ⟨p2, c2, rfl, _, u2⟩, hdv, hb⟩
  exact ⟨⟨p1, _, c1, p2, _, c2, Q, R, he, ⟨rfl, u1⟩, ⟨rfl, u2⟩, Nat.le_trans hdv.len_q hl, Nat.le_trans hdv.len_r hl2, Lib.hid hdv⟩, hb⟩
def RetsG (e : Ending) (w' : World) (A B : Pol) (k : Nat) : Prop := ∃ p n c G, e = .returned (.slice p n c) ∧ Sp w' p n G ∧ (n ≤ k ∧ n ≤ c) ∧ Hid (Pol.GcdOk A B G)
theorem Gcd_p : Calls Try.prog 26 #[.slice p n c, .slice q m d] w fun e w' => RetsG e w' A B (n + m) ∧ Below w.heap.size w w' := by
  have hl := hA.len; have hl2 := hB.len
  obtain ⟨xs, h1, rfl⟩ := hA.ex
  obtain ⟨ys, h2, rfl⟩ := hB.ex
  refine (Gcd_any p q n m xs ys c d w h1 h2 (by omega) (by omega)).mono ?_
  rintro _ _ ⟨v, G, he, ⟨p1, c1, rfl, k1, u1⟩, _, hg, hb⟩
  exact ⟨⟨p1, _, c1, G, he, ⟨rfl, u1⟩, ⟨by have := hg.len; omega, k1⟩, Lib.hid hg⟩, hb⟩
theorem rGcd_p : Calls Try.prog 27 #[.slice p n c, .slice q m d] w fun e w' => RetsG e w' A B (n + m) ∧ Below w.heap.size w w' := by
  have hl := hA.len; have hl2 := hB.len
  obtain ⟨xs, h1, rfl⟩ := hA.ex
  obtain ⟨ys, h2, rfl⟩ := hB.ex
  refine (rGcd_any p q n m xs ys c d w h1 h2 (by omega) (by omega)).mono ?_
  rintro _ _ ⟨v, G, he, ⟨p1, c1, rfl, k1, u1⟩, hg, hb⟩
  exact ⟨⟨p1, _, c1, G, he, ⟨rfl, u1⟩, ⟨by have := hg.len; omega, k1⟩, Lib.hid hg⟩, hb⟩
end
/-- Polynomials that are the same. -/
theorem Same_p {p q : Option Addr} {n m : Nat} {A B : Pol} (c d : Nat) {w : World} (hA : Sp w p n A) (hB : Sp w q m B) (he : A = B) (hn : n ≤ 1000000) :
    Calls Try.prog 13 #[.slice p n c, .slice q m d] w fun e w' => e = .returned (.bool true) ∧ Below w.heap.size w w' := by
  subst he
  have h1 := hA.len
  have h2 := hB.len
  have e : m = n := by omega
  subst e
  exact SameNums_yes p q m _ c d w hA.u hB.u (by omega)
/-- Roots as what a call returns. -/
def RetsR (B : Nat) (e : Ending) (w' : World) (P : Pol) (k : Nat) : Prop := ∃ p n c rs, e = .returned (.slice p n c) ∧ U w' p n (rs.map V) ∧ n ≤ k ∧ (n ≤ c ∧ Own w' B (.slice p n c) n (rs.map V)) ∧ Hid (RootsOk P rs)
theorem RootsOk.len {P : Pol} {rs : List F} (h : RootsOk P rs) : rs.length ≤ P.len := by
  by_cases hP : P = 0
  · rw [h.2.1 hP]; simp
  · exact Nat.le_of_lt (Pol.roots_lt hP h.1.nodup fun x hx => (h.2.2 hP x).1 hx)
theorem Roots_p {p : Option Addr} {n : Nat} {A : Pol} (c : Nat) {w : World} (hA : Rp w p n A) (hn : n ≤ 13) :
    Calls Try.prog 36 #[.slice p n c] w fun e w' => RetsR w.heap.size e w' A n ∧ Below w.heap.size w w' := by
  have hl := hA.len
  obtain ⟨xs, h1, rfl⟩ := hA.ex
  refine (Roots_any p n xs c w h1 hn).mono ?_
  rintro _ _ ⟨v, rs, he, ⟨p1, n1, c1, rfl, hc, u1⟩, ⟨hr, ho⟩, hb⟩
  have e1 := u1.len
  rw [List.length_map] at e1
  exact ⟨⟨p1, n1, c1, rs, he, u1, by have := hr.len; omega, ⟨hc, e1 ▸ ho⟩, Lib.hid hr⟩, hb⟩
theorem Of_p {p : Option Addr} {n : Nat} {xs : List Int} (c : Nat) {w : World} (hX : U w p n xs) (hn : n ≤ 100000) :
    Calls Try.prog 31 #[.slice p n c] w fun e w' => Rets e w' (Pol.prodL (xs.map T)) (n + 1) ∧ Below w.heap.size w w' :=
  (Of_any p n xs c w hX (by omega)).mono fun _ _ ⟨v, he, hv, hb⟩ => ⟨he ▸ hv.rets (by rw [Pol.len_prodL, List.length_map, hX.len]; omega), hb⟩
theorem rOf_p {p : Option Addr} {n : Nat} {xs : List Int} (c : Nat) {w : World} (hX : U w p n xs) (hn : n ≤ 100000) :
    Calls Try.prog 32 #[.slice p n c] w fun e w' => Rets e w' (Pol.prodL (xs.map T)) (n + 1) ∧ Below w.heap.size w w' :=
  (rOf_any p n xs c w hX (by omega)).mono fun _ _ ⟨v, he, hv, hb⟩ => ⟨he ▸ hv.rets (by rw [Pol.len_prodL, List.length_map, hX.len]; omega), hb⟩
/-- Numbers rising as what a call returns. -/
def RetsS (e : Ending) (w' : World) (fs : List F) (k : Nat) : Prop := ∃ p n c S, e = .returned (.slice p n c) ∧ U w' p n (S.map V) ∧ n ≤ k ∧ n ≤ c ∧ (p = none → c = 0) ∧ Hid (SortedOf fs S)
theorem Sorted_p {p : Option Addr} {n : Nat} {xs : List Int} (c : Nat) {w : World} (hX : U w p n xs) (hn : n ≤ 100000) :
    Calls Try.prog 37 #[.slice p n c] w fun e w' => RetsS e w' (xs.map T) n ∧ Below w.heap.size w w' := by
  refine (Sorted_any p n xs c w hX (by omega)).mono ?_
  rintro _ _ ⟨v, S, he, hown, hs, hb⟩
  obtain ⟨p1, c1, rfl, hc1, hU, hp⟩ := hown.u'
  have hl : S.length ≤ n := by
    have h : SortedSt (xs.map T) (xs.map T).length S := ⟨hs.1, fun x => by rw [List.take_length]; exact hs.2 x⟩
    have := h.len
    rwa [List.length_map, hX.len] at this
  exact ⟨⟨p1, _, c1, S, he, hU, hl, hc1, hp, Lib.hid hs⟩, hb⟩
/-- The first numbers as what a call returns. -/
def RetsN (e : Ending) (w' : World) (n k : Nat) (xs : List Int) : Prop := ∃ p m c, e = .returned (.slice p m c) ∧ U w' p m (xs.take m) ∧ m ≤ k ∧ m ≤ c ∧ (p = none → c = 0) ∧ Hid (m = min n k)
theorem few_p {p : Option Addr} {n : Nat} {xs : List Int} {c : Nat} {w : World} (hU : U w p n xs) (hc : n ≤ c) (hn : n ≤ 9223372036854775807) (hp : p = none → c = 0) :
    Calls Try.prog 12 #[.slice p n c] w fun e w' => RetsN e w' n 9 xs ∧ Below w.heap.size w w' := by
  refine (few_any p n xs c w hU hc hp hn).mono ?_
  rintro _ _ ⟨v, he, hown, hb⟩
  obtain ⟨p1, c1, rfl, hc1, hU, hp⟩ := hown.u'
  exact ⟨⟨p1, _, c1, he, hU, Nat.min_le_right _ _, hc1, hp, Lib.hid rfl⟩, hb⟩
theorem Nums_p (k : Nat) {most : Int} (hk : most = k) {p : Option Addr} {n : Nat} {xs : List Int} {c : Nat} {w : World} (hU : U w p n xs) (hc : n ≤ c) (hn : n ≤ 9223372036854775807) (hp : p = none → c = 0) (hm : k ≤ 1000000) :
    Calls Try.prog 23 #[.slice p n c, .int .i64 most] w fun e w' => RetsN e w' n k xs ∧ Below w.heap.size w w' := by
  refine (Nums_c k most hk p n xs c w hU hc hp hn hm).mono ?_
  rintro _ _ ⟨v, he, hown, hb⟩
  obtain ⟨p1, c1, rfl, hc1, hU, hp⟩ := hown.u'
  exact ⟨⟨p1, _, c1, he, hU, Nat.min_le_right _ _, hc1, hp, Lib.hid rfl⟩, hb⟩
end Go.Proofs.Ytokkjklggkoajaa
