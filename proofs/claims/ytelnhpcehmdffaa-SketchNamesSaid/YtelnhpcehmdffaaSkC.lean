/-
  What the answered equations tell. Plain Lean.
-/
import Derived.Test.YtelnhpcehmdffaaSkB
namespace Go.Proofs.Ytelnhpcehmdffaa
open Pol

/-- The equations of two rows of values. -/
def eqns (a b : Nat → F) (one two : Nat) : Nat → Nat → F := fun k => eqn (a k) (b k) (ptF k) one two
/-- Two polynomials out of an answer, what divides both, and what is left of each. -/
structure Told (all one two : Nat) (a b : Nat → F) (l : Nat → F) (G P Q' : Pol) : Prop where
  sol : Sol all all (eqns a b one two) l
  gcd : GcdOk (mon l one) (mon (fun j => l (one + j)) two) G
  left : P * G = mon l one
  right : Q' * G = mon (fun j => l (one + j)) two
theorem Told.of {all one two : Nat} {a b l : Nat → F} {G P Q' R1 R2 : Pol} (hs : Sol all all (eqns a b one two) l) (hg : GcdOk (mon l one) (mon (fun j => l (one + j)) two) G) (hp : DivIs (mon l one) G P R1) (hq : DivIs (mon (fun j => l (one + j)) two) G Q' R2) : Told all one two a b l G P Q' :=
  have hG := hg.ne (.inl (mon_ne _ _))
  ⟨hs, hg, (hp.exact hG hg.left).2, (hq.exact hG hg.right).2⟩
section
variable {n : Nat} {d : Int} {a b : Nat → F} {X Y : List F} {all one two : Nat} {l : Nat → F} {G P Q' : Pol} (t : Told all one two a b l G P Q')
include t
theorem Told.g : G ≠ 0 := t.gcd.ne (.inl (mon_ne _ _))
theorem Told.gtop : G.top = 1 := (t.gcd.monic t.g)
theorem Told.p : P ≠ 0 := fun e => mon_ne l one (by rw [← t.left, e]; grind)
theorem Told.q : Q' ≠ 0 := fun e => mon_ne (fun j => l (one + j)) two (by rw [← t.right, e]; grind)
theorem Told.lens : P.len + G.len = one + 2 ∧ Q'.len + G.len = two + 2 ∧ 0 < G.len := by
  have h1 := len_mul t.p t.g
  have h2 := len_mul t.q t.g
  rw [t.left, mon_len] at h1
  rw [t.right, mon_len] at h2
  have := len_pos t.g; have := len_pos t.p; have := len_pos t.q
  omega
/-- Nothing divides both that are left. -/
theorem Told.coprime {U A B : Pol} (hP : P = A * U) (hQ : Q' = B * U) : U.len = 1 := by
  obtain ⟨w, hw⟩ := t.gcd.best (U * G) ⟨A, by rw [← t.left, hP]; grind⟩ ⟨B, by rw [← t.right, hQ]; grind⟩
  have e : w * U = 1 := mul_cancel t.g (by
    have : w * U * G = G := by rw [mul_assoc', ← hw]
    rw [this]; grind)
  have hU : U ≠ 0 := fun e' => one_ne_zero (by rw [← e, e']; grind)
  have hW : w ≠ 0 := fun e' => one_ne_zero (by rw [← e, e']; grind)
  have h1 := len_mul hW hU
  rw [e, len_one] at h1
  have := len_pos hU; have := len_pos hW
  omega
/-- Where two lists fit, they are what is left. -/
theorem Told.fit (h : Fits n d a b X Y) (g : Degs n d all one two) (hn : n ≤ 1000) (hb : ∀ i, i < n → b i ≠ 0) : P = prodL X ∧ Q' = prodL Y := by
  obtain ⟨g1, g2, g3⟩ := h.degs g
  have e : mon l one * prodL Y = mon (fun j => l (one + j)) two * prodL X := by
    refine same_of_monic (m := all) (by have := g.le; omega) (mon_ne _ _) (prodL_ne _) (mon_ne _ _) (prodL_ne _) (mon_top _ _) (top_prodL _) (mon_top _ _) (top_prodL _) ?_ ?_ fun k hk => ?_
    · rw [mon_len, mon_len, len_prodL, len_prodL]; omega
    · rw [mon_len, len_prodL]; have := g.sum; omega
    · have hkn : k < n := by have := g.le; omega
      have h1 := t.sol k hk
      rw [← g.sum] at h1
      have h2 := (eqn_dot _ _ _ _ _ _).1 h1
      have h3 := h.eqs k hkn
      have h0 := hb k hkn
      generalize (mon l one).at' (ptF k) = p at *
      generalize (mon (fun j => l (one + j)) two).at' (ptF k) = q at *
      generalize (prodL X).at' (ptF k) = x at *
      generalize (prodL Y).at' (ptF k) = y at *
      have hh : b k * (p * y - q * x) = 0 := by
        have : b k * (p * y - q * x) = (b k * p) * y - q * (b k * x) := by grind
        rw [this, h2, ← h3]; grind
      have := ((mul_eq_zero' _ _).1 hh).resolve_left h0
      grind
  rw [← t.left, ← t.right] at e
  have e2 : P * prodL Y = Q' * prodL X := mul_cancel t.g (by
    have c1 : P * prodL Y * G = P * G * prodL Y := by grind
    have c2 : Q' * prodL X * G = Q' * G * prodL X := by grind
    rw [c1, c2, e])
  have ev2 : ∀ x, P.at' x * (prodL Y).at' x = Q'.at' x * (prodL X).at' x := fun x => by rw [← at_mul, ← at_mul, e2]
  obtain ⟨U, hU⟩ := prodL_dvd h.ndX (P := P) fun x hx => by
    have h1 := ev2 x
    rw [(at_prodL x X).2 hx, mul_zero'] at h1
    exact ((mul_eq_zero' _ _).1 h1).resolve_right fun e' => h.disj x hx ((at_prodL x Y).1 e')
  obtain ⟨W, hW⟩ := prodL_dvd h.ndY (P := Q') fun y hy => by
    have h1 := ev2 y
    rw [(at_prodL y Y).2 hy, mul_zero'] at h1
    exact ((mul_eq_zero' _ _).1 h1.symm).resolve_right fun e' => h.disj y ((at_prodL y X).1 e') hy
  have eUW : U = W := mul_cancel (mul_ne_zero (prodL_ne X) (prodL_ne Y)) (by
    have c1 : U * (prodL X * prodL Y) = P * prodL Y := by rw [hU]; grind
    have c2 : W * (prodL X * prodL Y) = Q' * prodL X := by rw [hW]; grind
    rw [c1, c2, e2])
  have hUl := t.coprime (U := U) (A := prodL X) (B := prodL Y) (by rw [hU]; grind) (by rw [hW, eUW]; grind)
  have hUn : U ≠ 0 := fun e' => t.p (by rw [hU, e']; grind)
  have hUt : U.top = 1 := by
    have h1 := top_mul t.p t.g
    rw [t.left, mon_top, t.gtop, mul_one'] at h1
    have h2 := top_mul hUn (prodL_ne X)
    rw [← hU, top_prodL, mul_one'] at h2
    rw [← h2, ← h1]
  have hU1 : U = 1 := (mon_of (m := 0) hUl hUt).trans rfl
  exact ⟨by rw [hU, hU1]; grind, by rw [hW, ← eUW, hU1]; grind⟩
/-- The roots of what is left fit, if there are as many as may be, all are elements, and they fit at all points. -/
theorem Told.fits {rx ry : List F} (g : Degs n d all one two) (hx : RootsOk P rx) (hy : RootsOk Q' ry) (lx : rx.length + 1 = P.len) (ly : ry.length + 1 = Q'.len) (bx : ∀ x, x ∈ rx → 1 ≤ V x ∧ V x ≤ 1152921504606846976) (by_ : ∀ x, x ∈ ry → 1 ≤ V x ∧ V x ≤ 1152921504606846976)
    (he : ∀ k, k < n → a k * (prodL ry).at' (ptF k) = b k * (prodL rx).at' (ptF k)) : Fits n d a b rx ry := by
  obtain ⟨l1, l2, l3⟩ := t.lens
  refine ⟨hx.1.nodup, hy.1.nodup, fun x h1 h2 => ?_, bx, by_, by have := g.sum; have := g.le; omega, by have := g.diff; omega, he⟩
  obtain ⟨A, hA⟩ := (root_dvd P x).1 ((hx.2.2 t.p x).1 h1)
  obtain ⟨B, hB⟩ := (root_dvd Q' x).1 ((hy.2.2 t.q x).1 h2)
  have := t.coprime hA hB
  rw [len_lin] at this
  omega
end
theorem prodL_perm {L M : List F} (h : L.Perm M) : prodL L = prodL M := by
  induction h with
  | nil => rfl
  | cons x _ ih => rw [prodL, prodL, ih]
  | swap x y l => rw [prodL, prodL, prodL, prodL]; grind
  | trans _ _ ih1 ih2 => rw [ih1, ih2]
theorem roots_perm {X rx : List F} (hd : X.Nodup) (hr : RootsOk (prodL X) rx) : rx.Perm X :=
  (List.perm_ext_iff_of_nodup hr.1.nodup hd).2 fun x => by rw [hr.2.2 (prodL_ne X), at_prodL]
/-- What Diff answers. -/
def DiffIs (n : Nat) (d : Int) (a b : Nat → F) (ok : Bool) (X Y : List F) : Prop := (ok = true ∧ Fits n d a b X Y ∧ Rise X ∧ Rise Y) ∨ (ok = false ∧ ∀ X Y, ¬ Fits n d a b X Y)
theorem DiffIs.short {n : Nat} {d : Int} {a b : Nat → F} (h : (n : Int) - 2 < d ∨ (n : Int) - 2 < -d) (X Y : List F) : ¬ Fits n d a b X Y := fun k => by
  have := k.few; have := k.diff
  omega
theorem DiffIs.none {n : Nat} {d : Int} {a b : Nat → F} {all one two : Nat} (g : Degs n d all one two) (h : ∀ l, ¬ Sol all all (eqns a b one two) l) (X Y : List F) : ¬ Fits n d a b X Y := fun k => by
  obtain ⟨l, hl⟩ := k.solved g
  exact h l hl
/-- What the roots of what is left tell of lists that fit. -/
theorem Told.roots {n : Nat} {d : Int} {a b : Nat → F} {X Y : List F} {all one two : Nat} {l : Nat → F} {G P Q' : Pol} (t : Told all one two a b l G P Q') (h : Fits n d a b X Y) (g : Degs n d all one two) (hn : n ≤ 1000) (hb : ∀ i, i < n → b i ≠ 0) {rx ry : List F} (hx : RootsOk P rx) (hy : RootsOk Q' ry) :
    (rx.length + 1 = P.len ∧ ∀ x, x ∈ rx → 1 ≤ V x ∧ V x ≤ 1152921504606846976) ∧ (ry.length + 1 = Q'.len ∧ ∀ x, x ∈ ry → 1 ≤ V x ∧ V x ≤ 1152921504606846976) ∧ ∀ k, k < n → a k * (prodL ry).at' (ptF k) = b k * (prodL rx).at' (ptF k) := by
  obtain ⟨e1, e2⟩ := t.fit h g hn hb
  subst e1
  subst e2
  have p1 := roots_perm h.ndX hx
  have p2 := roots_perm h.ndY hy
  refine ⟨⟨by rw [len_prodL, p1.length_eq], fun x m => h.rX x (p1.mem_iff.1 m)⟩, ⟨by rw [len_prodL, p2.length_eq], fun x m => h.rY x (p2.mem_iff.1 m)⟩, fun k hk => ?_⟩
  rw [prodL_perm p1, prodL_perm p2]
  exact h.eqs k hk
end Go.Proofs.Ytelnhpcehmdffaa
