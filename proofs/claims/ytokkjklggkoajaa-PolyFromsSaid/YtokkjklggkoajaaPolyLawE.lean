/-
  The walks of the statements on polynomials (5): the least polynomial with some values.
-/
import Derived.Test.YtokkjklggkoajaaPolyN
import Derived.Test.YtokkjklggkoajaaPolyLawD
namespace Go.Proofs.Ytokkjklggkoajaa
open Go.RowKit
attribute [local go_sem] T_V

set_option maxRecDepth 100000 in
set_option maxHeartbeats 4000000 in
theorem froms_walk (pa : Option Addr) (na : Nat) (xa : List Int) (ca : Nat) (pb : Option Addr) (nb : Nat) (xb : List Int) (cb : Nat) (pl : Option Addr) (nl : Nat) (xl : List Int) (cl : Nat) (w : World) (hA : U w pa na xa) (hcA : na ≤ ca) (hnA : na ≤ 9223372036854775807) (hpA : pa = none → ca = 0) (hB : U w pb nb xb) (hcB : nb ≤ cb) (hnB : nb ≤ 9223372036854775807) (hpB : pb = none → cb = 0) (hL : UI w pl nl xl) (_ : nl ≤ cl) (hnL : nl ≤ 9223372036854775807) (_ : pl = none → cl = 0) :
    Calls Try.prog 5 #[.slice pa na ca, .slice pb nb cb, .slice pl nl cl] w fun e w' => e = .returned (.bool true) ∧ Below w.heap.size w w' := by
  go_enter Try.func5, Try.ntmps5
  go_wp2_with fail
  refine (Nums_p 8 rfl hA hcA hnA hpA (by omega)).mono ?_
  rintro e w1 ⟨⟨p1, n1, c1, rfl, h1, l1, k1, q1, _⟩, hb1⟩
  replace hB := hB.below hb1
  replace hL := hL.below hb1
  have hb := hb1
  clear hb1
  generalize xa.take n1 = r1 at *
  go_wp2_with fail
  refine (Nums_p 8 rfl hB hcB hnB hpB (by omega)).mono ?_
  rintro e w2 ⟨⟨p2, n2, c2, rfl, h2, l2, k2, q2, _⟩, hb2⟩
  replace hL := hL.below hb2
  replace h1 := h1.below hb2
  replace hb := hb.trans (hb2.mono hb.size)
  clear hb2
  generalize xb.take n2 = r2 at *
  go_wp2_with fail
  refine (Small_c 8 8 rfl pl nl xl cl _ hL hnL (by omega)).mono ?_
  rintro e w3 ⟨v3, rfl, h3, hb3⟩
  replace h1 := h1.below hb3
  replace h2 := h2.below hb3
  replace hb := hb.trans (hb3.mono hb.size)
  clear hb3
  obtain ⟨p3, c3, rfl, k3, h3, q3⟩ := h3.u'
  have l3 : min nl 8 ≤ 8 := Nat.min_le_right _ _
  generalize min nl 8 = n3 at *
  generalize (xl.map small).take n3 = r3 at *
  go_wp2_with fail
  refine (From_b c1 c2 (Below.refl _ _) h1 h2 (by omega)).mono ?_
  rintro e w4 ⟨⟨p4, n4, c4, f4, rfl, h4, _, j4, i4⟩, hb4, _⟩
  replace h1 := h1.below hb4
  replace h2 := h2.below hb4
  replace h3 := h3.below hb4
  replace hb := hb.trans (hb4.mono hb.size)
  clear hb4
  go_wp2_with fail
  refine (rFrom_b c1 c2 (Below.refl _ _) h1 h2 (by omega)).mono ?_
  rintro e w5 ⟨⟨p5, n5, c5, f5, rfl, h5, _, j5, i5⟩, hb5, _⟩
  replace h1 := h1.below hb5
  replace h2 := h2.below hb5
  replace h3 := h3.below hb5
  replace h4 := h4.below hb5
  replace hb := hb.trans (hb5.mono hb.size)
  clear hb5
  have e1 := h1.len
  go_wp2_with fail
  refine (Same_f c4 c5 h4 h5 (i4.out.same i5.out) (by omega)).mono ?_
  rintro e w6 ⟨rfl, hb6⟩
  clear h4 h5
  replace h1 := h1.below hb6
  replace h2 := h2.below hb6
  replace h3 := h3.below hb6
  replace hb := hb.trans (hb6.mono hb.size)
  clear hb6
  clear e1 i4 i5 j4 j5
  go_wp2_with fail
  refine (Of_p c3 h3 (by omega)).mono ?_
  rintro e w7 ⟨⟨p6, n6, c6, rfl, h6, l6, _⟩, hb7⟩
  replace h1 := h1.below hb7
  replace h2 := h2.below hb7
  replace h3 := h3.below hb7
  replace hb := hb.trans (hb7.mono hb.size)
  clear hb7
  go_wp2_with fail
  refine (rOf_p c3 h3 (by omega)).mono ?_
  rintro e w8 ⟨⟨p7, n7, c7, rfl, h7, l7, _⟩, hb8⟩
  replace h1 := h1.below hb8
  replace h2 := h2.below hb8
  replace h3 := h3.below hb8
  replace h6 := h6.below hb8
  replace hb := hb.trans (hb8.mono hb.size)
  clear hb8
  go_wp2_with fail
  refine (Same_p _ _ h6 h7 (rfl) (by omega)).mono ?_
  rintro e w9 ⟨rfl, hb9⟩
  clear h6 h7
  replace h1 := h1.below hb9
  replace h2 := h2.below hb9
  replace h3 := h3.below hb9
  replace hb := hb.trans (hb9.mono hb.size)
  clear hb9
  go_wp2_with fail
  refine (Of_p c1 h1 (by omega)).mono ?_
  rintro e w10 ⟨⟨p8, n8, c8, rfl, h8, l8, _⟩, hb10⟩
  replace h1 := h1.below hb10
  replace h2 := h2.below hb10
  replace h3 := h3.below hb10
  replace hb := hb.trans (hb10.mono hb.size)
  clear hb10
  go_wp2_with fail
  refine (rOf_p c1 h1 (by omega)).mono ?_
  rintro e w11 ⟨⟨p9, n9, c9, rfl, h9, l9, _⟩, hb11⟩
  replace h1 := h1.below hb11
  replace h2 := h2.below hb11
  replace h3 := h3.below hb11
  replace h8 := h8.below hb11
  replace hb := hb.trans (hb11.mono hb.size)
  clear hb11
  go_wp2_with fail
  refine (Same_p _ _ h8 h9 (rfl) (by omega)).mono ?_
  rintro e w12 ⟨rfl, hb12⟩
  clear h8 h9
  replace h1 := h1.below hb12
  replace h2 := h2.below hb12
  replace h3 := h3.below hb12
  replace hb := hb.trans (hb12.mono hb.size)
  clear hb12
  obtain ⟨N, hmin, hN1, hN2⟩ : ∃ N : Nat, min (n3 : Int) (n2 : Int) = (N : Int) ∧ N ≤ n3 ∧ N ≤ n2 := ⟨min n3 n2, by omega, by omega, by omega⟩
  go_wp2_with fail
  have hX := h3.take (k := N) (by omega)
  have hY := h2.take (k := N) (by omega)
  have s1 := slice_to p3 n3 c3 N (by omega)
  have s2 := slice_to p2 n2 c2 N (by omega)
  have eX := Lib.hid hX.len
  go_region_held3 (fun W => Below w12.heap.size w12 W) (first | assumption | exact Below.drew (Below.refl _ _)) (first
    | (go_simp; go_at_call 29; refine (From_b c3 c2 (by assumption) hX hY (by omega)).mono ?_; rintro e wa ⟨⟨p10, n10, c10, f10, rfl, h10, _, j10, i10⟩, _, _⟩)
    | (go_at_call 30; refine (rFrom_b c3 c2 (by assumption) hX hY (by omega)).mono ?_; rintro e wb ⟨⟨p11, n11, c11, f11, rfl, h11, _, j11, i11⟩, hb11, _⟩)
    | (go_at_call 13; refine (Same_b c10 c11 (by assumption) (h10.below hb11) h11 (i10.out.same i11.out) (by have := eX.out; omega)).mono ?_; rintro e wc ⟨rfl, _⟩)
    | (go_at_call 22; refine (lives5_b (by assumption)).mono ?_; rintro e wd ⟨rfl, hbd⟩))
  go_wp2_with fail
  go_ret
  exact ⟨rfl, hb.trans (hbd.mono hb.size)⟩
end Go.Proofs.Ytokkjklggkoajaa
