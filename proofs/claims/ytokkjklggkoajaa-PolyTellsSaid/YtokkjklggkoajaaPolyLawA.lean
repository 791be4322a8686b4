/-
  The walks of the statements on polynomials (1): sum, product, value.
-/
import Derived.Test.YtokkjklggkoajaaPolyM
namespace Go.Proofs.Ytokkjklggkoajaa
open Go.RowKit
attribute [local go_sem] T_V

set_option maxRecDepth 100000 in
set_option maxHeartbeats 1000000 in
theorem tells_walk (pa : Option Addr) (na : Nat) (xa : List Int) (ca : Nat) (pb : Option Addr) (nb : Nat) (xb : List Int) (cb : Nat) (x : Int) (w : World) (hA : U w pa na xa) (hcA : na ≤ ca) (hnA : na ≤ 9223372036854775807) (hpA : pa = none → ca = 0) (hB : U w pb nb xb) (hcB : nb ≤ cb) (hnB : nb ≤ 9223372036854775807) (hpB : pb = none → cb = 0) (x0 : 0 ≤ x) (x1 : x < 18446744073709551616) :
    Calls Try.prog 3 #[.slice pa na ca, .slice pb nb cb, .int .u64 x] w fun e w' => e = .returned (.bool true) ∧ Below w.heap.size w w' := by
  go_enter Try.func3, Try.ntmps3
  go_wp2_with fail
  refine (few_p hA hcA hnA hpA).mono ?_
  rintro e w1 ⟨⟨p1, n1, c1, rfl, h1, l1, _, _, _⟩, hb1⟩
  replace hB := hB.below hb1
  have hb := hb1
  clear hb1
  replace h1 := h1.rp
  generalize pol (xa.take n1) = A at h1
  go_wp2_with fail
  refine (few_p hB hcB hnB hpB).mono ?_
  rintro e w2 ⟨⟨p2, n2, c2, rfl, h2, l2, _, _, _⟩, hb2⟩
  replace h1 := h1.below hb2
  replace hb := hb.trans (hb2.mono hb.size)
  clear hb2
  replace h2 := h2.rp
  generalize pol (xb.take n2) = B at h2
  go_wp2_with fail
  refine (Trim_p c1 h1 (by omega)).mono ?_
  rintro e w3 ⟨⟨p3, n3, c3, rfl, h3, l3, _⟩, hb3⟩
  replace h1 := h1.below hb3
  replace h2 := h2.below hb3
  replace hb := hb.trans (hb3.mono hb.size)
  clear hb3
  go_wp2_with fail
  refine (rTrim_p c1 h1 (by omega)).mono ?_
  rintro e w4 ⟨⟨p4, n4, c4, rfl, h4, l4, _⟩, hb4⟩
  replace h1 := h1.below hb4
  replace h2 := h2.below hb4
  replace h3 := h3.below hb4
  replace hb := hb.trans (hb4.mono hb.size)
  clear hb4
  go_wp2_with fail
  refine (Same_p _ _ h3 h4 (rfl) (by omega)).mono ?_
  rintro e w5 ⟨rfl, hb5⟩
  clear h3 h4
  replace h1 := h1.below hb5
  replace h2 := h2.below hb5
  replace hb := hb.trans (hb5.mono hb.size)
  clear hb5
  go_wp2_with fail
  refine (Add_p c1 c2 h1 h2 (by omega) (by omega)).mono ?_
  rintro e w6 ⟨⟨p5, n5, c5, rfl, h5, l5, _⟩, hb6⟩
  replace h1 := h1.below hb6
  replace h2 := h2.below hb6
  replace hb := hb.trans (hb6.mono hb.size)
  clear hb6
  go_wp2_with fail
  refine (rAdd_p c1 c2 h1 h2 (by omega) (by omega)).mono ?_
  rintro e w7 ⟨⟨p6, n6, c6, rfl, h6, l6, _⟩, hb7⟩
  replace h1 := h1.below hb7
  replace h2 := h2.below hb7
  replace h5 := h5.below hb7
  replace hb := hb.trans (hb7.mono hb.size)
  clear hb7
  go_wp2_with fail
  refine (Same_p _ _ h5 h6 (rfl) (by omega)).mono ?_
  rintro e w8 ⟨rfl, hb8⟩
  clear h5 h6
  replace h1 := h1.below hb8
  replace h2 := h2.below hb8
  replace hb := hb.trans (hb8.mono hb.size)
  clear hb8
  go_wp2_with fail
  refine (Mul_p c1 c2 h1 h2 (by omega) (by omega)).mono ?_
  rintro e w9 ⟨⟨p7, n7, c7, rfl, h7, l7, _⟩, hb9⟩
  replace h1 := h1.below hb9
  replace h2 := h2.below hb9
  replace hb := hb.trans (hb9.mono hb.size)
  clear hb9
  go_wp2_with fail
  refine (rMul_p c1 c2 h1 h2 (by omega) (by omega)).mono ?_
  rintro e w10 ⟨⟨p8, n8, c8, rfl, h8, l8, _⟩, hb10⟩
  replace h1 := h1.below hb10
  replace h2 := h2.below hb10
  replace h7 := h7.below hb10
  replace hb := hb.trans (hb10.mono hb.size)
  clear hb10
  go_wp2_with fail
  refine (Same_p _ _ h7 h8 (rfl) (by omega)).mono ?_
  rintro e w11 ⟨rfl, hb11⟩
  clear h7 h8
  replace h1 := h1.below hb11
  replace h2 := h2.below hb11
  replace hb := hb.trans (hb11.mono hb.size)
  clear hb11
  go_wp2_with fail
  refine (Eval_p c1 h1 (by omega) x0 x1).mono ?_
  rintro e w12 ⟨rfl, hb12⟩
  replace h1 := h1.below hb12
  replace h2 := h2.below hb12
  replace hb := hb.trans (hb12.mono hb.size)
  clear hb12
  go_wp2_with fail
  refine (rEval_p c1 h1 (by omega) x0 x1).mono ?_
  rintro e w13 ⟨rfl, hb13⟩
  replace h1 := h1.below hb13
  replace h2 := h2.below hb13
  replace hb := hb.trans (hb13.mono hb.size)
  clear hb13
  go_wp2_with fail
  refine (lives5 _).mono ?_
  rintro e w14 ⟨rfl, hb14⟩
  replace h1 := h1.below hb14
  replace h2 := h2.below hb14
  replace hb := hb.trans (hb14.mono hb.size)
  clear hb14
  go_wp2_with fail
  go_ret
  exact ⟨rfl, hb⟩
end Go.Proofs.Ytokkjklggkoajaa
