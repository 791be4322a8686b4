/-
  The walks of the statements on polynomials (2): a ring, and its values.
-/
import Derived.Test.YtokkjklggkoajaaPolyM
namespace Go.Proofs.Ytokkjklggkoajaa
open Go.RowKit
attribute [local go_sem] T_V

theorem mul_pol_one (A : Pol) : A * pol [1] = A := by
  have e : pol [1] = 1 := by unfold pol; rw [List.map_cons, List.map_nil, T_one]; rfl
  rw [e]; grind

set_option maxRecDepth 100000 in
set_option maxHeartbeats 1000000 in
theorem ring_walk (pa : Option Addr) (na : Nat) (xa : List Int) (ca : Nat) (pb : Option Addr) (nb : Nat) (xb : List Int) (cb : Nat) (pc : Option Addr) (nc : Nat) (xc : List Int) (cc : Nat) (x : Int) (w : World) (hA : U w pa na xa) (hcA : na ≤ ca) (hnA : na ≤ 9223372036854775807) (hpA : pa = none → ca = 0) (hB : U w pb nb xb) (hcB : nb ≤ cb) (hnB : nb ≤ 9223372036854775807) (hpB : pb = none → cb = 0) (hC : U w pc nc xc) (hcC : nc ≤ cc) (hnC : nc ≤ 9223372036854775807) (hpC : pc = none → cc = 0) (x0 : 0 ≤ x) (x1 : x < 18446744073709551616) :
    Calls Try.prog 7 #[.slice pa na ca, .slice pb nb cb, .slice pc nc cc, .int .u64 x] w fun e w' => e = .returned (.bool true) ∧ Below w.heap.size w w' := by
  go_enter Try.func7, Try.ntmps7
  go_wp2_with fail
  refine (Nums_p 5 rfl hA hcA hnA hpA (by omega)).mono ?_
  rintro e w1 ⟨⟨p1, n1, c1, rfl, h1, l1, _, _, _⟩, hb1⟩
  replace hB := hB.below hb1
  replace hC := hC.below hb1
  have hb := hb1
  clear hb1
  replace h1 := h1.rp
  generalize pol (xa.take n1) = A at h1
  go_wp2_with fail
  refine (Nums_p 5 rfl hB hcB hnB hpB (by omega)).mono ?_
  rintro e w2 ⟨⟨p2, n2, c2, rfl, h2, l2, _, _, _⟩, hb2⟩
  replace hC := hC.below hb2
  replace h1 := h1.below hb2
  replace hb := hb.trans (hb2.mono hb.size)
  clear hb2
  replace h2 := h2.rp
  generalize pol (xb.take n2) = B at h2
  go_wp2_with fail
  refine (Nums_p 5 rfl hC hcC hnC hpC (by omega)).mono ?_
  rintro e w3 ⟨⟨p3, n3, c3, rfl, h3, l3, _, _, _⟩, hb3⟩
  replace h1 := h1.below hb3
  replace h2 := h2.below hb3
  replace hb := hb.trans (hb3.mono hb.size)
  clear hb3
  replace h3 := h3.rp
  generalize pol (xc.take n3) = C at h3
  go_wp2_with fail
  refine (Add_p c1 c2 h1 h2 (by omega) (by omega)).mono ?_
  rintro e w4 ⟨⟨p4, n4, c4, rfl, h4, l4, _⟩, hb4⟩
  replace h1 := h1.below hb4
  replace h2 := h2.below hb4
  replace h3 := h3.below hb4
  replace hb := hb.trans (hb4.mono hb.size)
  clear hb4
  go_wp2_with fail
  refine (Eval_p c4 h4.rp (by omega) x0 x1).mono ?_
  rintro e w5 ⟨rfl, hb5⟩
  replace h1 := h1.below hb5
  replace h2 := h2.below hb5
  replace h3 := h3.below hb5
  replace h4 := h4.below hb5
  replace hb := hb.trans (hb5.mono hb.size)
  clear hb5
  rw [Pol.at_add]
  go_wp2_with fail
  refine (Eval_p c1 h1 (by omega) x0 x1).mono ?_
  rintro e w6 ⟨rfl, hb6⟩
  replace h1 := h1.below hb6
  replace h2 := h2.below hb6
  replace h3 := h3.below hb6
  replace h4 := h4.below hb6
  replace hb := hb.trans (hb6.mono hb.size)
  clear hb6
  go_wp2_with fail
  refine (Eval_p c2 h2 (by omega) x0 x1).mono ?_
  rintro e w7 ⟨rfl, hb7⟩
  replace h1 := h1.below hb7
  replace h2 := h2.below hb7
  replace h3 := h3.below hb7
  replace h4 := h4.below hb7
  replace hb := hb.trans (hb7.mono hb.size)
  clear hb7
  go_wp2_with fail
  refine (add_any _ _ _ (V_lo _) (V_64 _) (V_lo _) (V_64 _)).mono ?_
  rintro e _ ⟨rfl, rfl⟩
  rw [T_V, T_V]
  go_wp2_with fail
  refine (Mul_p c1 c2 h1 h2 (by omega) (by omega)).mono ?_
  rintro e w9 ⟨⟨p5, n5, c5, rfl, h5, l5, _⟩, hb9⟩
  replace h1 := h1.below hb9
  replace h2 := h2.below hb9
  replace h3 := h3.below hb9
  replace h4 := h4.below hb9
  replace hb := hb.trans (hb9.mono hb.size)
  clear hb9
  go_wp2_with fail
  refine (Eval_p c5 h5.rp (by omega) x0 x1).mono ?_
  rintro e w10 ⟨rfl, hb10⟩
  replace h1 := h1.below hb10
  replace h2 := h2.below hb10
  replace h3 := h3.below hb10
  replace h4 := h4.below hb10
  replace h5 := h5.below hb10
  replace hb := hb.trans (hb10.mono hb.size)
  clear hb10
  rw [Pol.at_mul]
  go_wp2_with fail
  refine (Eval_p c1 h1 (by omega) x0 x1).mono ?_
  rintro e w11 ⟨rfl, hb11⟩
  replace h1 := h1.below hb11
  replace h2 := h2.below hb11
  replace h3 := h3.below hb11
  replace h4 := h4.below hb11
  replace h5 := h5.below hb11
  replace hb := hb.trans (hb11.mono hb.size)
  clear hb11
  go_wp2_with fail
  refine (Eval_p c2 h2 (by omega) x0 x1).mono ?_
  rintro e w12 ⟨rfl, hb12⟩
  replace h1 := h1.below hb12
  replace h2 := h2.below hb12
  replace h3 := h3.below hb12
  replace h4 := h4.below hb12
  replace h5 := h5.below hb12
  replace hb := hb.trans (hb12.mono hb.size)
  clear hb12
  go_wp2_with fail
  refine (mul_any _ _ _ (V_lo _) (V_64 _) (V_lo _) (V_64 _)).mono ?_
  rintro e _ ⟨rfl, rfl⟩
  rw [T_V, T_V]
  clear h4 h5
  go_wp2_with fail
  refine (Mul_p c1 c2 h1 h2 (by omega) (by omega)).mono ?_
  rintro e w14 ⟨⟨p6, n6, c6, rfl, h6, l6, _⟩, hb14⟩
  replace h1 := h1.below hb14
  replace h2 := h2.below hb14
  replace h3 := h3.below hb14
  replace hb := hb.trans (hb14.mono hb.size)
  clear hb14
  go_wp2_with fail
  refine (Mul_p c2 c1 h2 h1 (by omega) (by omega)).mono ?_
  rintro e w15 ⟨⟨p7, n7, c7, rfl, h7, l7, _⟩, hb15⟩
  replace h1 := h1.below hb15
  replace h2 := h2.below hb15
  replace h3 := h3.below hb15
  replace h6 := h6.below hb15
  replace hb := hb.trans (hb15.mono hb.size)
  clear hb15
  go_wp2_with fail
  refine (Same_p _ _ h6 h7 (Pol.mul_comm' A B) (by omega)).mono ?_
  rintro e w16 ⟨rfl, hb16⟩
  clear h6 h7
  replace h1 := h1.below hb16
  replace h2 := h2.below hb16
  replace h3 := h3.below hb16
  replace hb := hb.trans (hb16.mono hb.size)
  clear hb16
  go_wp2_with fail
  refine (Add_p c2 c3 h2 h3 (by omega) (by omega)).mono ?_
  rintro e w17 ⟨⟨p8, n8, c8, rfl, h8, l8, _⟩, hb17⟩
  replace h1 := h1.below hb17
  replace h2 := h2.below hb17
  replace h3 := h3.below hb17
  replace hb := hb.trans (hb17.mono hb.size)
  clear hb17
  go_wp2_with fail
  refine (Mul_p c1 c8 h1 h8.rp (by omega) (by omega)).mono ?_
  rintro e w18 ⟨⟨p9, n9, c9, rfl, h9, l9, _⟩, hb18⟩
  replace h1 := h1.below hb18
  replace h2 := h2.below hb18
  replace h3 := h3.below hb18
  replace h8 := h8.below hb18
  replace hb := hb.trans (hb18.mono hb.size)
  clear hb18
  go_wp2_with fail
  refine (Mul_p c1 c2 h1 h2 (by omega) (by omega)).mono ?_
  rintro e w19 ⟨⟨p10, n10, c10, rfl, h10, l10, _⟩, hb19⟩
  replace h1 := h1.below hb19
  replace h2 := h2.below hb19
  replace h3 := h3.below hb19
  replace h8 := h8.below hb19
  replace h9 := h9.below hb19
  replace hb := hb.trans (hb19.mono hb.size)
  clear hb19
  go_wp2_with fail
  refine (Mul_p c1 c3 h1 h3 (by omega) (by omega)).mono ?_
  rintro e w20 ⟨⟨p11, n11, c11, rfl, h11, l11, _⟩, hb20⟩
  replace h1 := h1.below hb20
  replace h2 := h2.below hb20
  replace h3 := h3.below hb20
  replace h8 := h8.below hb20
  replace h9 := h9.below hb20
  replace h10 := h10.below hb20
  replace hb := hb.trans (hb20.mono hb.size)
  clear hb20
  go_wp2_with fail
  refine (Add_p c10 c11 h10.rp h11.rp (by omega) (by omega)).mono ?_
  rintro e w21 ⟨⟨p12, n12, c12, rfl, h12, l12, _⟩, hb21⟩
  replace h1 := h1.below hb21
  replace h2 := h2.below hb21
  replace h3 := h3.below hb21
  replace h8 := h8.below hb21
  replace h9 := h9.below hb21
  replace h10 := h10.below hb21
  replace h11 := h11.below hb21
  replace hb := hb.trans (hb21.mono hb.size)
  clear hb21
  go_wp2_with fail
  refine (Same_p _ _ h9 h12 (by grind) (by omega)).mono ?_
  rintro e w22 ⟨rfl, hb22⟩
  clear h8 h9 h10 h11 h12
  replace h1 := h1.below hb22
  replace h2 := h2.below hb22
  replace h3 := h3.below hb22
  replace hb := hb.trans (hb22.mono hb.size)
  clear hb22
  have hS := U_lit w22 23 [1] #[.int .u64 1] 1 rfl rfl (by decide)
  have hbl := Below.lit w22 (.cells #[.int .u64 1] 23)
  replace h1 := h1.below hbl
  replace h2 := h2.below hbl
  replace h3 := h3.below hbl
  replace hb := hb.trans (hbl.mono hb.size)
  clear hbl
  go_wp2_with fail
  refine (Mul_p c1 1 h1 hS.rp (by omega) (by omega)).mono ?_
  rintro e w23 ⟨⟨p13, n13, c13, rfl, h13, l13, _⟩, hb23⟩
  replace h1 := h1.below hb23
  replace h2 := h2.below hb23
  replace h3 := h3.below hb23
  replace hS := hS.below hb23
  replace hb := hb.trans (hb23.mono hb.size)
  clear hb23
  go_wp2_with fail
  refine (Trim_p c1 h1 (by omega)).mono ?_
  rintro e w24 ⟨⟨p14, n14, c14, rfl, h14, l14, _⟩, hb24⟩
  replace h1 := h1.below hb24
  replace h2 := h2.below hb24
  replace h3 := h3.below hb24
  replace hS := hS.below hb24
  replace h13 := h13.below hb24
  replace hb := hb.trans (hb24.mono hb.size)
  clear hb24
  go_wp2_with fail
  refine (Same_p _ _ h13 h14 (mul_pol_one A) (by omega)).mono ?_
  rintro e w25 ⟨rfl, hb25⟩
  clear h13 h14 hS
  replace h1 := h1.below hb25
  replace h2 := h2.below hb25
  replace h3 := h3.below hb25
  replace hb := hb.trans (hb25.mono hb.size)
  clear hb25
  go_wp2_with fail
  refine (Mul_p c1 0 h1 (Rp.nil _ none) (by omega) (by omega)).mono ?_
  rintro e w26 ⟨⟨p15, n15, c15, rfl, h15, l15, _⟩, hb26⟩
  replace h1 := h1.below hb26
  replace h2 := h2.below hb26
  replace h3 := h3.below hb26
  replace hb := hb.trans (hb26.mono hb.size)
  clear hb26
  obtain rfl : n15 = 0 := by
    have h := h15.len
    rw [show A * 0 = 0 by grind, Pol.len_zero] at h
    exact h.symm
  go_wp2_with fail
  refine (lives5 _).mono ?_
  rintro e w27 ⟨rfl, hb27⟩
  replace h1 := h1.below hb27
  replace h2 := h2.below hb27
  replace h3 := h3.below hb27
  replace h15 := h15.below hb27
  replace hb := hb.trans (hb27.mono hb.size)
  clear hb27
  go_wp2_with fail
  go_ret
  exact ⟨rfl, hb⟩
end Go.Proofs.Ytokkjklggkoajaa
