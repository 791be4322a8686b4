/-
  The walks of the statements on polynomials (3): Euclid.
-/
import Derived.Test.YtokkjklggkoajaaPol7
namespace Go.Proofs.Ytokkjklggkoajaa
open Go.RowKit
attribute [local go_sem] T_V

set_option maxRecDepth 100000 in
set_option maxHeartbeats 4000000 in
theorem euclid_walk (pa : Option Addr) (na : Nat) (xa : List Int) (ca : Nat) (pb : Option Addr) (nb : Nat) (xb : List Int) (cb : Nat) (pc : Option Addr) (nc : Nat) (xc : List Int) (cc : Nat) (w : World) (hA : U w pa na xa) (hcA : na ≤ ca) (hnA : na ≤ 9223372036854775807) (hpA : pa = none → ca = 0) (hB : U w pb nb xb) (hcB : nb ≤ cb) (hnB : nb ≤ 9223372036854775807) (hpB : pb = none → cb = 0) (hC : U w pc nc xc) (hcC : nc ≤ cc) (hnC : nc ≤ 9223372036854775807) (hpC : pc = none → cc = 0) :
    Calls Try.prog 8 #[.slice pa na ca, .slice pb nb cb, .slice pc nc cc] w fun e w' => e = .returned (.bool true) ∧ Below w.heap.size w w' := by
  go_enter Try.func8, Try.ntmps8
  go_wp2_with fail
  refine (Nums_p 3 rfl hC hcC hnC hpC (by omega)).mono ?_
  rintro e w1 ⟨⟨p1, n1, c1, rfl, h1, l1, _, _, _⟩, hb1⟩
  replace hA := hA.below hb1
  replace hB := hB.below hb1
  have hb := hb1
  clear hb1
  replace h1 := h1.rp
  generalize pol (xc.take n1) = C at h1
  go_wp2_with fail
  refine (Trim_p c1 h1 (by omega)).mono ?_
  rintro e w2 ⟨⟨p2, n2, c2, rfl, h2, l2, _⟩, hb2⟩
  clear h1
  replace hA := hA.below hb2
  replace hB := hB.below hb2
  replace hb := hb.trans (hb2.mono hb.size)
  clear hb2
  go_wp2_with fail
  refine (Nums_p 6 rfl hA hcA hnA hpA (by omega)).mono ?_
  rintro e w3 ⟨⟨p3, n3, c3, rfl, h3, l3, _, _, _⟩, hb3⟩
  replace hB := hB.below hb3
  replace h2 := h2.below hb3
  replace hb := hb.trans (hb3.mono hb.size)
  clear hb3
  replace h3 := h3.rp
  generalize pol (xa.take n3) = A at h3
  go_wp2_with fail
  refine (Mul_p c3 c2 h3 h2.rp (by omega) (by omega)).mono ?_
  rintro e w4 ⟨⟨p4, n4, c4, rfl, h4, l4, _⟩, hb4⟩
  clear h3
  replace hB := hB.below hb4
  replace h2 := h2.below hb4
  replace hb := hb.trans (hb4.mono hb.size)
  clear hb4
  go_wp2_with fail
  refine (Nums_p 6 rfl hB hcB hnB hpB (by omega)).mono ?_
  rintro e w5 ⟨⟨p5, n5, c5, rfl, h5, l5, _, _, _⟩, hb5⟩
  replace h2 := h2.below hb5
  replace h4 := h4.below hb5
  replace hb := hb.trans (hb5.mono hb.size)
  clear hb5
  replace h5 := h5.rp
  generalize pol (xb.take n5) = B at h5
  go_wp2_with fail
  refine (Mul_p c5 c2 h5 h2.rp (by omega) (by omega)).mono ?_
  rintro e w6 ⟨⟨p6, n6, c6, rfl, h6, l6, _⟩, hb6⟩
  clear h5
  replace h2 := h2.below hb6
  replace h4 := h4.below hb6
  replace hb := hb.trans (hb6.mono hb.size)
  clear hb6
  have hPC := Lib.hid (Pol.dvd_mul A C)
  have hQC := Lib.hid (Pol.dvd_mul B C)
  generalize hPe : A * C = P at *
  generalize hQe : B * C = Q at *
  have hC0 : Hid (C = 0 → P = 0 ∧ Q = 0) := Lib.hid fun e => by
    subst e
    exact ⟨by rw [← hPe]; grind, by rw [← hQe]; grind⟩
  clear hPe hQe
  go_wp2_with fail
  refine (Gcd_p c4 c6 h4.rp h6.rp (by omega) (by omega)).mono ?_
  rintro e w7 ⟨⟨p7, n7, c7, G, rfl, h7, l7, hG⟩, hb7⟩
  replace h2 := h2.below hb7
  replace h4 := h4.below hb7
  replace h6 := h6.below hb7
  replace hb := hb.trans (hb7.mono hb.size)
  clear hb7
  by_cases hz : n4 = 0 ∧ n6 = 0
  · obtain ⟨rfl, rfl⟩ := hz
    obtain rfl : n7 = 0 := by
      have h := hG.out
      rw [Pol.eq_zero_of_len h4.len, Pol.eq_zero_of_len h6.len] at h
      rw [← h7.len, h.zero, Pol.len_zero]
    go_wp2_with fail
    refine (lives5 _).mono ?_
    rintro e w8 ⟨rfl, hb8⟩
    replace hb := hb.trans (hb8.mono hb.size)
    clear hb8
    go_wp2_with fail
    go_ret
    exact ⟨rfl, hb⟩
  · have hPQ : P ≠ 0 ∨ Q ≠ 0 := by
      by_cases h0 : n4 = 0
      · exact .inr (Pol.ne_of_len h6.len fun e => hz ⟨h0, e⟩)
      · exact .inl (Pol.ne_of_len h4.len h0)
    have hG0 := Lib.hid (hG.out.ne hPQ)
    have hCn : Hid (C ≠ 0) := Lib.hid fun e => by
      have h := hC0.out e
      rcases hPQ with k | k
      · exact k h.1
      · exact k h.2
    have hGm : Hid (V G.top = 1) := Lib.hid (by rw [hG.out.monic hG0.out]; rfl)
    have n70 : n7 ≠ 0 := Pol.len_ne h7.len hG0.out
    have t7 : ((n7 : Int) == 0) = false := by rw [beq_eq_false_iff_ne]; omega
    have hn7 : 0 < n7 := by omega
    have hcase : (((n4 : Int) == 0) = true ∧ ((n6 : Int) == 0) = false) ∨ ((n4 : Int) == 0) = false := by
      by_cases h0 : n4 = 0
      · refine .inl ⟨by rw [beq_iff_eq]; omega, ?_⟩
        rw [beq_eq_false_iff_ne]
        intro e
        exact hz ⟨h0, by omega⟩
      · exact .inr (by rw [beq_eq_false_iff_ne]; omega)
    clear hz hPQ hC0 n70
    rcases hcase with ⟨t4, t6⟩ | t4
    all_goals
      go_wp2_with fail
      refine (DivMod_p c4 c7 h4.rp h7.rp (by omega) (by omega)).mono ?_
      rintro e w8 ⟨⟨p8, n8, c8, p9, n9, c9, X, R1, rfl, h8, h9, l8, l9, hd1⟩, hb8⟩
      replace h2 := h2.below hb8
      replace h4 := h4.below hb8
      replace h6 := h6.below hb8
      replace h7 := h7.below hb8
      replace hb := hb.trans (hb8.mono hb.size)
      clear hb8
      have e1 := Lib.hid (hd1.out.exact hG0.out hG.out.left)
      obtain rfl : n9 = 0 := by rw [← h9.len, e1.out.1, Pol.len_zero]
      go_wp2_with fail
      refine (DivMod_p c6 c7 h6.rp h7.rp (by omega) (by omega)).mono ?_
      rintro e w9 ⟨⟨p10, n10, c10, p11, n11, c11, Y, R2, rfl, h10, h11, l10, l11, hd2⟩, hb9⟩
      replace h2 := h2.below hb9
      replace h4 := h4.below hb9
      replace h6 := h6.below hb9
      replace h7 := h7.below hb9
      replace h8 := h8.below hb9
      replace h9 := h9.below hb9
      replace hb := hb.trans (hb9.mono hb.size)
      clear hb9
      have e2 := Lib.hid (hd2.out.exact hG0.out hG.out.right)
      obtain rfl : n11 = 0 := by rw [← h11.len, e2.out.1, Pol.len_zero]
      go_wp2_with fail
      refine (DivMod_p c7 c2 h7.rp h2.rp (by omega) (by omega)).mono ?_
      rintro e w10 ⟨⟨p12, n12, c12, p13, n13, c13, Z, R3, rfl, h12, h13, l12, l13, hd3⟩, hb10⟩
      replace h2 := h2.below hb10
      replace h4 := h4.below hb10
      replace h6 := h6.below hb10
      replace h7 := h7.below hb10
      replace h8 := h8.below hb10
      replace h9 := h9.below hb10
      replace h10 := h10.below hb10
      replace h11 := h11.below hb10
      replace hb := hb.trans (hb10.mono hb.size)
      clear hb10
      have e3 := Lib.hid (hd3.out.exact hCn.out (hG.out.best _ hPC.out hQC.out))
      obtain rfl : n13 = 0 := by rw [← h13.len, e3.out.1, Pol.len_zero]
      clear h9 h11 h12 h13 hd1 hd2 hd3 e3 h2
      obtain ⟨bg, og, rfl, hcg⟩ := h7.top hn7
      rw [hGm.out] at hcg
      by_cases h60 : 0 < n6
      · have hQ0 := Lib.hid (Pol.ne_of_len h6.len (by omega))
        go_wp2_with fail
        refine (DivMod_p c4 c6 h4.rp h6.rp (by omega) (by omega)).mono ?_
        rintro e w11 ⟨⟨p14, n14, c14, p15, n15, c15, U, R4, rfl, h14, h15, l14, l15, hd4⟩, hb11⟩
        replace h4 := h4.below hb11
        replace h6 := h6.below hb11
        replace h7 := h7.below hb11
        replace h8 := h8.below hb11
        replace h10 := h10.below hb11
        replace hb := hb.trans (hb11.mono hb.size)
        clear hb11
        clear hcg
        have e4 := Lib.hid (hd4.out.back hQ0.out)
        have hless : n15 < n6 := by rw [← h15.len, ← h6.len]; exact e4.out.2
        go_wp2_with fail
        refine (Mul_p c14 c6 h14.rp h6.rp (by omega) (by omega)).mono ?_
        rintro e w12 ⟨⟨p16, n16, c16, rfl, h16, l16, _⟩, hb12⟩
        replace h4 := h4.below hb12
        replace h6 := h6.below hb12
        replace h7 := h7.below hb12
        replace h8 := h8.below hb12
        replace h10 := h10.below hb12
        replace h14 := h14.below hb12
        replace h15 := h15.below hb12
        replace hb := hb.trans (hb12.mono hb.size)
        clear hb12
        go_wp2_with fail
        refine (Add_p c16 c15 h16.rp h15.rp (by omega) (by omega)).mono ?_
        rintro e w13 ⟨⟨p17, n17, c17, rfl, h17, l17, _⟩, hb13⟩
        replace h4 := h4.below hb13
        replace h6 := h6.below hb13
        replace h7 := h7.below hb13
        replace h8 := h8.below hb13
        replace h10 := h10.below hb13
        replace h14 := h14.below hb13
        replace h15 := h15.below hb13
        replace h16 := h16.below hb13
        replace hb := hb.trans (hb13.mono hb.size)
        clear hb13
        go_wp2_with fail
        refine (Same_p _ _ h17 h4 (e4.out.1) (by omega)).mono ?_
        rintro e w14 ⟨rfl, hb14⟩
        clear h14 h15 h16 h17
        replace h4 := h4.below hb14
        replace h6 := h6.below hb14
        replace h7 := h7.below hb14
        replace h8 := h8.below hb14
        replace h10 := h10.below hb14
        replace hb := hb.trans (hb14.mono hb.size)
        clear hb14
        go_wp2_with fail
        refine (Mul_p c8 c7 h8.rp h7.rp (by omega) (by omega)).mono ?_
        rintro e w15 ⟨⟨p18, n18, c18, rfl, h18, l18, _⟩, hb15⟩
        replace h4 := h4.below hb15
        replace h6 := h6.below hb15
        replace h7 := h7.below hb15
        replace h8 := h8.below hb15
        replace h10 := h10.below hb15
        replace hb := hb.trans (hb15.mono hb.size)
        clear hb15
        go_wp2_with fail
        refine (Same_p _ _ h18 h4 (e1.out.2) (by omega)).mono ?_
        rintro e w16 ⟨rfl, hb16⟩
        clear h18
        replace h4 := h4.below hb16
        replace h6 := h6.below hb16
        replace h7 := h7.below hb16
        replace h8 := h8.below hb16
        replace h10 := h10.below hb16
        replace hb := hb.trans (hb16.mono hb.size)
        clear hb16
        go_wp2_with fail
        refine (Mul_p c10 c7 h10.rp h7.rp (by omega) (by omega)).mono ?_
        rintro e w17 ⟨⟨p19, n19, c19, rfl, h19, l19, _⟩, hb17⟩
        replace h4 := h4.below hb17
        replace h6 := h6.below hb17
        replace h7 := h7.below hb17
        replace h8 := h8.below hb17
        replace h10 := h10.below hb17
        replace hb := hb.trans (hb17.mono hb.size)
        clear hb17
        go_wp2_with fail
        refine (Same_p _ _ h19 h6 (e2.out.2) (by omega)).mono ?_
        rintro e w18 ⟨rfl, hb18⟩
        clear h19
        replace h4 := h4.below hb18
        replace h6 := h6.below hb18
        replace h7 := h7.below hb18
        replace h8 := h8.below hb18
        replace h10 := h10.below hb18
        replace hb := hb.trans (hb18.mono hb.size)
        clear hb18
        go_wp2_with fail
        refine (Gcd_p c8 c10 h8.rp h10.rp (by omega) (by omega)).mono ?_
        rintro e w19 ⟨⟨p20, n20, c20, D, rfl, h20, l20, hD⟩, hb19⟩
        replace h4 := h4.below hb19
        replace h6 := h6.below hb19
        replace h7 := h7.below hb19
        replace h8 := h8.below hb19
        replace h10 := h10.below hb19
        replace hb := hb.trans (hb19.mono hb.size)
        clear hb19
        obtain rfl : n20 = 1 := by rw [← h20.len]; exact hG.out.rest hG0.out e1.out.2 e2.out.2 hD.out
        go_wp2_with fail
        refine (lives5 _).mono ?_
        rintro e w20 ⟨rfl, hb20⟩
        replace h4 := h4.below hb20
        replace h6 := h6.below hb20
        replace h7 := h7.below hb20
        replace h8 := h8.below hb20
        replace h10 := h10.below hb20
        replace hb := hb.trans (hb20.mono hb.size)
        clear hb20
        go_wp2_with fail
        go_ret
        exact ⟨rfl, hb⟩
      · obtain rfl : n6 = 0 := by omega
        go_wp2_with fail
        refine (Mul_p c8 c7 h8.rp h7.rp (by omega) (by omega)).mono ?_
        rintro e w11 ⟨⟨p18, n18, c18, rfl, h18, l18, _⟩, hb11⟩
        replace h4 := h4.below hb11
        replace h6 := h6.below hb11
        replace h7 := h7.below hb11
        replace h8 := h8.below hb11
        replace h10 := h10.below hb11
        replace hb := hb.trans (hb11.mono hb.size)
        clear hb11
        go_wp2_with fail
        refine (Same_p _ _ h18 h4 (e1.out.2) (by omega)).mono ?_
        rintro e w12 ⟨rfl, hb12⟩
        clear h18
        replace h4 := h4.below hb12
        replace h6 := h6.below hb12
        replace h7 := h7.below hb12
        replace h8 := h8.below hb12
        replace h10 := h10.below hb12
        replace hb := hb.trans (hb12.mono hb.size)
        clear hb12
        go_wp2_with fail
        refine (Mul_p c10 c7 h10.rp h7.rp (by omega) (by omega)).mono ?_
        rintro e w13 ⟨⟨p19, n19, c19, rfl, h19, l19, _⟩, hb13⟩
        replace h4 := h4.below hb13
        replace h6 := h6.below hb13
        replace h7 := h7.below hb13
        replace h8 := h8.below hb13
        replace h10 := h10.below hb13
        replace hb := hb.trans (hb13.mono hb.size)
        clear hb13
        go_wp2_with fail
        refine (Same_p _ _ h19 h6 (e2.out.2) (by omega)).mono ?_
        rintro e w14 ⟨rfl, hb14⟩
        clear h19
        replace h4 := h4.below hb14
        replace h6 := h6.below hb14
        replace h7 := h7.below hb14
        replace h8 := h8.below hb14
        replace h10 := h10.below hb14
        replace hb := hb.trans (hb14.mono hb.size)
        clear hb14
        go_wp2_with fail
        refine (Gcd_p c8 c10 h8.rp h10.rp (by omega) (by omega)).mono ?_
        rintro e w15 ⟨⟨p20, n20, c20, D, rfl, h20, l20, hD⟩, hb15⟩
        replace h4 := h4.below hb15
        replace h6 := h6.below hb15
        replace h7 := h7.below hb15
        replace h8 := h8.below hb15
        replace h10 := h10.below hb15
        replace hb := hb.trans (hb15.mono hb.size)
        clear hb15
        obtain rfl : n20 = 1 := by rw [← h20.len]; exact hG.out.rest hG0.out e1.out.2 e2.out.2 hD.out
        go_wp2_with fail
        refine (lives5 _).mono ?_
        rintro e w16 ⟨rfl, hb16⟩
        replace h4 := h4.below hb16
        replace h6 := h6.below hb16
        replace h7 := h7.below hb16
        replace h8 := h8.below hb16
        replace h10 := h10.below hb16
        replace hb := hb.trans (hb16.mono hb.size)
        clear hb16
        go_wp2_with fail
        go_ret
        exact ⟨rfl, hb⟩
end Go.Proofs.Ytokkjklggkoajaa
