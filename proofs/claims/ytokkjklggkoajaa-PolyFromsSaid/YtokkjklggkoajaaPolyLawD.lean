/-
  The walks of the statements on polynomials (4): roots.
-/
import Derived.Test.YtokkjklggkoajaaPol7
namespace Go.Proofs.Ytokkjklggkoajaa
open Go.RowKit
attribute [local go_sem] T_V

theorem Small_c (k : Nat) (most : Int) (hk : most = k) (p : Option Addr) (n : Nat) (xs : List Int) (c : Nat) (w : World) (hX : UI w p n xs) (hn : n ≤ 9223372036854775807) (hm : k ≤ 1000000) :
    Calls Try.prog 28 #[.slice p n c, .int .i64 most] w fun e w' => ∃ v, e = .returned v ∧ Own w' w.heap.size v (min n k) ((xs.map small).take (min n k)) ∧ Below w.heap.size w w' := by
  rw [hk]; exact Small_any p n xs c k w hX hn hm
theorem roots_made {z : Int} (h0 : 0 < z) (h1 : z < 2305843009213693951) {L : List F} {R : Pol} (hR : NoRoots R) {rs S : List F} (h : RootsOk (Pol.con (T z) * (Pol.prodL L * R)) rs) (hs : SortedOf L S) : rs = S := by
  have hz := T_ne h0 h1
  have hc : Pol.con (T z) ≠ 0 := fun e => hz (by have := Pol.at_con (T z) 0; rw [e, Pol.at_zero] at this; exact this.symm)
  have hP := Pol.mul_ne_zero hc (Pol.mul_ne_zero (Pol.prodL_ne L) hR.1)
  refine h.1.same hs.1 fun x => ?_
  rw [h.2.2 hP, hs.2, Pol.at_mul, Pol.at_con, Pol.at_mul, mul_eq_zero', mul_eq_zero', Pol.at_prodL]
  exact ⟨fun k => (k.resolve_left hz).resolve_right (hR.2 x), fun k => .inr (.inl k)⟩
theorem pol_nought : pol [0, 2305843009213693951] = 0 := Pol.eq_zero_of_len (by decide +kernel)

set_option maxRecDepth 100000 in
set_option maxHeartbeats 2000000 in
theorem roots_walk (pa : Option Addr) (na : Nat) (xa : List Int) (ca : Nat) (pl : Option Addr) (nl : Nat) (xl : List Int) (cl : Nat) (x : Int) (y : Int) (w : World) (hA : U w pa na xa) (hcA : na ≤ ca) (hnA : na ≤ 9223372036854775807) (hpA : pa = none → ca = 0) (hL : UI w pl nl xl) (_ : nl ≤ cl) (hnL : nl ≤ 9223372036854775807) (_ : pl = none → cl = 0) (x0 : -9223372036854775808 ≤ x) (x1 : x ≤ 9223372036854775807) (y0 : 0 ≤ y) (y1 : y < 18446744073709551616) :
    Calls Try.prog 6 #[.slice pa na ca, .slice pl nl cl, .int .i64 x, .int .u64 y] w fun e w' => e = .returned (.bool true) ∧ Below w.heap.size w w' := by
  go_enter Try.func6, Try.ntmps6
  go_wp2_with fail
  refine (Nums_c 4 4 rfl pa na xa ca _ hA hcA hpA hnA (by omega)).mono ?_
  rintro e w1 ⟨v1, rfl, h1, hb1⟩
  replace hL := hL.below hb1
  have hb := hb1
  clear hb1
  have l1 : min na 4 ≤ 4 := Nat.min_le_right _ _
  generalize min na 4 = n1 at *
  generalize xa.take n1 = r1 at *
  go_wp2_with fail
  refine (Small_c 4 4 rfl pl nl xl cl _ hL hnL (by omega)).mono ?_
  rintro e w2 ⟨v2, rfl, h2, hb2⟩
  replace h1 := h1.below hb2
  replace hb := hb.trans (hb2.mono hb.size)
  clear hb2
  obtain ⟨p2, c2, rfl, hc2, h2, hp2⟩ := h2.u'
  have l2 : min nl 4 ≤ 4 := Nat.min_le_right _ _
  generalize min nl 4 = n2 at *
  generalize (xl.map small).take n2 = r2 at *
  have hsz := hb.size
  go_wp2_with (at_builtin; refine app_many rfl _ _ rfl h1 rfl rfl h2 hp2 (by omega) hsz ?_; intro v3 w3 h3 hb3)
  replace hb := hb.trans hb3
  clear hb3 h1 h2 hsz
  obtain ⟨p3, c3, rfl, hc3, h3⟩ := h3.u
  have l3 : n1 + n2 ≤ 8 := by omega
  generalize n1 + n2 = n3 at *
  generalize r1 ++ r2 = rs at *
  go_wp2_with fail
  refine (rOf_p c3 h3 (by omega)).mono ?_
  rintro e w4 ⟨⟨p4, n4, c4, rfl, h4, l4, _⟩, hb4⟩
  replace h3 := h3.below hb4
  replace hb := hb.trans (hb4.mono hb.size)
  clear hb4
  go_wp2_with fail
  refine (Rootless_any x _ x0 x1).mono ?_
  rintro e w5 ⟨p5, n5, c5, ys, rfl, h5, l5, hNR, hb5⟩
  replace h3 := h3.below hb5
  replace h4 := h4.below hb5
  replace hb := hb.trans (hb5.mono hb.size)
  clear hb5
  have hNR' := Lib.hid hNR
  clear hNR
  go_wp2_with fail
  refine (rMul_p c4 c5 h4.rp h5.rp (by omega) (by omega)).mono ?_
  rintro e w6 ⟨⟨p6, n6, c6, rfl, h6, l6, _⟩, hb6⟩
  clear h4 h5
  replace h3 := h3.below hb6
  replace hb := hb.trans (hb6.mono hb.size)
  clear hb6
  have hy := Int.emod_nonneg y (show (2305843009213693949 : Int) ≠ 0 by omega)
  have hy2 := Int.emod_lt_of_pos y (show (0 : Int) < 2305843009213693949 by omega)
  go_wp2_with fail
  refine (Secret_any y _ y0 y1).mono ?_
  rintro e _ ⟨rfl, rfl⟩
  obtain ⟨z, hz⟩ : ∃ z, Hid (1 + y % 2305843009213693949 = z) := ⟨_, Lib.hid rfl⟩
  have hz0 : 0 < z := by rw [← hz.out]; omega
  have hz1 : z < 2305843009213693951 := by rw [← hz.out]; omega
  rw [hz.out]
  clear hy hy2
  go_wp2_with fail
  refine (rScale_p c6 h6.rp (by omega) (by omega) (by omega)).mono ?_
  rintro e w8 ⟨⟨p7, n7, c7, rfl, h7, l7, _⟩, hb8⟩
  clear h6
  replace h3 := h3.below hb8
  replace hb := hb.trans (hb8.mono hb.size)
  clear hb8
  go_wp2_with fail
  refine (Roots_p c7 h7.rp (by omega)).mono ?_
  rintro e w9 ⟨⟨p8, n8, c8, rt, rfl, h8, l8, _, hr⟩, hb9⟩
  clear h7
  replace h3 := h3.below hb9
  replace hb := hb.trans (hb9.mono hb.size)
  clear hb9
  go_wp2_with fail
  refine (Sorted_p c3 h3 (by omega)).mono ?_
  rintro e w10 ⟨⟨p9, n9, c9, S, rfl, h9, l9, _, _, hs⟩, hb10⟩
  replace h3 := h3.below hb10
  replace h8 := h8.below hb10
  replace hb := hb.trans (hb10.mono hb.size)
  clear hb10
  have hrt : rt = S := roots_made hz0 hz1 hNR'.out hr.out hs.out
  subst hrt
  obtain rfl : n9 = n8 := h9.len.symm.trans h8.len
  go_wp2_with fail
  refine (SameNums_yes p8 p9 n9 _ c8 c9 _ h8 h9 (by omega)).mono ?_
  rintro e w11 ⟨rfl, hb11⟩
  clear h8 h9
  replace h3 := h3.below hb11
  replace hb := hb.trans (hb11.mono hb.size)
  clear hb11
  go_wp2_with fail
  refine (Roots_p 0 (Rp.nil _ none) (by omega)).mono ?_
  rintro e w12 ⟨⟨p10, n10, c10, r10, rfl, h10, l10, _, _⟩, hb12⟩
  replace h3 := h3.below hb12
  replace hb := hb.trans (hb12.mono hb.size)
  clear hb12
  obtain rfl : n10 = 0 := by omega
  clear h10
  have hS := U_lit w12 23 [0, 2305843009213693951] #[.int .u64 0, .int .u64 2305843009213693951] 2 rfl rfl (by decide)
  have hbl := Below.lit w12 (.cells #[.int .u64 0, .int .u64 2305843009213693951] 23)
  replace h3 := h3.below hbl
  replace hb := hb.trans (hbl.mono hb.size)
  clear hbl
  go_wp2_with fail
  refine (Roots_p 2 hS.rp (by omega)).mono ?_
  rintro e w13 ⟨⟨p11, n11, c11, r11, rfl, h11, l11, _, hr11⟩, hb13⟩
  replace h3 := h3.below hb13
  replace hS := hS.below hb13
  replace hb := hb.trans (hb13.mono hb.size)
  clear hb13
  obtain rfl : n11 = 0 := by
    have h := h11.len
    rw [hr11.out.2.1 pol_nought] at h
    exact h.symm
  clear h11 hr11 hS
  go_wp2_with fail
  refine (lives5 _).mono ?_
  rintro e w14 ⟨rfl, hb14⟩
  replace hb := hb.trans (hb14.mono hb.size)
  clear hb14
  go_wp2_with fail
  go_ret
  exact ⟨rfl, hb⟩
end Go.Proofs.Ytokkjklggkoajaa
