/-
  The walks of the statements on polynomials (6): factors.
-/
import Derived.Test.YtokkjklggkoajaaPolyN
namespace Go.Proofs.Ytokkjklggkoajaa
open Go.RowKit
attribute [local go_sem] T_V

set_option maxRecDepth 100000 in
set_option maxHeartbeats 8000000 in
theorem factors_walk (pa : Option Addr) (na : Nat) (xa : List Int) (ca : Nat) (pb : Option Addr) (nb : Nat) (xb : List Int) (cb : Nat) (x : Int) (w : World) (hA : U w pa na xa) (hcA : na ≤ ca) (hnA : na ≤ 9223372036854775807) (hpA : pa = none → ca = 0) (hB : U w pb nb xb) (hcB : nb ≤ cb) (hnB : nb ≤ 9223372036854775807) (hpB : pb = none → cb = 0) (x0 : 0 ≤ x) (x1 : x < 18446744073709551616) :
    Calls Try.prog 10 #[.slice pa na ca, .slice pb nb cb, .int .u64 x] w fun e w' => e = .returned (.bool true) ∧ Below w.heap.size w w' := by
  go_enter Try.func10, Try.ntmps10
  go_wp2_with fail
  refine (Nums_p 4 rfl hA hcA hnA hpA (by omega)).mono ?_
  rintro e w1 ⟨⟨p1, n1, c1, rfl, h1, l1, _, _, _⟩, hb1⟩
  replace hB := hB.below hb1
  have hb := hb1
  clear hb1
  replace h1 := h1.rp
  generalize pol (xa.take n1) = A at h1
  go_wp2_with fail
  refine (Trim_p c1 h1 (by omega)).mono ?_
  rintro e w2 ⟨⟨p2, n2, c2, rfl, h2, l2, _⟩, hb2⟩
  clear h1
  replace hB := hB.below hb2
  replace hb := hb.trans (hb2.mono hb.size)
  clear hb2
  go_wp2_with fail
  refine (Nums_p 4 rfl hB hcB hnB hpB (by omega)).mono ?_
  rintro e w3 ⟨⟨p3, n3, c3, rfl, h3, l3, _, _, _⟩, hb3⟩
  replace h2 := h2.below hb3
  replace hb := hb.trans (hb3.mono hb.size)
  clear hb3
  replace h3 := h3.rp
  generalize pol (xb.take n3) = B at h3
  go_wp2_with fail
  refine (Trim_p c3 h3 (by omega)).mono ?_
  rintro e w4 ⟨⟨p4, n4, c4, rfl, h4, l4, _⟩, hb4⟩
  clear h3
  replace h2 := h2.below hb4
  replace hb := hb.trans (hb4.mono hb.size)
  clear hb4
  have hS := U_lit w4 23 [x] #[.int .u64 (x)] 1 rfl rfl (by intro z hz; simp at hz; subst hz; exact ⟨x0, x1⟩)
  have hbl := Below.lit w4 (.cells #[.int .u64 (x)] 23)
  replace h2 := h2.below hbl
  replace h4 := h4.below hbl
  replace hb := hb.trans (hbl.mono hb.size)
  clear hbl
  go_wp2_with fail
  refine (Of_p 1 hS (by omega)).mono ?_
  rintro e w5 ⟨⟨p5, n5, c5, rfl, h5, l5, _⟩, hb5⟩
  clear hS
  replace h2 := h2.below hb5
  replace h4 := h4.below hb5
  replace hb := hb.trans (hb5.mono hb.size)
  clear hb5
  go_wp2_with fail
  refine (DivMod_p c2 c5 h2.rp h5.rp (by omega) (by omega)).mono ?_
  rintro e w6 ⟨⟨p6, n6, c6, p7, n7, c7, Q0, R0, rfl, h6, h7, l6, l7, hd⟩, hb6⟩
  replace h2 := h2.below hb6
  replace h4 := h4.below hb6
  replace h5 := h5.below hb6
  replace hb := hb.trans (hb6.mono hb.size)
  clear hb6
  have hroot := Lib.hid (factor_root hd.out)
  clear h5 h6 hd
  have hcase : (((n7 : Int) == 0) = true ∧ (V (A.at' (T x)) == 0) = true) ∨ (((n7 : Int) == 0) = false ∧ (V (A.at' (T x)) == 0) = false) := by
    by_cases hr : A.at' (T x) = 0
    · have h := h7.len
      rw [hroot.out.2 hr, Pol.len_zero] at h
      exact .inl ⟨by rw [beq_iff_eq]; omega, by rw [V_inj_zero, beq_iff_eq]; exact hr⟩
    · have h := Pol.len_ne h7.len fun e => hr (hroot.out.1 e)
      exact .inr ⟨by rw [beq_eq_false_iff_ne]; omega, by rw [V_inj_zero, beq_eq_false_iff_ne]; exact hr⟩
  obtain ⟨y, hy⟩ : ∃ y, Hid (A.at' (T x) = y) := ⟨_, Lib.hid rfl⟩
  rw [hy.out] at hcase
  clear hroot
  rcases hcase with ⟨t7, ty⟩ | ⟨t7, ty⟩
  all_goals
    go_wp2_with fail
    refine (Eval_p c2 h2.rp (by omega) x0 x1).mono ?_
    rintro e w7 ⟨rfl, hb7⟩
    replace h2 := h2.below hb7
    replace h4 := h4.below hb7
    replace h7 := h7.below hb7
    replace hb := hb.trans (hb7.mono hb.size)
    clear hb7
    rw [hy.out]
    clear hy
    by_cases hz2 : n2 = 0
    · have hAB : Hid (A * B = 0) := Lib.hid (by rw [Pol.eq_zero_of_len (h2.len.trans hz2)]; grind)
      have t2 : ((n2 : Int) == 0) = true := by rw [beq_iff_eq]; omega
      clear hz2
      go_wp2_with fail
      refine (Mul_p c2 c4 h2.rp h4.rp (by omega) (by omega)).mono ?_
      rintro e w8 ⟨⟨p8, n8, c8, rfl, h8, l8, _⟩, hb8⟩
      replace h2 := h2.below hb8
      replace h4 := h4.below hb8
      replace h7 := h7.below hb8
      replace hb := hb.trans (hb8.mono hb.size)
      clear hb8
      go_wp2_with fail
      refine (Roots_p c8 h8.rp (by omega)).mono ?_
      rintro e w9 ⟨⟨p9, n9, c9, rt, rfl, h9, l9, _, hr⟩, hb9⟩
      replace h2 := h2.below hb9
      replace h4 := h4.below hb9
      replace h7 := h7.below hb9
      replace h8 := h8.below hb9
      replace hb := hb.trans (hb9.mono hb.size)
      clear hb9
      obtain rfl : n9 = 0 := by
        have h := h9.len
        rw [hr.out.2.1 hAB.out] at h
        exact h.symm
      clear h9 hr
      go_wp2_with fail
      refine (lives5 _).mono ?_
      rintro e w10 ⟨rfl, hb10⟩
      replace h2 := h2.below hb10
      replace h4 := h4.below hb10
      replace h7 := h7.below hb10
      replace h8 := h8.below hb10
      replace hb := hb.trans (hb10.mono hb.size)
      clear hb10
      go_wp2_with fail
      go_ret
      exact ⟨rfl, hb⟩
    have t2 : ((n2 : Int) == 0) = false := by rw [beq_eq_false_iff_ne]; omega
    have hA0 := Lib.hid (Pol.ne_of_len h2.len hz2)
    clear hz2
    by_cases hz4 : n4 = 0
    · have hAB : Hid (A * B = 0) := Lib.hid (by rw [Pol.eq_zero_of_len (h4.len.trans hz4)]; grind)
      have t4 : ((n4 : Int) == 0) = true := by rw [beq_iff_eq]; omega
      clear hz4
      go_wp2_with fail
      refine (Mul_p c2 c4 h2.rp h4.rp (by omega) (by omega)).mono ?_
      rintro e w8 ⟨⟨p8, n8, c8, rfl, h8, l8, _⟩, hb8⟩
      replace h2 := h2.below hb8
      replace h4 := h4.below hb8
      replace h7 := h7.below hb8
      replace hb := hb.trans (hb8.mono hb.size)
      clear hb8
      go_wp2_with fail
      refine (Roots_p c8 h8.rp (by omega)).mono ?_
      rintro e w9 ⟨⟨p9, n9, c9, rt, rfl, h9, l9, _, hr⟩, hb9⟩
      replace h2 := h2.below hb9
      replace h4 := h4.below hb9
      replace h7 := h7.below hb9
      replace h8 := h8.below hb9
      replace hb := hb.trans (hb9.mono hb.size)
      clear hb9
      obtain rfl : n9 = 0 := by
        have h := h9.len
        rw [hr.out.2.1 hAB.out] at h
        exact h.symm
      clear h9 hr
      go_wp2_with fail
      refine (lives5 _).mono ?_
      rintro e w10 ⟨rfl, hb10⟩
      replace h2 := h2.below hb10
      replace h4 := h4.below hb10
      replace h7 := h7.below hb10
      replace h8 := h8.below hb10
      replace hb := hb.trans (hb10.mono hb.size)
      clear hb10
      go_wp2_with fail
      go_ret
      exact ⟨rfl, hb⟩
    have t4 : ((n4 : Int) == 0) = false := by rw [beq_eq_false_iff_ne]; omega
    have hB0 := Lib.hid (Pol.ne_of_len h4.len hz4)
    clear hz4 h7
    have hbO := hb
    have h2O := h2
    have h4O := h4
    replace hb := Below.refl w7.heap.size w7
    clear h2 h4
    go_wp2_with fail
    refine (Roots_p c2 h2O.rp (by omega)).mono ?_
    rintro e w8 ⟨⟨p10, n10, c10, ra, rfl, h10, l10, ⟨_, o10⟩, hr10⟩, hb8⟩
    replace hb := hb.trans (hb8.mono hb.size)
    clear hb8
    go_wp2_with fail
    refine (Roots_p c4 (h4O.below hb).rp (by omega)).mono ?_
    rintro e w9 ⟨⟨p11, n11, c11, rb, rfl, h11, l11, ⟨_, o11⟩, hr11⟩, hb9⟩
    replace o10 := o10.below hb9
    replace hb := hb.trans (hb9.mono hb.size)
    clear hb9
    have hn := o11.nilc
    have hsz := hb.size
    have l12 : n10 + n11 ≤ 8 := by omega
    clear o11
    go_wp2_with (at_builtin; refine app_many rfl _ _ rfl o10 rfl rfl h11 hn (by omega) hsz ?_; intro v12 w12 h12 hb12)
    replace hb := hb.trans hb12
    have h2 := h2O.below hb
    have h4 := h4O.below hb
    replace hb := hbO.trans (hb.mono hbO.size)
    rw [← List.map_append] at h12
    obtain ⟨p12, c12, rfl, _, h12⟩ := h12.u
    clear hb12 hsz hn h10 h11 o10 hbO h2O h4O
    generalize n10 + n11 = n12 at *
    go_wp2_with fail
    refine (Mul_p c2 c4 h2.rp h4.rp (by omega) (by omega)).mono ?_
    rintro e w13 ⟨⟨p13, n13, c13, rfl, h13, l13, _⟩, hb13⟩
    replace h2 := h2.below hb13
    replace h4 := h4.below hb13
    replace h12 := h12.below hb13
    replace hb := hb.trans (hb13.mono hb.size)
    clear hb13
    go_wp2_with fail
    refine (Roots_p c13 h13.rp (by omega)).mono ?_
    rintro e w14 ⟨⟨p14, n14, c14, rt, rfl, h14, l14, _, hr14⟩, hb14⟩
    clear h13
    replace h2 := h2.below hb14
    replace h4 := h4.below hb14
    replace h12 := h12.below hb14
    replace hb := hb.trans (hb14.mono hb.size)
    clear hb14
    have hrl : Hid (rt.length = n14) := Lib.hid (by have := h14.len; rwa [List.length_map] at this)
    go_wp2_with fail
    go_loopw [13] (fun iv wr => ∃ i : Nat, i ≤ n14 ∧ iv = .int .i64 i ∧ Below w14.heap.size w14 wr) (fun iv _ => n14 - (intOf iv).toNat)
    case atStart => exact ⟨0, Nat.zero_le _, rfl, Below.refl _ _⟩
    case round =>
      obtain ⟨i, hi, rfl, hbl⟩ := hrel
      by_cases hlt : i < n14
      · have h2' := (h2.below hbl).rp
        have h4' := (h4.below hbl).rp
        obtain ⟨b, off, rfl, hbb, hcell, _, _⟩ := (h14.below hbl).look hlt
        rw [coef_nth (by rw [hrl.out]; exact hlt)] at hcell
        obtain ⟨y0, hy0⟩ : ∃ y0, coef rt i = y0 := ⟨_, rfl⟩
        have hroot : Hid (A.at' y0 = 0 ∨ B.at' y0 = 0) := Lib.hid (by
          have h := (hr14.out.2.2 (Pol.mul_ne_zero hA0.out hB0.out) y0).1 (by rw [← hy0, coef_lt (by rw [hrl.out]; exact hlt)]; exact List.getElem_mem _)
          rwa [Pol.at_mul, mul_eq_zero'] at h)
        rw [hy0] at hcell
        clear hy0
        by_cases hyA : A.at' y0 = 0
        · have tA : (V (A.at' y0) != 0) = false := by rw [hyA]; rfl
          have tA' := Lib.hid tA
          clear hyA tA
          go_wp2_with fail
          refine (Eval_p c2 h2' (by omega) (V_lo _) (V_64 _)).mono ?_
          rintro e wa ⟨rfl, hba⟩
          rw [T_V]
          have tA := tA'.out
          go_wp2_with fail
          go_roundw
          case rel => exact ⟨i + 1, by omega, by go_num, hbl.trans (hba.mono hbl.size)⟩
          case measure => simp [intOf]; omega
        · have tA : (V (A.at' y0) != 0) = true := by rw [bne_iff_ne]; exact fun e => hyA ((V_eq_zero _).1 e)
          have tA' := Lib.hid tA
          have tB' : Hid ((V (B.at' y0) != 0) = false) := Lib.hid (by rw [hroot.out.resolve_left hyA]; rfl)
          clear hyA tA
          go_wp2_with fail
          refine (Eval_p c2 h2' (by omega) (V_lo _) (V_64 _)).mono ?_
          rintro e wa ⟨rfl, hba⟩
          rw [T_V]
          have tA := tA'.out
          have hcell2 := (hba.cell hbb).trans hcell
          have h4'' := h4'.below hba
          go_wp2_with fail
          refine (Eval_p c4 h4'' (by omega) (V_lo _) (V_64 _)).mono ?_
          rintro e wb ⟨rfl, hbb2⟩
          rw [T_V]
          have tB := tB'.out
          go_wp2_with fail
          go_roundw
          case rel => exact ⟨i + 1, by omega, by go_num, hbl.trans ((hba.trans (hbb2.mono hba.size)).mono hbl.size)⟩
          case measure => simp [intOf]; omega
      · replace h2 := h2.below hbl
        replace h12 := h12.below hbl
        replace h14 := h14.below hbl
        replace hb := hb.trans (hbl.mono hb.size)
        clear hbl h4
        go_wp2_with fail
        refine (Roots_p c2 h2.rp (by omega)).mono ?_
        rintro e w21 ⟨⟨p15, n15, c15, r15, rfl, h15, l15, _, hr15⟩, hb21⟩
        replace h2 := h2.below hb21
        replace h12 := h12.below hb21
        replace h14 := h14.below hb21
        replace hb := hb.trans (hb21.mono hb.size)
        clear hb21
        have hless : n15 < n2 := by
          have h := Pol.roots_lt hA0.out hr15.out.1.nodup fun x hx => (hr15.out.2.2 hA0.out x).1 hx
          have h1 := h15.len
          rw [List.length_map] at h1
          rw [h2.len] at h
          omega
        clear h15
        go_wp2_with fail
        refine (Sorted_p c12 h12 (by omega)).mono ?_
        rintro e w22 ⟨⟨p16, n16, c16, S, rfl, h16, l16, _, _, hs⟩, hb22⟩
        replace h2 := h2.below hb22
        replace h12 := h12.below hb22
        replace h14 := h14.below hb22
        replace hb := hb.trans (hb22.mono hb.size)
        clear hb22
        have hs2 : Hid (SortedOf (ra ++ rb) S) := Lib.hid (by have h := hs.out; rwa [map_TV] at h)
        clear hs
        go_wp2_with fail
        refine (Same_f c14 c16 h14 h16 (both_roots hA0.out hB0.out hr10.out hr11.out hr14.out hs2.out) (by omega)).mono ?_
        rintro e w23 ⟨rfl, hb23⟩
        replace h2 := h2.below hb23
        replace h12 := h12.below hb23
        replace h14 := h14.below hb23
        replace hb := hb.trans (hb23.mono hb.size)
        clear hb23
        go_wp2_with fail
        refine (lives5 _).mono ?_
        rintro e w24 ⟨rfl, hb24⟩
        replace h2 := h2.below hb24
        replace h12 := h12.below hb24
        replace h14 := h14.below hb24
        replace hb := hb.trans (hb24.mono hb.size)
        clear hb24
        go_wp2_with fail
        go_ret
        exact ⟨rfl, hb⟩
end Go.Proofs.Ytokkjklggkoajaa
