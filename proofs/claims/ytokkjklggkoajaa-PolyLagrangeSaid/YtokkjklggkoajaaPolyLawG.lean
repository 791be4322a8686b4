/-
  The walks of the statements on polynomials (7): Lagrange.
-/
import Derived.Test.YtokkjklggkoajaaPolyN
import Derived.Test.YtokkjklggkoajaaGr
namespace Go.Proofs.Ytokkjklggkoajaa
open Go.RowKit
attribute [local go_sem] T_V

theorem lag_own {A : Pol} {S fs : List F} (hS : Rise S) (hl : A.len ≤ S.length) (h : FromIs S ((List.range S.length).map fun j => A.at' (coef S j)) fs) : fs = A.l :=
  (h.1 (by simp)).same ⟨fun hd => absurd hS.nodup hd, fun _ => A.tr, fun _ => hl, fun _ i hi => by rw [coef_range, if_pos hi]; rfl⟩
theorem lag_other {S vals fs : List F} (hS : Rise S) (hl : vals.length = S.length) (h : FromIs S vals fs) : fs.length ≤ S.length ∧ ∀ i, i < S.length → ev fs (coef S i) = coef vals i :=
  have h1 := h.1 hl.symm
  ⟨h1.len hS.nodup, h1.val hS.nodup⟩

set_option maxRecDepth 100000 in
set_option maxHeartbeats 8000000 in
theorem lagrange_walk (pa : Option Addr) (na : Nat) (xa : List Int) (ca : Nat) (pb : Option Addr) (nb : Nat) (xb : List Int) (cb : Nat) (pc : Option Addr) (nc : Nat) (xc : List Int) (cc : Nat) (w : World) (hA : U w pa na xa) (hcA : na ≤ ca) (hnA : na ≤ 9223372036854775807) (hpA : pa = none → ca = 0) (hB : U w pb nb xb) (hcB : nb ≤ cb) (hnB : nb ≤ 9223372036854775807) (hpB : pb = none → cb = 0) (hC : U w pc nc xc) (_ : nc ≤ cc) (_ : nc ≤ 9223372036854775807) (_ : pc = none → cc = 0) :
    Calls Try.prog 9 #[.slice pa na ca, .slice pb nb cb, .slice pc nc cc] w fun e w' => e = .returned (.bool true) ∧ Below w.heap.size w w' := by
  go_enter Try.func9, Try.ntmps9
  go_wp2_with fail
  refine (Nums_p 8 rfl hB hcB hnB hpB (by omega)).mono ?_
  rintro e w1 ⟨⟨p1, n1, c1, rfl, h1, l1, _, _, _⟩, hb1⟩
  replace hA := hA.below hb1
  replace hC := hC.below hb1
  have hb := hb1
  clear hb1
  go_wp2_with fail
  refine (Sorted_p c1 h1 (by omega)).mono ?_
  rintro e w2 ⟨⟨p2, n2, c2, S, rfl, h2, l2, _, _, hs⟩, hb2⟩
  clear h1
  replace hA := hA.below hb2
  replace hC := hC.below hb2
  replace hb := hb.trans (hb2.mono hb.size)
  clear hb2
  have hrise := Lib.hid hs.out.1
  have hSl : Hid (S.length = n2) := Lib.hid (by have := h2.len; rwa [List.length_map] at this)
  clear hs
  go_wp2_with fail
  refine (Nums_p 6 rfl hA hcA hnA hpA (by omega)).mono ?_
  rintro e w3 ⟨⟨p3, n3, c3, rfl, h3, l3, _, _, _⟩, hb3⟩
  replace hC := hC.below hb3
  replace h2 := h2.below hb3
  replace hb := hb.trans (hb3.mono hb.size)
  clear hb3
  replace h3 := h3.rp
  generalize pol (xa.take n3) = A at h3
  go_wp2_with fail
  refine (Trim_p c3 h3 (by omega)).mono ?_
  rintro e w4 ⟨⟨p4, n4, c4, rfl, h4, l4, _⟩, hb4⟩
  clear h3
  replace hC := hC.below hb4
  replace h2 := h2.below hb4
  replace hb := hb.trans (hb4.mono hb.size)
  clear hb4
  obtain ⟨g, hg⟩ : ∃ g : Nat → F, Hid (g = fun j => if j < nc then T (nth xc j) else coef S j) := ⟨_, Lib.hid rfl⟩
  obtain ⟨f, hf⟩ : ∃ f : Nat → F, Hid (f = fun j => A.at' (coef S j)) := ⟨_, Lib.hid rfl⟩
  go_wp2_with fail
  go_loopw [9, 10, 11] (fun ov tv iv wr => ∃ i : Nat, i ≤ n2 ∧ iv = .int .i64 i ∧ Own wr w4.heap.size ov i (((List.range i).map f).map V) ∧ Own wr w4.heap.size tv i (((List.range i).map g).map V) ∧ Sep ov tv ∧ Below w4.heap.size w4 wr)
    (fun _ _ iv _ => n2 - (intOf iv).toNat)
  case atStart => exact ⟨0, Nat.zero_le _, rfl, Own.nil _ _, Own.nil _ _, Sep.nil, Below.refl _ _⟩
  case round =>
    obtain ⟨i, hi, rfl, o1, o2, hsep, hbl⟩ := hrel
    by_cases hlt : i < n2
    · have h4' := (h4.below hbl).rp
      obtain ⟨b, off, rfl, hbb, hcell, _, _⟩ := (h2.below hbl).look hlt
      rw [coef_nth (by rw [hSl.out]; exact hlt)] at hcell
      have hsf := Lib.hid (range_snoc f i)
      have hsg := Lib.hid (range_snoc g i)
      have hfi : Hid (A.at' (coef S i) = f i) := Lib.hid (by rw [hf.out])
      go_wp2_with fail
      refine (Eval_p c4 h4' (by omega) (V_lo _) (V_64 _)).mono ?_
      rintro e wa ⟨rfl, hba⟩
      rw [T_V, hfi.out]
      have hcell2 := (hba.cell hbb).trans hcell
      have hb1 := hbl.trans (hba.mono hbl.size)
      have o1a := o1.below hba
      have o2a := o2.below hba
      have hsz := hb1.size
      clear o1 o2 hcell hfi
      go_upto_region 9 with (at_builtin; refine app_one2 rfl _ _ rfl o1a o2a hsep rfl rfl ⟨V_lo _, V_64 _⟩ (by omega) hsz ?_; intro v5 w5 o1b o2b hsep2 hb2)
      rw [← hsf.out] at o1b
      have hb12 := hb1.trans hb2
      have hcell3 := (h2.below hb12).cell (i := i) hlt
      rw [coef_nth (by rw [hSl.out]; exact hlt)] at hcell3
      have hsz2 := hb12.size
      have o2c := hsep2.symm
      clear o1a o2a hsep hcell2 hba hb1 hb2 hsz
      by_cases hic : i < nc
      · have hgi : Hid (g i = T (nth xc i)) := Lib.hid (by rw [hg.out]; exact if_pos hic)
        obtain ⟨b2, off2, rfl, _, hcellc, hz0, hz1⟩ := (hC.below hb12).look hic
        go_wp2_with fail
        refine (num_any _ _ hz0 hz1).mono ?_
        rintro e wb ⟨rfl, rfl⟩
        rw [← hgi.out]
        go_wp2_with (at_builtin; refine app_one2 rfl _ _ rfl o2b o1b o2c rfl rfl ⟨V_lo _, V_64 _⟩ (by omega) hsz2 ?_; intro v6 w6 o2d o1d hsep3 hb3)
        rw [← hsg.out] at o2d
        go_roundw
        case rel => exact ⟨i + 1, by omega, by go_num, o1d, o2d, hsep3.symm, hb12.trans hb3⟩
        case measure => simp [intOf]; omega
      · have hgi : Hid (g i = coef S i) := Lib.hid (by rw [hg.out]; exact if_neg hic)
        rw [← hgi.out] at hcell3
        go_wp2_with (at_builtin; refine app_one2 rfl _ _ rfl o2b o1b o2c rfl rfl ⟨V_lo _, V_64 _⟩ (by omega) hsz2 ?_; intro v6 w6 o2d o1d hsep3 hb3)
        rw [← hsg.out] at o2d
        go_roundw
        case rel => exact ⟨i + 1, by omega, by go_num, o1d, o2d, hsep3.symm, hb12.trans hb3⟩
        case measure => simp [intOf]; omega
    · obtain rfl : i = n2 := by omega
      obtain ⟨po, co, rfl, _, ho⟩ := o1.u
      obtain ⟨pt, ct, rfl, _, ht⟩ := o2.u
      have hfe : Hid (((List.range i).map f) = (List.range S.length).map fun j => A.at' (coef S j)) := Lib.hid (by rw [hSl.out, hf.out])
      clear o1 o2 hsep
      replace h2 := h2.below hbl
      replace h4 := h4.below hbl
      replace hb := hb.trans (hbl.mono hb.size)
      clear hbl hC
      by_cases hle : n4 ≤ i
      · have hA1 : Hid (A.len ≤ S.length) := Lib.hid (by rw [h4.len, hSl.out]; exact hle)
        go_wp2_with fail
        refine (From_b c2 co (Below.refl _ _) h2 ho (by omega)).mono ?_
        rintro e w11 ⟨⟨p7, n7, c7, fo, rfl, h7, k7, j7, i7⟩, hb11, _⟩
        replace h2 := h2.below hb11
        replace h4 := h4.below hb11
        replace ht := ht.below hb11
        replace hb := hb.trans (hb11.mono hb.size)
        clear hb11
        have e7 : Hid (fo = A.l) := Lib.hid (lag_own hrise.out hA1.out (by have h := i7.out; rw [map_TV, map_TV, hfe.out] at h; exact h))
        have l7 : n7 ≤ i := by rw [List.length_map, hSl.out] at j7; exact j7
        go_wp2_with fail
        refine (Same_f c7 c4 h7 h4.u e7.out (by omega)).mono ?_
        rintro e w12 ⟨rfl, hb12⟩
        clear h7
        replace h2 := h2.below hb12
        replace h4 := h4.below hb12
        replace ht := ht.below hb12
        replace hb := hb.trans (hb12.mono hb.size)
        clear hb12
        clear i7 j7 e7
        go_wp2_with fail
        refine (From_b c2 ct (Below.refl _ _) h2 ht (by omega)).mono ?_
        rintro e w21 ⟨⟨p8, n8, c8, fq, rfl, h8, k8, j8, i8⟩, hb21, _⟩
        replace h2 := h2.below hb21
        replace h4 := h4.below hb21
        replace ht := ht.below hb21
        replace hb := hb.trans (hb21.mono hb.size)
        clear hb21
        have hq : Hid (fq.length ≤ S.length ∧ ∀ j, j < S.length → ev fq (coef S j) = coef ((List.range i).map g) j) := Lib.hid (lag_other hrise.out (by rw [List.length_map, List.length_range, hSl.out]) (by have h := i8.out; rwa [map_TV, map_TV] at h))
        have l8 : n8 ≤ i := by
          have h := h8.len
          have h1 := hq.out.1
          rw [List.length_map] at h
          rw [hSl.out] at h1
          omega
        clear i8 j8
        go_wp2_with fail
        go_loopw [14] (fun jv wr => ∃ j : Nat, j ≤ i ∧ jv = .int .i64 j ∧ Below w21.heap.size w21 wr) (fun jv _ => i - (intOf jv).toNat)
        case atStart => exact ⟨0, Nat.zero_le _, rfl, Below.refl _ _⟩
        case round =>
          obtain ⟨j, hj, rfl, hbl⟩ := hrel
          by_cases hlt : j < i
          · obtain ⟨b, off, rfl, hbb, hc1, _, _⟩ := (h2.below hbl).look hlt
            obtain ⟨b2, off2, rfl, hbb2, hc2, _, _⟩ := (ht.below hbl).look hlt
            rw [coef_nth (by rw [hSl.out]; exact hlt)] at hc1
            rw [coef_nth (by rw [List.length_map, List.length_range]; exact hlt)] at hc2
            have hval : Hid (ev fq (coef S j) = coef ((List.range i).map g) j) := Lib.hid (hq.out.2 j (by rw [hSl.out]; exact hlt))
            have hQ := (U.rp h8).below hbl
            have hQe : Hid ((pol (fq.map V)).at' (coef S j) = coef ((List.range i).map g) j) := Lib.hid (by rw [at_pol, map_TV]; exact hval.out)
            obtain ⟨y, hy⟩ : ∃ y, Hid (coef ((List.range i).map g) j = y) := ⟨_, Lib.hid rfl⟩
            rw [hy.out] at hc2
            have hQe2 : Hid ((pol (fq.map V)).at' (coef S j) = y) := Lib.hid (hQe.out.trans hy.out)
            have tv : (V y != V y) = false := bne_self_eq_false _
            have hld := cells_in hc1
            have hld2 := cells_in hc2
            have hix1 : (0 : Int) ≤ (j : Int) := by omega
            have hix2 : (j : Int) < (i : Int) := by omega
            go_wp2_with fail
            refine wp_region_gr (by kernel_rfl) (by kernel_rfl) ?_
            repeat (go_big_quiet_step (first
              | (go_at_call 20; refine (Eval_q c8 (hQ.below (GrIn.gr _)) (by omega) hQe2.out).mono ?_; rintro e w'' ⟨rfl, hb''⟩; exact ⟨rfl, ⟨_, Gr.then (GrIn.gr _) hb''⟩, rfl⟩)))
            refine wpQuiet_nil ?_
            intro w10 hw10'
            obtain ⟨⟨_, hw10⟩, rfl⟩ := hw10'
            clear hld hld2 hix1 hix2
            go_wp2
            go_roundw
            case rel => exact ⟨j + 1, by omega, by go_num, hbl.trans (Below.mono hw10 hbl.size)⟩
            case measure => simp [intOf]; omega
          · replace hb := hb.trans (hbl.mono hb.size)
            go_wp2_with fail
            refine (lives5 _).mono ?_
            rintro e w41 ⟨rfl, hb41⟩
            replace hb := hb.trans (hb41.mono hb.size)
            clear hb41
            go_wp2_with fail
            go_ret
            exact ⟨rfl, hb⟩
      · go_wp2_with fail
        refine (From_b c2 ct (Below.refl _ _) h2 ht (by omega)).mono ?_
        rintro e w21 ⟨⟨p8, n8, c8, fq, rfl, h8, k8, j8, i8⟩, hb21, _⟩
        replace h2 := h2.below hb21
        replace ht := ht.below hb21
        replace hb := hb.trans (hb21.mono hb.size)
        clear hb21
        have hq : Hid (fq.length ≤ S.length ∧ ∀ j, j < S.length → ev fq (coef S j) = coef ((List.range i).map g) j) := Lib.hid (lag_other hrise.out (by rw [List.length_map, List.length_range, hSl.out]) (by have h := i8.out; rwa [map_TV, map_TV] at h))
        have l8 : n8 ≤ i := by
          have h := h8.len
          have h1 := hq.out.1
          rw [List.length_map] at h
          rw [hSl.out] at h1
          omega
        clear i8 j8
        go_wp2_with fail
        go_loopw [14] (fun jv wr => ∃ j : Nat, j ≤ i ∧ jv = .int .i64 j ∧ Below w21.heap.size w21 wr) (fun jv _ => i - (intOf jv).toNat)
        case atStart => exact ⟨0, Nat.zero_le _, rfl, Below.refl _ _⟩
        case round =>
          obtain ⟨j, hj, rfl, hbl⟩ := hrel
          by_cases hlt : j < i
          · obtain ⟨b, off, rfl, hbb, hc1, _, _⟩ := (h2.below hbl).look hlt
            obtain ⟨b2, off2, rfl, hbb2, hc2, _, _⟩ := (ht.below hbl).look hlt
            rw [coef_nth (by rw [hSl.out]; exact hlt)] at hc1
            rw [coef_nth (by rw [List.length_map, List.length_range]; exact hlt)] at hc2
            have hval : Hid (ev fq (coef S j) = coef ((List.range i).map g) j) := Lib.hid (hq.out.2 j (by rw [hSl.out]; exact hlt))
            have hQ := (U.rp h8).below hbl
            have hQe : Hid ((pol (fq.map V)).at' (coef S j) = coef ((List.range i).map g) j) := Lib.hid (by rw [at_pol, map_TV]; exact hval.out)
            obtain ⟨y, hy⟩ : ∃ y, Hid (coef ((List.range i).map g) j = y) := ⟨_, Lib.hid rfl⟩
            rw [hy.out] at hc2
            have hQe2 : Hid ((pol (fq.map V)).at' (coef S j) = y) := Lib.hid (hQe.out.trans hy.out)
            have tv : (V y != V y) = false := bne_self_eq_false _
            have hld := cells_in hc1
            have hld2 := cells_in hc2
            have hix1 : (0 : Int) ≤ (j : Int) := by omega
            have hix2 : (j : Int) < (i : Int) := by omega
            go_wp2_with fail
            refine wp_region_gr (by kernel_rfl) (by kernel_rfl) ?_
            repeat (go_big_quiet_step (first
              | (go_at_call 20; refine (Eval_q c8 (hQ.below (GrIn.gr _)) (by omega) hQe2.out).mono ?_; rintro e w'' ⟨rfl, hb''⟩; exact ⟨rfl, ⟨_, Gr.then (GrIn.gr _) hb''⟩, rfl⟩)))
            refine wpQuiet_nil ?_
            intro w10 hw10'
            obtain ⟨⟨_, hw10⟩, rfl⟩ := hw10'
            clear hld hld2 hix1 hix2
            go_wp2
            go_roundw
            case rel => exact ⟨j + 1, by omega, by go_num, hbl.trans (Below.mono hw10 hbl.size)⟩
            case measure => simp [intOf]; omega
          · replace hb := hb.trans (hbl.mono hb.size)
            go_wp2_with fail
            refine (lives5 _).mono ?_
            rintro e w41 ⟨rfl, hb41⟩
            replace hb := hb.trans (hb41.mono hb.size)
            clear hb41
            go_wp2_with fail
            go_ret
            exact ⟨rfl, hb⟩
end Go.Proofs.Ytokkjklggkoajaa
