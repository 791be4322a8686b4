/-
  The walk of the statement on reconciled names.
-/
import Derived.Test.YtelnhpcehmdffaaSkN
import Derived.Test.YtelnhpcehmdffaaOpenK
import Derived.Test.YtelnhpcehmdffaaUI
namespace Go.Proofs.Ytelnhpcehmdffaa
open Go.RowKit
attribute [local go_sem] T_V

/-- Three lists of the call's own, and what they hold. -/
structure Tri (W : World) (base : Nat) (av bv cv : Value) (A B C : List F) : Prop where
  oa : Own W base av A.length (A.map V)
  ob : Own W base bv B.length (B.map V)
  oc : Own W base cv C.length (C.map V)
  ca : Apart2 cv av
  cb : Apart2 cv bv
  ab : Apart2 av bv
theorem Tri.below {W W' : World} {base : Nat} {av bv cv : Value} {A B C : List F} (h : Tri W base av bv cv A B C) (hb : Below W.heap.size W W') : Tri W' base av bv cv A B C :=
  ⟨h.oa.below hb, h.ob.below hb, h.oc.below hb, h.ca, h.cb, h.ab⟩
theorem Own.more {W : World} {base : Nat} {v : Value} {L : List F} {x : F} (h : Own W base v (L.length + 1) (L.map V ++ [V x])) : Own W base v (L ++ [x]).length ((L ++ [x]).map V) := by
  rw [List.length_append, List.map_append]; exact h
set_option maxRecDepth 100000 in
set_option maxHeartbeats 16000000 in
theorem names_walk (pk : Option Addr) (nk : Nat) (fk : Nat → Int × Int × Int) (ck : Nat) (pl : Option Addr) (nl : Nat) (xl : List Int) (cl : Nat) (w : World) (hK : IdsAt w pk nk fk) (_ : nk ≤ ck) (hnK : nk ≤ 9223372036854775807) (_ : pk = none → ck = 0) (hL : UI w pl nl xl) (_ : nl ≤ cl) (_ : nl ≤ 9223372036854775807) (_ : pl = none → cl = 0) :
    Calls Try.prog 10 #[.slice pk nk ck, .slice pl nl cl] w fun e w' => e = .returned (.bool true) ∧ Below w.heap.size w w' := by
  go_enter Try.func10, Try.ntmps10
  go_wp2_with fail
  go_loopw [5, 6, 7, 8] (fun av bv cv iv wr => ∃ (k : Nat) (A B C : List F), k ≤ min nk 12 ∧ iv = .int .i64 k ∧ Tri wr w.heap.size av bv cv A B C ∧ Hid (Parts A B C) ∧ (A.length ≤ k ∧ B.length ≤ k ∧ C.length ≤ k) ∧ Below w.heap.size w wr) (fun _ _ _ iv _ => min nk 12 - (intOf iv).toNat)
  case atStart => exact ⟨0, [], [], [], Nat.zero_le _, rfl, ⟨Own.nil _ _, Own.nil _ _, Own.nil _ _, Apart2.nil _, Apart2.nil _, Apart2.nil _⟩, Lib.hid Parts.nil, ⟨Nat.le_refl _, Nat.le_refl _, Nat.le_refl _⟩, Below.refl _ _⟩
  case round =>
    obtain ⟨k, A, B, C, hk, rfl, ht, hp, ⟨lA, lB, lC⟩, hb⟩ := hrel
    by_cases hlt : k < min nk 12
    · obtain ⟨bk, ok, rfl, _, kc0, kc1, kc2, hz0, hz1⟩ := hK.below hb k (by omega)
      have d1 : decide ((k : Int) < (nk : Int)) = true := by rw [decide_eq_true_eq]; omega
      have d2 : decide ((k : Int) < (12 : Int)) = true := by rw [decide_eq_true_eq]; omega
      go_wp2_with fail
      refine (Elem_any _ _ _ _ hz0 hz1).mono ?_
      rintro e w1 ⟨rfl, hb1⟩
      have hbe := elemE_bd (fk k).1 (fk k).2.1 (fk k).2.2
      obtain ⟨x, hx⟩ : ∃ x : F, Hid (elemE (fk k).1 (fk k).2.1 (fk k).2.2 = V x) := ⟨T _, Lib.hid (T_small _ (by omega) (by omega)).symm⟩
      rw [hx.out] at hbe ⊢
      have ht1 := ht.below hb1
      replace hb1 := hb.trans (hb1.mono hb.size)
      have hz1' := hb1.size
      obtain ⟨pc, cc, hvc, _, huc⟩ := ht1.oc.u
      subst hvc
      clear kc0 kc1 kc2 hz0 hz1 ht hx
      go_wp2_with fail
      refine (Has_any pc _ _ cc _ _ huc (by omega)).mono ?_
      rintro e w2 ⟨⟨rfl, hin⟩ | ⟨rfl, hin⟩, rfl⟩
      · clear hin
        go_wp2_with fail
        go_roundw
        case rel => exact ⟨k + 1, A, B, C, by omega, by go_num, ht1, hp, ⟨by omega, by omega, by omega⟩, hb1⟩
        case measure => simp [intOf]; omega
      · have hin2 : Hid (x ∉ C) := Lib.hid fun h => hin (mem_V.2 h)
        clear hin
        go_upto_if 39 with (at_builtin; (with_reducible refine app_one_g (y := V x) rfl _ _ rfl ht1.oc rfl rfl ⟨V_lo x, V_64 x⟩ (by omega) hz1' ?_); (intro cv' w3 oc3 hb3 hk3; obtain ⟨oa3, ca3⟩ := hk3 _ _ _ ht1.oa ht1.ca; obtain ⟨ob3, cb3⟩ := hk3 _ _ _ ht1.ob ht1.cb; have hab := ht1.ab; clear hk3 huc ht1))
        have hb13 := hb1.trans hb3
        have hz3 := hb13.size
        replace oc3 := oc3.more
        clear hb3 hb1
        go_cut [10] from 36 to 44 (fun nv wx => ∃ r : Nat, nv = .int .i64 r ∧ r < 4 ∧ wx = w3)
        case first =>
          by_cases hkl : k < nl
          · obtain ⟨bl, ol, rfl, _, lc, ll0, ll1⟩ := (hL.below hb13).look hkl
            obtain ⟨r, er, hr⟩ := around_nat (nth xl k) 4 (by omega)
            have d3 : decide ((k : Int) < (nl : Int)) = true := by rw [decide_eq_true_eq]; omega
            go_wp2_with fail
            refine (Around_any _ 4 _ ll0 ll1 (by omega) (by omega)).mono ?_
            rintro e _ ⟨rfl, rfl⟩
            rw [show around (nth xl k) 4 = r from er.out]
            go_wp2_with fail
            go_meet
            exact ⟨r, rfl, hr, rfl⟩
          · have d3 : decide ((k : Int) < (nl : Int)) = false := by rw [decide_eq_false_iff_not]; omega
            go_wp2_with fail
            go_meet
            exact ⟨0, rfl, by omega, rfl⟩
        case rest =>
          obtain ⟨r, rfl, hr, rfl⟩ := hcut
          rcases (by omega : r = 1 ∨ r = 2 ∨ (r ≠ 1 ∧ r ≠ 2)) with rfl | rfl | ⟨hr1, hr2⟩
          · have hp2 := Lib.hid (hp.out.more hin2.out hbe false true)
            go_wp2_with (at_builtin; (with_reducible refine app_one_g (y := V x) rfl _ _ rfl ob3 rfl rfl ⟨V_lo x, V_64 x⟩ (by omega) hz3 ?_); (intro bv' w5 ob5 hb5 hk5; obtain ⟨oa5, ab5⟩ := hk5 _ _ _ oa3 hab.symm; obtain ⟨oc5, cb5⟩ := hk5 _ _ _ oc3 cb3.symm; clear hk5))
            go_roundw
            case rel => exact ⟨k + 1, A, B ++ [x], C ++ [x], by omega, by go_num, ⟨oa5, ob5.more, oc5, ca3, cb5.symm, ab5.symm⟩, hp2, ⟨by omega, by rw [List.length_append]; show B.length + 1 ≤ k + 1; omega, by rw [List.length_append]; show C.length + 1 ≤ k + 1; omega⟩, hb13.trans hb5⟩
            case measure => simp [intOf]; omega
          · have hp2 := Lib.hid (hp.out.more hin2.out hbe true false)
            go_wp2_with (at_builtin; (with_reducible refine app_one_g (y := V x) rfl _ _ rfl oa3 rfl rfl ⟨V_lo x, V_64 x⟩ (by omega) hz3 ?_); (intro av' w5 oa5 hb5 hk5; obtain ⟨ob5, ab5⟩ := hk5 _ _ _ ob3 hab; obtain ⟨oc5, ca5⟩ := hk5 _ _ _ oc3 ca3.symm; clear hk5))
            go_roundw
            case rel => exact ⟨k + 1, A ++ [x], B, C ++ [x], by omega, by go_num, ⟨oa5.more, ob5, oc5, ca5.symm, cb3, ab5⟩, hp2, ⟨by rw [List.length_append]; show A.length + 1 ≤ k + 1; omega, by omega, by rw [List.length_append]; show C.length + 1 ≤ k + 1; omega⟩, hb13.trans hb5⟩
            case measure => simp [intOf]; omega
          · have hp2 := Lib.hid (hp.out.more hin2.out hbe true true)
            have tr1 : ((r : Int) != 1) = true := bne_iff_ne.2 (by omega)
            have tr2 : ((r : Int) != 2) = true := bne_iff_ne.2 (by omega)
            go_wp2_with (first
              | (at_builtin; (with_reducible refine app_one_g (y := V x) rfl _ _ rfl oa3 rfl rfl ⟨V_lo x, V_64 x⟩ (by omega) hz3 ?_); (intro av' w5 oa5 hb5 hk5; obtain ⟨ob5, ab5⟩ := hk5 _ _ _ ob3 hab; obtain ⟨oc5, ca5⟩ := hk5 _ _ _ oc3 ca3.symm; have hb15 := hb13.trans hb5; have hz5 := hb15.size; replace oa5 := oa5.more; clear hk5 oa3 hb5))
              | (at_builtin; (with_reducible refine app_one_g (y := V x) rfl _ _ rfl ob5 rfl rfl ⟨V_lo x, V_64 x⟩ (by omega) hz5 ?_); (intro bv' w6 ob6 hb6 hk6; obtain ⟨oa6, ab6⟩ := hk6 _ _ _ oa5 ab5.symm; obtain ⟨oc6, cb6⟩ := hk6 _ _ _ oc5 cb3.symm; clear hk6)))
            go_roundw
            case rel => exact ⟨k + 1, A ++ [x], B ++ [x], C ++ [x], by omega, by go_num, ⟨oa6, ob6.more, oc6, ca5.symm, cb6.symm, ab6.symm⟩, hp2, ⟨by rw [List.length_append]; show A.length + 1 ≤ k + 1; omega, by rw [List.length_append]; show B.length + 1 ≤ k + 1; omega, by rw [List.length_append]; show C.length + 1 ≤ k + 1; omega⟩, hb15.trans hb6⟩
            case measure => simp [intOf]; omega
    · have hd : decide (k < nk) = false ∨ (decide (k < nk) = true ∧ decide (k < 12) = false) := by
        by_cases h : k < nk
        · exact .inr ⟨by simpa using h, by rw [decide_eq_false_iff_not]; omega⟩
        · exact .inl (by simpa using h)
      have hk12 : k ≤ 12 := by omega
      obtain ⟨X, hX⟩ := only_ex hp.out.na B
      obtain ⟨Y, hY⟩ := only_ex hp.out.nb A
      have hfew := hp.out.few hX hY
      have hfit : Hid (FitsS 14 A B X Y) := Lib.hid (OnlyOf.fits hp.out.a hp.out.b hX hY (by omega))
      have lX : X.length ≤ 12 := by omega
      have lY : Y.length ≤ 12 := by omega
      replace hX := Lib.hid hX
      replace hY := Lib.hid hY
      obtain ⟨pa, ca, hva, hca, hA, hpa⟩ := ht.oa.u'
      obtain ⟨pb, cb, hvb, hcb, hB, hpb⟩ := ht.ob.u'
      subst hva
      subst hvb
      clear ht hfew
      rcases hd with hd | ⟨hd, hd2⟩
      · skip
        go_wp2_with fail
        refine (Of_s ca 14 rfl hA (by omega) (by omega)).mono ?_
        rintro e w21 ⟨⟨q1, d1, rfl, k1, hd1, hq1⟩, hb21⟩
        replace hA := hA.below hb21
        replace hB := hB.below hb21
        replace hb := hb.trans (hb21.mono hb.size)
        clear hb21
        go_wp2_with fail
        refine (Of_s cb 14 rfl hB (by omega) (by omega)).mono ?_
        rintro e w22 ⟨⟨q2, d2, rfl, k2, hd2, hq2⟩, hb22⟩
        replace hA := hA.below hb22
        replace hB := hB.below hb22
        replace k1 := k1.below hb22
        replace hb := hb.trans (hb22.mono hb.size)
        clear hb22
        go_wp2_with fail
        refine (Diff_s d1 d2 k1 k2 rfl rfl (by omega) (by omega) (by omega) hp.out.b (.inl (by omega))).mono ?_
        rintro e w23 ⟨hD, hb23⟩
        clear k1 k2
        replace hA := hA.below hb23
        replace hB := hB.below hb23
        replace hb := hb.trans (hb23.mono hb.size)
        clear hb23
        rcases hD with ⟨X2, Y2, p9, c9, p10, c10, rfl, hX2, hY2, hf⟩ | ⟨_, hno⟩
        rotate_left
        · exact absurd hfit.out (hno.out _ _)
        have hf2 := FitsS.same (by omega) hp.out.a hp.out.b hf.out.1 hfit.out hf.out.2.1 hf.out.2.2 hX.out.1 hY.out.1
        obtain ⟨rfl, rfl⟩ := hf2
        obtain ⟨_, _, hvx, _, hX2⟩ := hX2.u
        injection hvx with ex1 _ ex2
        subst ex1
        subst ex2
        obtain ⟨_, _, hvy, _, hY2⟩ := hY2.u
        injection hvy with ey1 _ ey2
        subst ey1
        subst ey2
        clear hf hfit
        go_wp2_with fail
        refine (Only_s ca cb hA hB hp.out.na (by omega) (by omega)).mono ?_
        rintro e w24 ⟨⟨p13, c13, X3, rfl, h13, _, _, hX3⟩, hb24⟩
        replace hA := hA.below hb24
        replace hB := hB.below hb24
        replace hX2 := hX2.below hb24
        replace hY2 := hY2.below hb24
        replace hb := hb.trans (hb24.mono hb.size)
        clear hb24
        obtain rfl := OnlyOf.same hX3.out hX.out
        go_wp2_with fail
        refine (Same_s _ _ hX2 h13 rfl (by omega)).mono ?_
        rintro e w25 ⟨rfl, hb25⟩
        clear hX2 h13
        replace hA := hA.below hb25
        replace hB := hB.below hb25
        replace hY2 := hY2.below hb25
        replace hb := hb.trans (hb25.mono hb.size)
        clear hb25
        go_wp2_with fail
        refine (Only_s cb ca hB hA hp.out.nb (by omega) (by omega)).mono ?_
        rintro e w26 ⟨⟨p14, c14, Y3, rfl, h14, _, _, hY3⟩, hb26⟩
        replace hA := hA.below hb26
        replace hB := hB.below hb26
        replace hY2 := hY2.below hb26
        replace hb := hb.trans (hb26.mono hb.size)
        clear hb26
        obtain rfl := OnlyOf.same hY3.out hY.out
        go_wp2_with fail
        refine (Same_s _ _ hY2 h14 rfl (by omega)).mono ?_
        rintro e w27 ⟨rfl, hb27⟩
        clear hY2 h14
        replace hA := hA.below hb27
        replace hB := hB.below hb27
        replace hb := hb.trans (hb27.mono hb.size)
        clear hb27
        go_wp2_with fail
        refine (lives10 _).mono ?_
        rintro e w28 ⟨rfl, hb28⟩
        replace hA := hA.below hb28
        replace hB := hB.below hb28
        replace hb := hb.trans (hb28.mono hb.size)
        clear hb28
        go_wp2_with fail
        go_ret
        exact ⟨rfl, hb⟩
      · have hd3 : decide ((k : Int) < (12 : Int)) = false := by rw [decide_eq_false_iff_not] at hd2 ⊢; omega
        go_wp2_with fail
        refine (Of_s ca 14 rfl hA (by omega) (by omega)).mono ?_
        rintro e w21 ⟨⟨q1, d1, rfl, k1, hd1, hq1⟩, hb21⟩
        replace hA := hA.below hb21
        replace hB := hB.below hb21
        replace hb := hb.trans (hb21.mono hb.size)
        clear hb21
        go_wp2_with fail
        refine (Of_s cb 14 rfl hB (by omega) (by omega)).mono ?_
        rintro e w22 ⟨⟨q2, d2, rfl, k2, hd2, hq2⟩, hb22⟩
        replace hA := hA.below hb22
        replace hB := hB.below hb22
        replace k1 := k1.below hb22
        replace hb := hb.trans (hb22.mono hb.size)
        clear hb22
        go_wp2_with fail
        refine (Diff_s d1 d2 k1 k2 rfl rfl (by omega) (by omega) (by omega) hp.out.b (.inl (by omega))).mono ?_
        rintro e w23 ⟨hD, hb23⟩
        clear k1 k2
        replace hA := hA.below hb23
        replace hB := hB.below hb23
        replace hb := hb.trans (hb23.mono hb.size)
        clear hb23
        rcases hD with ⟨X2, Y2, p9, c9, p10, c10, rfl, hX2, hY2, hf⟩ | ⟨_, hno⟩
        rotate_left
        · exact absurd hfit.out (hno.out _ _)
        have hf2 := FitsS.same (by omega) hp.out.a hp.out.b hf.out.1 hfit.out hf.out.2.1 hf.out.2.2 hX.out.1 hY.out.1
        obtain ⟨rfl, rfl⟩ := hf2
        obtain ⟨_, _, hvx, _, hX2⟩ := hX2.u
        injection hvx with ex1 _ ex2
        subst ex1
        subst ex2
        obtain ⟨_, _, hvy, _, hY2⟩ := hY2.u
        injection hvy with ey1 _ ey2
        subst ey1
        subst ey2
        clear hf hfit
        go_wp2_with fail
        refine (Only_s ca cb hA hB hp.out.na (by omega) (by omega)).mono ?_
        rintro e w24 ⟨⟨p13, c13, X3, rfl, h13, _, _, hX3⟩, hb24⟩
        replace hA := hA.below hb24
        replace hB := hB.below hb24
        replace hX2 := hX2.below hb24
        replace hY2 := hY2.below hb24
        replace hb := hb.trans (hb24.mono hb.size)
        clear hb24
        obtain rfl := OnlyOf.same hX3.out hX.out
        go_wp2_with fail
        refine (Same_s _ _ hX2 h13 rfl (by omega)).mono ?_
        rintro e w25 ⟨rfl, hb25⟩
        clear hX2 h13
        replace hA := hA.below hb25
        replace hB := hB.below hb25
        replace hY2 := hY2.below hb25
        replace hb := hb.trans (hb25.mono hb.size)
        clear hb25
        go_wp2_with fail
        refine (Only_s cb ca hB hA hp.out.nb (by omega) (by omega)).mono ?_
        rintro e w26 ⟨⟨p14, c14, Y3, rfl, h14, _, _, hY3⟩, hb26⟩
        replace hA := hA.below hb26
        replace hB := hB.below hb26
        replace hY2 := hY2.below hb26
        replace hb := hb.trans (hb26.mono hb.size)
        clear hb26
        obtain rfl := OnlyOf.same hY3.out hY.out
        go_wp2_with fail
        refine (Same_s _ _ hY2 h14 rfl (by omega)).mono ?_
        rintro e w27 ⟨rfl, hb27⟩
        clear hY2 h14
        replace hA := hA.below hb27
        replace hB := hB.below hb27
        replace hb := hb.trans (hb27.mono hb.size)
        clear hb27
        go_wp2_with fail
        refine (lives10 _).mono ?_
        rintro e w28 ⟨rfl, hb28⟩
        replace hA := hA.below hb28
        replace hB := hB.below hb28
        replace hb := hb.trans (hb28.mono hb.size)
        clear hb28
        go_wp2_with fail
        go_ret
        exact ⟨rfl, hb⟩
end Go.Proofs.Ytelnhpcehmdffaa
