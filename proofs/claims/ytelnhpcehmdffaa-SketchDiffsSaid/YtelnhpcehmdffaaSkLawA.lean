/-
  The walk of the statement that Diff tells just the difference.
-/
import Derived.Test.YtelnhpcehmdffaaGz
namespace Go.Proofs.Ytelnhpcehmdffaa
open Go.RowKit
attribute [local go_sem] T_V

set_option maxRecDepth 100000 in
set_option maxHeartbeats 4000000 in
theorem diffs_walk (pl : Option Addr) (nl : Nat) (xl : List Int) (cl : Nat) (pm : Option Addr) (nm : Nat) (xm : List Int) (cm : Nat) (pb : Option Addr) (nb : Nat) (xb : List Int) (cb : Nat) (more : Int) (w : World) (hL : U w pl nl xl) (_ : nl ≤ cl) (hnL : nl ≤ 9223372036854775807) (_ : pl = none → cl = 0) (hM : U w pm nm xm) (_ : nm ≤ cm) (hnM : nm ≤ 9223372036854775807) (_ : pm = none → cm = 0) (hB : U w pb nb xb) (_ : nb ≤ cb) (hnB : nb ≤ 9223372036854775807) (_ : pb = none → cb = 0) (more0 : -9223372036854775808 ≤ more) (more1 : more ≤ 9223372036854775807) :
    Calls Try.prog 3 #[.slice pl nl cl, .slice pm nm cm, .slice pb nb cb, .int .i64 more] w fun e w' => e = .returned (.bool true) ∧ Below w.heap.size w w' := by
  obtain ⟨S, eS, oS, lS⟩ := set_facts xl
  obtain ⟨R, eR, oR, lR⟩ := set_facts xm
  obtain ⟨K, eK, oK, lK⟩ := set_facts xb
  obtain ⟨A1, eA1, oA1, lA1, mA1⟩ := un_facts oS oK lS lK
  obtain ⟨A2, eA2, oA2, lA2, mA2⟩ := un_facts oR oK lR lK
  obtain ⟨r, er, hr⟩ := around_nat more 7 (by omega)
  go_enter Try.func3, Try.ntmps3
  go_wp2_with fail
  refine (Set_s hL hnL).mono ?_
  rintro e w1 ⟨⟨p1, c1, rfl, h1, hc1, hp1, _⟩, hb1⟩
  clear hL
  replace hM := hM.below hb1
  replace hB := hB.below hb1
  have hb := hb1
  clear hb1
  rw [eS.out] at h1 ⊢
  go_wp2_with fail
  refine (Set_s hB hnB).mono ?_
  rintro e w2 ⟨⟨p2, c2, rfl, h2, hc2, hp2, _⟩, hb2⟩
  replace hM := hM.below hb2
  replace hB := hB.below hb2
  replace h1 := h1.below hb2
  replace hb := hb.trans (hb2.mono hb.size)
  clear hb2
  rw [eK.out] at h2 ⊢
  go_wp2_with fail
  refine (union_s c2 h1 h2 hp1 (by omega) (by omega)).mono ?_
  rintro e w3 ⟨⟨p3, c3, rfl, h3, hc3, hp3, _⟩, hb3⟩
  clear h1 h2
  replace hM := hM.below hb3
  replace hB := hB.below hb3
  replace hb := hb.trans (hb3.mono hb.size)
  clear hb3
  rw [eA1.out] at h3 ⊢
  go_wp2_with fail
  refine (Set_s hM hnM).mono ?_
  rintro e w4 ⟨⟨p4, c4, rfl, h4, hc4, hp4, _⟩, hb4⟩
  clear hM
  replace hB := hB.below hb4
  replace h3 := h3.below hb4
  replace hb := hb.trans (hb4.mono hb.size)
  clear hb4
  rw [eR.out] at h4 ⊢
  go_wp2_with fail
  refine (Set_s hB hnB).mono ?_
  rintro e w5 ⟨⟨p5, c5, rfl, h5, hc5, hp5, _⟩, hb5⟩
  clear hB
  replace h3 := h3.below hb5
  replace h4 := h4.below hb5
  replace hb := hb.trans (hb5.mono hb.size)
  clear hb5
  rw [eK.out] at h5 ⊢
  go_wp2_with fail
  refine (union_s c5 h4 h5 hp4 (by omega) (by omega)).mono ?_
  rintro e w6 ⟨⟨p6, c6, rfl, h6, hc6, hp6, _⟩, hb6⟩
  clear h4 h5
  replace h3 := h3.below hb6
  replace hb := hb.trans (hb6.mono hb.size)
  clear hb6
  rw [eA2.out] at h6 ⊢
  go_wp2_with fail
  refine (Only_s c3 c6 h3 h6 oA1.out.nd (by omega) (by omega)).mono ?_
  rintro e w7 ⟨⟨p7, c7, X, rfl, h7, hc7, hp7, hX⟩, hb7⟩
  replace h3 := h3.below hb7
  replace h6 := h6.below hb7
  replace hb := hb.trans (hb7.mono hb.size)
  clear hb7
  go_wp2_with fail
  refine (Only_s c6 c3 h6 h3 oA2.out.nd (by omega) (by omega)).mono ?_
  rintro e w8 ⟨⟨p8, c8, Y, rfl, h8, hc8, hp8, hY⟩, hb8⟩
  replace h3 := h3.below hb8
  replace h6 := h6.below hb8
  replace h7 := h7.below hb8
  replace hb := hb.trans (hb8.mono hb.size)
  clear hb8
  have lX := only_few mA1 mA2 hX lS
  have lY := only_few mA2 mA1 hY lR
  have hfit : Hid (FitsS (X.length + Y.length + 2 + r) A1 A2 X Y) := Lib.hid (OnlyOf.fits oA1.out oA2.out hX.out hY.out (by omega))
  go_wp2_with fail
  refine (Around_any more 7 _ more0 more1 (by omega) (by omega)).mono ?_
  rintro e _ ⟨rfl, rfl⟩
  rw [show around more 7 = r from er.out]
  obtain ⟨m, hm⟩ : ∃ m, X.length + Y.length + 2 + r = m := ⟨_, rfl⟩
  have hmi : (X.length : Int) + Y.length + 2 + r = m := by omega
  rw [hm] at hfit
  go_wp2_with fail
  refine (Of_s _ m rfl h3 (by omega) (by omega)).mono ?_
  rintro e w10 ⟨⟨q1, d1, rfl, k1, hd1, hq1⟩, hb10⟩
  clear h3
  replace h6 := h6.below hb10
  replace h7 := h7.below hb10
  replace h8 := h8.below hb10
  replace hb := hb.trans (hb10.mono hb.size)
  clear hb10
  go_wp2_with fail
  refine (Of_s _ m rfl h6 (by omega) (by omega)).mono ?_
  rintro e w11 ⟨⟨q2, d2, rfl, k2, hd2, hq2⟩, hb11⟩
  clear h6
  replace h7 := h7.below hb11
  replace h8 := h8.below hb11
  replace k1 := k1.below hb11
  replace hb := hb.trans (hb11.mono hb.size)
  clear hb11
  go_wp2_with fail
  refine (Diff_s d1 d2 k1 k2 rfl rfl (by omega) (by omega) (by omega) oA2.out (.inr ⟨X, Y, hfit.out, lX, lY⟩)).mono ?_
  rintro e w12 ⟨hD, hb12⟩
  clear k1 k2
  replace h7 := h7.below hb12
  replace h8 := h8.below hb12
  replace hb := hb.trans (hb12.mono hb.size)
  clear hb12
  rcases hD with ⟨X2, Y2, p9, c9, p10, c10, rfl, hX2, hY2, hf⟩ | ⟨_, hno⟩
  rotate_left
  · exact absurd hfit.out (hno.out _ _)
  have hf2 := FitsS.same (by omega) oA1.out oA2.out hf.out.1 hfit.out hf.out.2.1 hf.out.2.2 hX.out.1 hY.out.1
  obtain ⟨rfl, rfl⟩ := hf2
  obtain ⟨_, _, hvx, _, hX2⟩ := hX2.u
  injection hvx with ex1 _ ex2
  subst ex1
  subst ex2
  obtain ⟨_, _, hvy, _, hY2⟩ := hY2.u
  injection hvy with ey1 _ ey2
  subst ey1
  subst ey2
  clear hf
  go_wp2_with fail
  refine (Same_s _ _ hX2 h7 rfl (by omega)).mono ?_
  rintro e w13 ⟨rfl, hb13⟩
  clear hX2 h7
  replace h8 := h8.below hb13
  replace hY2 := hY2.below hb13
  replace hb := hb.trans (hb13.mono hb.size)
  clear hb13
  go_wp2_with fail
  refine (Same_s _ _ hY2 h8 rfl (by omega)).mono ?_
  rintro e w14 ⟨rfl, hb14⟩
  clear hY2 h8
  replace hb := hb.trans (hb14.mono hb.size)
  clear hb14
  go_wp2_with fail
  refine (lives10 _).mono ?_
  rintro e w15 ⟨rfl, hb15⟩
  replace hb := hb.trans (hb15.mono hb.size)
  clear hb15
  go_wp2_with fail
  go_ret
  exact ⟨rfl, hb⟩
end Go.Proofs.Ytelnhpcehmdffaa
