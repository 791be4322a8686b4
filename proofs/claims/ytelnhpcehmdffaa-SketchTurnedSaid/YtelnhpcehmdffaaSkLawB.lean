/-
  The walk of the statement that turned round Diff tells the same turned round.
-/
import Derived.Test.YtelnhpcehmdffaaGz
namespace Go.Proofs.Ytelnhpcehmdffaa
open Go.RowKit
attribute [local go_sem] T_V

set_option maxRecDepth 100000 in
set_option maxHeartbeats 6000000 in
theorem turned_walk (pl : Option Addr) (nl : Nat) (xl : List Int) (cl : Nat) (pm : Option Addr) (nm : Nat) (xm : List Int) (cm : Nat) (points : Int) (w : World) (hL : U w pl nl xl) (_ : nl ≤ cl) (hnL : nl ≤ 9223372036854775807) (_ : pl = none → cl = 0) (hM : U w pm nm xm) (_ : nm ≤ cm) (hnM : nm ≤ 9223372036854775807) (_ : pm = none → cm = 0) (points0 : -9223372036854775808 ≤ points) (points1 : points ≤ 9223372036854775807) :
    Calls Try.prog 5 #[.slice pl nl cl, .slice pm nm cm, .int .i64 points] w fun e w' => e = .returned (.bool true) ∧ Below w.heap.size w w' := by
  obtain ⟨S, eS, oS, lS⟩ := set_facts xl
  obtain ⟨R, eR, oR, lR⟩ := set_facts xm
  obtain ⟨r, er, hr⟩ := around_nat points 11 (by omega)
  obtain ⟨m, hm⟩ : ∃ m, 2 + r = m := ⟨_, rfl⟩
  have hmi : (2 : Int) + r = m := by omega
  go_enter Try.func5, Try.ntmps5
  go_wp2_with fail
  refine (Around_any points 11 _ points0 points1 (by omega) (by omega)).mono ?_
  rintro e _ ⟨rfl, rfl⟩
  rw [show around points 11 = r from er.out]
  go_wp2_with fail
  refine (Set_s hL hnL).mono ?_
  rintro e w2 ⟨⟨p1, c1, rfl, h1, hc1, hp1, _⟩, hb2⟩
  clear hL
  replace hM := hM.below hb2
  have hb := hb2
  clear hb2
  rw [eS.out] at h1 ⊢
  go_wp2_with fail
  refine (Of_s _ m rfl h1 (by omega) (by omega)).mono ?_
  rintro e w3 ⟨⟨q1, d1, rfl, k1, hd1, hq1⟩, hb3⟩
  clear h1
  replace hM := hM.below hb3
  replace hb := hb.trans (hb3.mono hb.size)
  clear hb3
  obtain ⟨bx, hbx⟩ := box_new w3 S.length (.slice q1 m d1)
  go_upto_region 3 with fail
  obtain ⟨wb1, eb⟩ : ∃ W, Hid (w3.alloc (.cells #[.int .i64 S.length, .slice q1 m d1] 30) = W) := ⟨_, Lib.hid rfl⟩
  rw [eb.out] at bx hbx ⊢
  clear eb
  have b1 := bx
  clear bx
  replace hM := hM.below hbx
  replace k1 := k1.below hbx
  replace hb := hb.trans (hbx.mono hb.size)
  clear hbx
  go_wp2_with fail
  refine (Set_s hM hnM).mono ?_
  rintro e w4 ⟨⟨p2, c2, rfl, h2, hc2, hp2, _⟩, hb4⟩
  clear hM
  replace k1 := k1.below hb4
  replace b1 := b1.below hb4
  replace hb := hb.trans (hb4.mono hb.size)
  clear hb4
  rw [eR.out] at h2 ⊢
  go_wp2_with fail
  refine (Of_s _ m rfl h2 (by omega) (by omega)).mono ?_
  rintro e w5 ⟨⟨q2, d2, rfl, k2, hd2, hq2⟩, hb5⟩
  clear h2
  replace k1 := k1.below hb5
  replace b1 := b1.below hb5
  replace hb := hb.trans (hb5.mono hb.size)
  clear hb5
  obtain ⟨bx, hbx⟩ := box_new w5 R.length (.slice q2 m d2)
  go_upto_region 4 with fail
  obtain ⟨wb2, eb⟩ : ∃ W, Hid (w5.alloc (.cells #[.int .i64 R.length, .slice q2 m d2] 30) = W) := ⟨_, Lib.hid rfl⟩
  rw [eb.out] at bx hbx ⊢
  clear eb
  have b2 := bx
  clear bx
  replace k1 := k1.below hbx
  replace b1 := b1.below hbx
  replace k2 := k2.below hbx
  replace hb := hb.trans (hbx.mono hb.size)
  clear hbx
  have xb10 := b1.c0
  have xb11 := b1.c1
  have xb20 := b2.c0
  have xb21 := b2.c1
  go_wp2_with fail
  refine (Diff_s d1 d2 k1 k2 rfl rfl (by omega) (by omega) (by omega) oR.out (.inl (by omega))).mono ?_
  rintro e w6 ⟨hD, hb6⟩
  replace k1 := k1.below hb6
  replace b1 := b1.below hb6
  replace k2 := k2.below hb6
  replace b2 := b2.below hb6
  replace hb := hb.trans (hb6.mono hb.size)
  clear hb6
  clear xb10 xb11 xb20 xb21
  rcases hD with ⟨X, Y, p3, c3, p4, c4, rfl, hX, hY, hf⟩ | ⟨rfl, hno⟩
  · have xb10 := b1.c0
    have xb11 := b1.c1
    have xb20 := b2.c0
    have xb21 := b2.c1
    go_wp2_with fail
    refine (Diff_s d2 d1 k2 k1 rfl rfl (by omega) (by omega) (by omega) oS.out (.inl (by omega))).mono ?_
    rintro e w7 ⟨hD, hb7⟩
    replace k1 := k1.below hb7
    replace b1 := b1.below hb7
    replace k2 := k2.below hb7
    replace b2 := b2.below hb7
    replace hX := hX.below hb7
    replace hY := hY.below hb7
    replace hb := hb.trans (hb7.mono hb.size)
    clear hb7
    clear xb10 xb11 xb20 xb21
    rcases hD with ⟨X2, Y2, p5, c5, p6, c6, rfl, hX2, hY2, hf2⟩ | ⟨rfl, hno2⟩
    rotate_left
    · exact absurd hf.out.1.turn (hno2.out _ _)
    have hs := FitsS.same (by omega) oS.out oR.out hf.out.1 hf2.out.1.turn hf.out.2.1 hf.out.2.2 hf2.out.2.2 hf2.out.2.1
    obtain ⟨rfl, rfl⟩ := hs
    have xb10 := b1.c0
    have xb11 := b1.c1
    go_wp2_with fail
    refine (Diff_s d1 d1 k1 k1 rfl rfl (by omega) (by omega) (by omega) oS.out (.inl (by omega))).mono ?_
    rintro e w8 ⟨hD, hb8⟩
    replace k1 := k1.below hb8
    replace b1 := b1.below hb8
    replace k2 := k2.below hb8
    replace b2 := b2.below hb8
    replace hX := hX.below hb8
    replace hY := hY.below hb8
    replace hX2 := hX2.below hb8
    replace hY2 := hY2.below hb8
    replace hb := hb.trans (hb8.mono hb.size)
    clear hb8
    clear xb10 xb11
    rcases hD with ⟨X3, Y3, p7, c7, p8, c8, rfl, _, _, hf3⟩ | ⟨_, hno3⟩
    rotate_left
    · exact absurd (FitsS.nil (by omega) S) (hno3.out _ _)
    have hs3 := FitsS.same (by omega) oS.out oS.out hf3.out.1 (FitsS.nil (by omega) S) hf3.out.2.1 hf3.out.2.2 Rise.nil Rise.nil
    have t31 : ((X3.length : Int) == 0) = true := by rw [hs3.1]; rfl
    have t32 : ((Y3.length : Int) == 0) = true := by rw [hs3.2]; rfl
    clear hs3 hf3
    obtain ⟨_, _, hvx, _, hX⟩ := hX.u
    injection hvx with ex1 _ ex2
    subst ex1
    subst ex2
    obtain ⟨_, _, hvy, _, hY⟩ := hY.u
    injection hvy with ey1 _ ey2
    subst ey1
    subst ey2
    obtain ⟨_, _, hvu, _, hX2⟩ := hX2.u
    injection hvu with eu1 _ eu2
    subst eu1
    subst eu2
    obtain ⟨_, _, hvv, _, hY2⟩ := hY2.u
    injection hvv with ev1 _ ev2
    subst ev1
    subst ev2
    have hlx : X.length ≤ 20 := by have := hf.out.1.few; omega
    have hly : Y.length ≤ 20 := by have := hf.out.1.few; omega
    clear hf hf2
    go_wp2_with fail
    refine (Same_s _ _ hX hY2 rfl (by omega)).mono ?_
    rintro e w9 ⟨rfl, hb9⟩
    replace k1 := k1.below hb9
    replace b1 := b1.below hb9
    replace k2 := k2.below hb9
    replace b2 := b2.below hb9
    replace hX := hX.below hb9
    replace hY := hY.below hb9
    replace hX2 := hX2.below hb9
    replace hY2 := hY2.below hb9
    replace hb := hb.trans (hb9.mono hb.size)
    clear hb9
    go_wp2_with fail
    refine (Same_s _ _ hY hX2 rfl (by omega)).mono ?_
    rintro e w10 ⟨rfl, hb10⟩
    replace k1 := k1.below hb10
    replace b1 := b1.below hb10
    replace k2 := k2.below hb10
    replace b2 := b2.below hb10
    replace hX := hX.below hb10
    replace hY := hY.below hb10
    replace hX2 := hX2.below hb10
    replace hY2 := hY2.below hb10
    replace hb := hb.trans (hb10.mono hb.size)
    clear hb10
    go_wp2_with fail
    refine (lives10 _).mono ?_
    rintro e w11 ⟨rfl, hb11⟩
    replace k1 := k1.below hb11
    replace b1 := b1.below hb11
    replace k2 := k2.below hb11
    replace b2 := b2.below hb11
    replace hX := hX.below hb11
    replace hY := hY.below hb11
    replace hX2 := hX2.below hb11
    replace hY2 := hY2.below hb11
    replace hb := hb.trans (hb11.mono hb.size)
    clear hb11
    go_wp2_with fail
    go_ret
    exact ⟨rfl, hb⟩
  · have xb10 := b1.c0
    have xb11 := b1.c1
    have xb20 := b2.c0
    have xb21 := b2.c1
    go_wp2_with fail
    refine (Diff_s d2 d1 k2 k1 rfl rfl (by omega) (by omega) (by omega) oS.out (.inl (by omega))).mono ?_
    rintro e w7 ⟨hD, hb7⟩
    replace k1 := k1.below hb7
    replace b1 := b1.below hb7
    replace k2 := k2.below hb7
    replace b2 := b2.below hb7
    replace hb := hb.trans (hb7.mono hb.size)
    clear hb7
    clear xb10 xb11 xb20 xb21
    rcases hD with ⟨X2, Y2, p5, c5, p6, c6, rfl, hX2, hY2, hf2⟩ | ⟨rfl, hno2⟩
    · exact absurd hf2.out.1.turn (hno.out _ _)
    have xb10 := b1.c0
    have xb11 := b1.c1
    go_wp2_with fail
    refine (Diff_s d1 d1 k1 k1 rfl rfl (by omega) (by omega) (by omega) oS.out (.inl (by omega))).mono ?_
    rintro e w8 ⟨hD, hb8⟩
    replace k1 := k1.below hb8
    replace b1 := b1.below hb8
    replace k2 := k2.below hb8
    replace b2 := b2.below hb8
    replace hb := hb.trans (hb8.mono hb.size)
    clear hb8
    clear xb10 xb11
    rcases hD with ⟨X3, Y3, p7, c7, p8, c8, rfl, _, _, hf3⟩ | ⟨_, hno3⟩
    rotate_left
    · exact absurd (FitsS.nil (by omega) S) (hno3.out _ _)
    have hs3 := FitsS.same (by omega) oS.out oS.out hf3.out.1 (FitsS.nil (by omega) S) hf3.out.2.1 hf3.out.2.2 Rise.nil Rise.nil
    have t31 : ((X3.length : Int) == 0) = true := by rw [hs3.1]; rfl
    have t32 : ((Y3.length : Int) == 0) = true := by rw [hs3.2]; rfl
    clear hs3 hf3
    go_wp2_with fail
    refine (Same_s _ _ U.nil U.nil rfl (by omega)).mono ?_
    rintro e w9 ⟨rfl, hb9⟩
    replace k1 := k1.below hb9
    replace b1 := b1.below hb9
    replace k2 := k2.below hb9
    replace b2 := b2.below hb9
    replace hb := hb.trans (hb9.mono hb.size)
    clear hb9
    go_wp2_with fail
    refine (Same_s _ _ U.nil U.nil rfl (by omega)).mono ?_
    rintro e w10 ⟨rfl, hb10⟩
    replace k1 := k1.below hb10
    replace b1 := b1.below hb10
    replace k2 := k2.below hb10
    replace b2 := b2.below hb10
    replace hb := hb.trans (hb10.mono hb.size)
    clear hb10
    go_wp2_with fail
    refine (lives10 _).mono ?_
    rintro e w11 ⟨rfl, hb11⟩
    replace k1 := k1.below hb11
    replace b1 := b1.below hb11
    replace k2 := k2.below hb11
    replace b2 := b2.below hb11
    replace hb := hb.trans (hb11.mono hb.size)
    clear hb11
    go_wp2_with fail
    go_ret
    exact ⟨rfl, hb⟩
end Go.Proofs.Ytelnhpcehmdffaa
