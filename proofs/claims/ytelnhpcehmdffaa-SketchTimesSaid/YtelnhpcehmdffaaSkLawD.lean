/-
  The walk of the statement that products join.
-/
import Derived.Test.YtelnhpcehmdffaaGz
namespace Go.Proofs.Ytelnhpcehmdffaa
open Go.RowKit
attribute [local go_sem] T_V

set_option maxRecDepth 100000 in
set_option maxHeartbeats 6000000 in
theorem times_walk (pl : Option Addr) (nl : Nat) (xl : List Int) (cl : Nat) (pm : Option Addr) (nm : Nat) (xm : List Int) (cm : Nat) (points : Int) (w : World) (hL : U w pl nl xl) (_ : nl ≤ cl) (hnL : nl ≤ 9223372036854775807) (_ : pl = none → cl = 0) (hM : U w pm nm xm) (_ : nm ≤ cm) (hnM : nm ≤ 9223372036854775807) (_ : pm = none → cm = 0) (points0 : -9223372036854775808 ≤ points) (points1 : points ≤ 9223372036854775807) :
    Calls Try.prog 7 #[.slice pl nl cl, .slice pm nm cm, .int .i64 points] w fun e w' => e = .returned (.bool true) ∧ Below w.heap.size w w' := by
  obtain ⟨S, eS, oS, lS⟩ := set_facts xl
  obtain ⟨R, eR, oR, lR⟩ := set_facts xm
  obtain ⟨r, er, hr⟩ := around_nat points 20 (by omega)
  obtain ⟨m, hm⟩ : ∃ m, 1 + r = m := ⟨_, rfl⟩
  have hmi : (1 : Int) + r = m := by omega
  go_enter Try.func7, Try.ntmps7
  go_wp2_with fail
  refine (Around_any points 20 _ points0 points1 (by omega) (by omega)).mono ?_
  rintro e _ ⟨rfl, rfl⟩
  rw [show around points 20 = r from er.out]
  go_wp2_with fail
  refine (Set_s hL hnL).mono ?_
  rintro e w2 ⟨⟨p1, c1, rfl, h1, hc1, hp1, _⟩, hb2⟩
  clear hL
  replace hM := hM.below hb2
  have hb := hb2
  clear hb2
  rw [eS.out] at h1 ⊢
  go_wp2_with fail
  refine (Set_s hM hnM).mono ?_
  rintro e w3 ⟨⟨p2, c2, rfl, h2, hc2, hp2, _⟩, hb3⟩
  clear hM
  replace h1 := h1.below hb3
  replace hb := hb.trans (hb3.mono hb.size)
  clear hb3
  rw [eR.out] at h2 ⊢
  go_wp2_with fail
  refine (Only_s c2 c1 h2 h1 oR.out.nd (by omega) (by omega)).mono ?_
  rintro e w4 ⟨⟨p3, c3, X, rfl, h3, hc3, hp3, hX⟩, hb4⟩
  clear h2
  replace h1 := h1.below hb4
  replace hb := hb.trans (hb4.mono hb.size)
  clear hb4
  have lX : X.length ≤ 12 := Nat.le_trans (hX.out.sub fun x h _ => h) lR
  clear hX
  go_wp2_with fail
  refine (Of_s _ m rfl h1 (by omega) (by omega)).mono ?_
  rintro e w5 ⟨⟨q4, d4, rfl, k4, hd4, hq4⟩, hb5⟩
  replace h1 := h1.below hb5
  replace h3 := h3.below hb5
  replace hb := hb.trans (hb5.mono hb.size)
  clear hb5
  obtain ⟨bx, hbx⟩ := box_new w5 S.length (.slice q4 m d4)
  go_upto_region 5 with fail
  obtain ⟨wb1, eb⟩ : ∃ W, Hid (w5.alloc (.cells #[.int .i64 S.length, .slice q4 m d4] 30) = W) := ⟨_, Lib.hid rfl⟩
  rw [eb.out] at bx hbx ⊢
  clear eb
  have b1 := bx
  clear bx
  replace h1 := h1.below hbx
  replace h3 := h3.below hbx
  replace k4 := k4.below hbx
  replace hb := hb.trans (hbx.mono hb.size)
  clear hbx
  go_wp2_with fail
  refine (Of_s _ m rfl h3 (by omega) (by omega)).mono ?_
  rintro e w6 ⟨⟨q5, d5, rfl, k5, hd5, hq5⟩, hb6⟩
  replace h1 := h1.below hb6
  replace h3 := h3.below hb6
  replace k4 := k4.below hb6
  replace b1 := b1.below hb6
  replace hb := hb.trans (hb6.mono hb.size)
  clear hb6
  obtain ⟨bx, hbx⟩ := box_new w6 X.length (.slice q5 m d5)
  go_upto_region 6 with fail
  obtain ⟨wb2, eb⟩ : ∃ W, Hid (w6.alloc (.cells #[.int .i64 X.length, .slice q5 m d5] 30) = W) := ⟨_, Lib.hid rfl⟩
  rw [eb.out] at bx hbx ⊢
  clear eb
  have b2 := bx
  clear bx
  replace h1 := h1.below hbx
  replace h3 := h3.below hbx
  replace k4 := k4.below hbx
  replace b1 := b1.below hbx
  replace k5 := k5.below hbx
  replace hb := hb.trans (hbx.mono hb.size)
  clear hbx
  obtain ⟨nu, hnu⟩ : ∃ nu, S.length + X.length = nu := ⟨_, rfl⟩
  have hnui : (S.length : Int) + X.length = nu := by omega
  have ho0 := Own.none_at wb2
  have hbl := Below.lit wb2 (.cells #[] 40)
  have hl1 := h1.below hbl
  have hs0 := hbl.size
  have hl3 := h3.below hbl
  go_wp2_with (first
    | (at_builtin; (with_reducible refine app_many rfl _ _ rfl ho0 rfl rfl hl1 hp1 (by omega) hs0 ?_); (intro v6 w6 ho6 hb6; rw [Nat.zero_add, List.nil_append] at ho6; have hb26 := hbl.trans hb6; have hl36 := h3.below hb26; clear ho0 hl1))
    | (at_builtin; (with_reducible refine app_many rfl _ _ rfl ho6 rfl rfl hl36 hp3 (by omega) hb26.size ?_); (intro v7 w7 ho7 hb7; rw [hnu, ← List.map_append] at ho7; have hb27 := hb26.trans hb7; obtain ⟨p7, c7, rfl, hc7, h7, hp7⟩ := ho7.u'; clear ho6 hl36)))
  clear hl3 hb26 hb7 hb6 hs0 hbl
  have hbz := hb27
  clear hb27
  replace h1 := h1.below hbz
  replace h3 := h3.below hbz
  replace k4 := k4.below hbz
  replace b1 := b1.below hbz
  replace k5 := k5.below hbz
  replace b2 := b2.below hbz
  replace hb := hb.trans (hbz.mono hb.size)
  clear hbz
  clear h1 h3
  refine (Of_s _ m rfl h7 (by omega) (by omega)).mono ?_
  rintro e w7 ⟨⟨q6, d6, rfl, k6, hd6, hq6⟩, hb7⟩
  clear h7
  replace k4 := k4.below hb7
  replace b1 := b1.below hb7
  replace k5 := k5.below hb7
  replace b2 := b2.below hb7
  replace hb := hb.trans (hb7.mono hb.size)
  clear hb7
  obtain ⟨bx, hbx⟩ := box_new w7 nu (.slice q6 m d6)
  go_upto_region 7 with fail
  obtain ⟨wb3, eb⟩ : ∃ W, Hid (w7.alloc (.cells #[.int .i64 nu, .slice q6 m d6] 30) = W) := ⟨_, Lib.hid rfl⟩
  rw [eb.out] at bx hbx ⊢
  clear eb
  have b3 := bx
  clear bx
  replace k4 := k4.below hbx
  replace b1 := b1.below hbx
  replace k5 := k5.below hbx
  replace b2 := b2.below hbx
  replace k6 := k6.below hbx
  replace hb := hb.trans (hbx.mono hb.size)
  clear hbx
  have xb10 := b1.c0
  have xb11 := b1.c1
  have xb20 := b2.c0
  have xb21 := b2.c1
  have xb30 := b3.c0
  have xb31 := b3.c1
  have tm : ((m : Int) != m) = false := bne_self_eq_false _
  have tn : ((nu : Int) != nu) = false := bne_self_eq_false _
  go_wp2_with fail
  clear xb10 xb11 xb20 xb21 xb30 xb31
  go_loopw [13] (fun kv wr => ∃ k : Nat, k ≤ m ∧ kv = .int .i64 k ∧ Below wb3.heap.size wb3 wr) (fun kv _ => m - (intOf kv).toNat)
  case atStart => exact ⟨0, Nat.zero_le _, rfl, Below.refl _ _⟩
  case round =>
    obtain ⟨k, hk, rfl, hbr⟩ := hrel
    by_cases hlk : k < m
    · have x11 := (b1.below hbr).c1
      have x21 := (b2.below hbr).c1
      have x31 := (b3.below hbr).c1
      obtain ⟨g4, o4, rfl, _, y4, _, _⟩ := (k4.below hbr).look hlk
      obtain ⟨g5, o5, rfl, _, y5, _, _⟩ := (k5.below hbr).look hlk
      obtain ⟨g6, o6, rfl, _, y6, _, _⟩ := (k6.below hbr).look hlk
      rw [nth_vals hlk] at y4 y5 y6
      have tz : (V (valF (S ++ X) (ptF k)) != V (valF S (ptF k) * valF X (ptF k))) = false := by rw [valF_app]; exact bne_self_eq_false _
      generalize valF (S ++ X) (ptF k) = zu at *
      generalize valF S (ptF k) = zs at *
      generalize valF X (ptF k) = zt at *
      have it0 : (0 : Int) ≤ (k : Int) := by omega
      have it1 : (k : Int) < (m : Int) := by omega
      go_wp2_with fail
      refine wp_region_still_lit (by kernel_rfl) (by kernel_rfl) ?_
      repeat (first
        | still_step
        | (still_call (still_of (mul_any _ _ _ (V_lo _) (V_64 _) (V_lo _) (V_64 _)))))
      refine wpStill_nil ?_
      change Exit.then _ _ _ _ wr.drew
      go_wp2
      go_roundw
      case rel => exact ⟨k + 1, by omega, by go_num, hbr.drew⟩
      case measure => simp [intOf]; omega
    · have hbw := hb.trans (hbr.mono hb.size)
      go_wp2_with fail
      refine (lives10 _).mono ?_
      rintro e w8 ⟨rfl, hb8⟩
      go_wp2_with fail
      go_ret
      exact ⟨rfl, hbw.trans (hb8.mono hbw.size)⟩
end Go.Proofs.Ytelnhpcehmdffaa
