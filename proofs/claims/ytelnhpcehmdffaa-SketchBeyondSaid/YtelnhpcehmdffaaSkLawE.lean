/-
  The walk of the statement on what values cannot tell.
-/
import Derived.Test.YtelnhpcehmdffaaSkY
import Derived.Test.YtelnhpcehmdffaaSkQ
namespace Go.Proofs.Ytelnhpcehmdffaa
open Go.RowKit
attribute [local go_sem] T_V

theorem Of_b {p : Option Addr} {n : Nat} {L : List F} (c : Nat) {w0 w : World} (m : Nat) {z : Int} (hz : z = m) (hb : Below w0.heap.size w0 w) (hX : U w0 p n (L.map V)) (hn : n ≤ 1000000) (hm : m < 1000) :
    Calls Try.prog 16 #[.slice p n c, .int .i64 z] w fun e w' => RetsK e w' n m L ∧ Below w0.heap.size w0 w' :=
  (Of_s c m hz (hX.below hb) hn hm).mono fun _ _ ⟨h, h2⟩ => ⟨h, hb.trans (h2.mono hb.size)⟩
theorem Arg_b {pa pb : Option Addr} {n m na nb : Nat} (ca cb : Nat) {w0 w : World} (hb : Below w0.heap.size w0 w) (hne : n ≠ m) :
    Calls Try.prog 15 #[.agg #[.int .i64 na, .slice pa n ca], .agg #[.int .i64 nb, .slice pb m cb]] w fun e w' => e = .returned (.tuple #[.slice none 0 0, .slice none 0 0, .int .i64 1]) ∧ Below w0.heap.size w0 w' :=
  (Diff_arg pa pb n m ca cb na nb w hne).mono fun _ _ ⟨h, h2⟩ => ⟨h, hb.trans (h2.mono hb.size)⟩
theorem Diff_b {pa pb : Option Addr} {m na nb : Nat} {L M : List F} (ca cb : Nat) {w0 w : World} (hb : Below w0.heap.size w0 w) (hA : U w0 pa m ((valsL L m).map V)) (hB : U w pb m ((valsL M m).map V)) (hL : L.length = na) (hM : M.length = nb) (hm : m ≤ 14) (ha : na ≤ 1000000) (hn : nb ≤ 1000000) (hMo : SetOk M) :
    Calls Try.prog 15 #[.agg #[.int .i64 na, .slice pa m ca], .agg #[.int .i64 nb, .slice pb m cb]] w fun e w' => (∃ px nx cx py ny cy er, e = .returned (.tuple #[.slice px nx cx, .slice py ny cy, .int .i64 er]) ∧ (er == 1) = false) ∧ Below w0.heap.size w0 w' :=
  (Diff_s ca cb (hA.below hb) hB hL hM (by omega) ha hn hMo (.inl hm)).mono fun _ _ ⟨h, h2⟩ => ⟨by
    obtain ⟨px, nx, cx, py, ny, cy, er, he, _, _, _, hv⟩ := h.w
    refine ⟨px, nx, cx, py, ny, cy, er, he, ?_⟩
    rcases hv.out with ⟨rfl, _⟩ | ⟨rfl, _⟩ <;> rfl, hb.trans (h2.mono hb.size)⟩
theorem Values_s {p : Option Addr} {n : Nat} {L : List F} (c : Nat) {w : World} (m : Nat) {z : Int} (hz : z = m) (hX : U w p n (L.map V)) (hn : n ≤ 1000000) (hm : m < 1000) :
    Calls Try.prog 21 #[.slice p n c, .int .i64 z] w fun e w' => (∃ q d, e = .returned (.slice q m d) ∧ U w' q m ((valsL L m).map V)) ∧ Below w.heap.size w w' := by
  subst hz
  refine (Values_any p n _ c m w hX hn hm).mono fun _ _ ⟨v, he, ho, hb⟩ => ?_
  rw [map_TV] at ho
  obtain ⟨q, d, rfl, _, hU⟩ := ho.u
  exact ⟨⟨q, d, he, hU⟩, hb⟩
set_option maxRecDepth 100000 in
set_option maxHeartbeats 12000000 in
theorem beyond_walk (pl : Option Addr) (nl : Nat) (xl : List Int) (cl : Nat) (pm : Option Addr) (nm : Nat) (xm : List Int) (cm : Nat) (points : Int) (other : Int) (w : World) (hL : U w pl nl xl) (_ : nl ≤ cl) (hnL : nl ≤ 9223372036854775807) (_ : pl = none → cl = 0) (hM : U w pm nm xm) (_ : nm ≤ cm) (hnM : nm ≤ 9223372036854775807) (_ : pm = none → cm = 0) (points0 : -9223372036854775808 ≤ points) (points1 : points ≤ 9223372036854775807) (other0 : -9223372036854775808 ≤ other) (other1 : other ≤ 9223372036854775807) :
    Calls Try.prog 4 #[.slice pl nl cl, .slice pm nm cm, .int .i64 points, .int .i64 other] w fun e w' => e = .returned (.bool true) ∧ Below w.heap.size w w' := by
  obtain ⟨S, eS, oS, lS⟩ := set_facts xl
  obtain ⟨R, eR, oR, lR⟩ := set_facts xm
  obtain ⟨n, en, hn13⟩ := around_nat points 13 (by omega)
  obtain ⟨k, ek, hk13⟩ := around_nat other 13 (by omega)
  go_enter Try.func4, Try.ntmps4
  go_wp2_with fail
  refine (Set_s hL hnL).mono ?_
  rintro e w1 ⟨⟨p1, c1, rfl, h1, hc1, hp1, _⟩, hb1⟩
  clear hL
  replace hM := hM.below hb1
  have hb := hb1
  clear hb1
  rw [eS.out] at h1 ⊢
  go_wp2_with fail
  refine (Set_s hM hnM).mono ?_
  rintro e w2 ⟨⟨p2, c2, rfl, h2, hc2, hp2, _⟩, hb2⟩
  clear hM
  replace h1 := h1.below hb2
  replace hb := hb.trans (hb2.mono hb.size)
  clear hb2
  rw [eR.out] at h2 ⊢
  go_wp2_with fail
  refine (Around_any points 13 _ points0 points1 (by omega) (by omega)).mono ?_
  rintro e _ ⟨rfl, rfl⟩
  rw [show around points 13 = n from en.out]
  go_wp2_with fail
  refine (Around_any other 13 _ other0 other1 (by omega) (by omega)).mono ?_
  rintro e _ ⟨rfl, rfl⟩
  rw [show around other 13 = k from ek.out]
  go_wp2_with fail
  refine (Of_s _ n rfl h1 (by omega) (by omega)).mono ?_
  rintro e w5 ⟨⟨q3, d3, rfl, k3, hd3, hq3⟩, hb5⟩
  replace h1 := h1.below hb5
  replace h2 := h2.below hb5
  replace hb := hb.trans (hb5.mono hb.size)
  clear hb5
  obtain ⟨bx, hbx⟩ := box_new w5 S.length (.slice q3 n d3)
  go_upto_region 6 with fail
  obtain ⟨wb1, eb⟩ : ∃ W, Hid (w5.alloc (.cells #[.int .i64 S.length, .slice q3 n d3] 30) = W) := ⟨_, Lib.hid rfl⟩
  rw [eb.out] at bx hbx ⊢
  clear eb
  have b1 := bx
  clear bx
  replace h1 := h1.below hbx
  replace h2 := h2.below hbx
  replace k3 := k3.below hbx
  replace hb := hb.trans (hbx.mono hb.size)
  clear hbx
  go_wp2_with fail
  refine (Of_s _ n rfl h2 (by omega) (by omega)).mono ?_
  rintro e w6 ⟨⟨q4, d4, rfl, k4, hd4, hq4⟩, hb6⟩
  replace h1 := h1.below hb6
  replace h2 := h2.below hb6
  replace k3 := k3.below hb6
  replace b1 := b1.below hb6
  replace hb := hb.trans (hb6.mono hb.size)
  clear hb6
  obtain ⟨bx, hbx⟩ := box_new w6 R.length (.slice q4 n d4)
  go_upto_region 7 with fail
  obtain ⟨wb2, eb⟩ : ∃ W, Hid (w6.alloc (.cells #[.int .i64 R.length, .slice q4 n d4] 30) = W) := ⟨_, Lib.hid rfl⟩
  rw [eb.out] at bx hbx ⊢
  clear eb
  have b2 := bx
  clear bx
  replace h1 := h1.below hbx
  replace h2 := h2.below hbx
  replace k3 := k3.below hbx
  replace b1 := b1.below hbx
  replace k4 := k4.below hbx
  replace hb := hb.trans (hbx.mono hb.size)
  clear hbx
  have xb10 := b1.c0
  have xb11 := b1.c1
  have xb20 := b2.c0
  have xb21 := b2.c1
  go_wp2_with fail
  refine (Diff_s d3 d4 k3 k4 rfl rfl (by omega) (by omega) (by omega) oR.out (.inl (by omega))).mono ?_
  rintro e w7 ⟨hD, hb7⟩
  replace h1 := h1.below hb7
  replace h2 := h2.below hb7
  replace k3 := k3.below hb7
  replace b1 := b1.below hb7
  replace k4 := k4.below hb7
  replace b2 := b2.below hb7
  replace hb := hb.trans (hb7.mono hb.size)
  clear hb7
  clear xb10 xb11 xb20 xb21
  have hbd : Below w7.heap.size w7 w7.drew := (Below.refl _ _).drew
  have xb10 := b1.c0
  have xb11 := b1.c1
  rcases hD with ⟨X, Y, p5, c5, p6, c6, rfl, hX, hY, hf⟩ | ⟨rfl, hno⟩
  · by_cases hkn : k = n
    · subst hkn
      have tk : ((k : Int) != k) = false := bne_self_eq_false _
      go_wp2_with fail
      go_region_held3 (fun W => (W.cell? ⟨w5.heap.size, 0, none⟩ = some (.int .i64 S.length) ∧ W.cell? ⟨w5.heap.size, 1, none⟩ = some (.slice q3 k d3)) ∧ Below w7.heap.size w7 W) (exact keep2b (by assumption) xb10 xb11) (first
        | (go_simp; go_at_call 16; (with_reducible refine (Of_b c2 k rfl (by assumption) h2 (by omega) (by omega)).mono ?_); rintro e w9 ⟨⟨q9, d9, rfl, k9, _, _⟩, hb9⟩)
        | (go_simp; go_at_call 15; (with_reducible refine (Diff_b d3 d9 (by assumption) k3 k9 rfl rfl (by omega) (by omega) (by omega) oR.out).mono ?_); rintro e w10 ⟨⟨px, nx, cx, py, ny, cy, er, rfl, ter⟩, hb10⟩)
        | fail)
      clear xb10 xb11 k9 hb9 hbd
      clear b1 b2 k3 k4
      replace h1 := h1.below hb10
      replace h2 := h2.below hb10
      replace hX := hX.below hb10
      replace hY := hY.below hb10
      replace hb := hb.trans (hb10.mono hb.size)
      clear hb10
      have hlx : X.length ≤ 20 := by have := hf.out.1.few; omega
      have hly : Y.length ≤ 20 := by have := hf.out.1.few; omega
      have hpx := hX.nilc
      have hpy := hY.nilc
      obtain ⟨_, _, hvx, _, hX⟩ := hX.u
      injection hvx with ex1 _ ex2
      subst ex1
      subst ex2
      obtain ⟨_, _, hvy, _, hY⟩ := hY.u
      injection hvy with ey1 _ ey2
      subst ey1
      subst ey2
      go_wp2_with fail
      refine (rises_any _ _ X _ _ hX hf.out.2.1 (by omega)).mono ?_
      rintro e w8 ⟨rfl, hb8⟩
      replace h1 := h1.below hb8
      replace h2 := h2.below hb8
      replace hX := hX.below hb8
      replace hY := hY.below hb8
      replace hb := hb.trans (hb8.mono hb.size)
      clear hb8
      go_wp2_with fail
      refine (rises_any _ _ Y _ _ hY hf.out.2.2 (by omega)).mono ?_
      rintro e w9 ⟨rfl, hb9⟩
      replace h1 := h1.below hb9
      replace h2 := h2.below hb9
      replace hX := hX.below hb9
      replace hY := hY.below hb9
      replace hb := hb.trans (hb9.mono hb.size)
      clear hb9
      go_wp2_with fail
      refine (Values_s c1 k rfl h1 (by omega) (by omega)).mono ?_
      rintro e w10 ⟨⟨q11, d11, rfl, k11⟩, hb10⟩
      replace h1 := h1.below hb10
      replace h2 := h2.below hb10
      replace hX := hX.below hb10
      replace hY := hY.below hb10
      replace hb := hb.trans (hb10.mono hb.size)
      clear hb10
      go_wp2_with fail
      refine (Values_s c2 k rfl h2 (by omega) (by omega)).mono ?_
      rintro e w11 ⟨⟨q12, d12, rfl, k12⟩, hb11⟩
      replace h1 := h1.below hb11
      replace h2 := h2.below hb11
      replace hX := hX.below hb11
      replace hY := hY.below hb11
      replace k11 := k11.below hb11
      replace hb := hb.trans (hb11.mono hb.size)
      clear hb11
      go_wp2_with fail
      refine (Fit_yes _ _ d11 d12 hX hY hpx hpy k11 k12 hf.out.1 (by omega) rfl rfl (by omega) (by omega)).mono ?_
      rintro e w12 ⟨rfl, hb12⟩
      replace h1 := h1.below hb12
      replace h2 := h2.below hb12
      replace hX := hX.below hb12
      replace hY := hY.below hb12
      replace k11 := k11.below hb12
      replace k12 := k12.below hb12
      replace hb := hb.trans (hb12.mono hb.size)
      clear hb12
      go_wp2_with fail
      refine (lives10 _).mono ?_
      rintro e w13 ⟨rfl, hb13⟩
      replace h1 := h1.below hb13
      replace h2 := h2.below hb13
      replace hX := hX.below hb13
      replace hY := hY.below hb13
      replace k11 := k11.below hb13
      replace k12 := k12.below hb13
      replace hb := hb.trans (hb13.mono hb.size)
      clear hb13
      go_wp2_with fail
      go_ret
      exact ⟨rfl, hb⟩
    · have tk : ((k : Int) != n) = true := bne_iff_ne.2 (by omega)
      have hnk : n ≠ k := fun e => hkn e.symm
      go_wp2_with fail
      go_region_held3 (fun W => (W.cell? ⟨w5.heap.size, 0, none⟩ = some (.int .i64 S.length) ∧ W.cell? ⟨w5.heap.size, 1, none⟩ = some (.slice q3 n d3)) ∧ Below w7.heap.size w7 W) (exact keep2b (by assumption) xb10 xb11) (first
        | (go_simp; go_at_call 16; (with_reducible refine (Of_b c2 k rfl (by assumption) h2 (by omega) (by omega)).mono ?_); rintro e w9 ⟨⟨q9, d9, rfl, k9, _, _⟩, hb9⟩)
        | (go_simp; go_at_call 15; (with_reducible refine (Arg_b d3 d9 (by assumption) hnk).mono ?_); rintro e w10 ⟨rfl, hb10⟩)
        | fail)
      clear xb10 xb11 k9 hb9 hbd
      clear b1 b2 k3 k4
      replace h1 := h1.below hb10
      replace h2 := h2.below hb10
      replace hX := hX.below hb10
      replace hY := hY.below hb10
      replace hb := hb.trans (hb10.mono hb.size)
      clear hb10
      have hlx : X.length ≤ 20 := by have := hf.out.1.few; omega
      have hly : Y.length ≤ 20 := by have := hf.out.1.few; omega
      have hpx := hX.nilc
      have hpy := hY.nilc
      obtain ⟨_, _, hvx, _, hX⟩ := hX.u
      injection hvx with ex1 _ ex2
      subst ex1
      subst ex2
      obtain ⟨_, _, hvy, _, hY⟩ := hY.u
      injection hvy with ey1 _ ey2
      subst ey1
      subst ey2
      go_wp2_with fail
      refine (rises_any _ _ X _ _ hX hf.out.2.1 (by omega)).mono ?_
      rintro e w8 ⟨rfl, hb8⟩
      replace h1 := h1.below hb8
      replace h2 := h2.below hb8
      replace hX := hX.below hb8
      replace hY := hY.below hb8
      replace hb := hb.trans (hb8.mono hb.size)
      clear hb8
      go_wp2_with fail
      refine (rises_any _ _ Y _ _ hY hf.out.2.2 (by omega)).mono ?_
      rintro e w9 ⟨rfl, hb9⟩
      replace h1 := h1.below hb9
      replace h2 := h2.below hb9
      replace hX := hX.below hb9
      replace hY := hY.below hb9
      replace hb := hb.trans (hb9.mono hb.size)
      clear hb9
      go_wp2_with fail
      refine (Values_s c1 n rfl h1 (by omega) (by omega)).mono ?_
      rintro e w10 ⟨⟨q11, d11, rfl, k11⟩, hb10⟩
      replace h1 := h1.below hb10
      replace h2 := h2.below hb10
      replace hX := hX.below hb10
      replace hY := hY.below hb10
      replace hb := hb.trans (hb10.mono hb.size)
      clear hb10
      go_wp2_with fail
      refine (Values_s c2 n rfl h2 (by omega) (by omega)).mono ?_
      rintro e w11 ⟨⟨q12, d12, rfl, k12⟩, hb11⟩
      replace h1 := h1.below hb11
      replace h2 := h2.below hb11
      replace hX := hX.below hb11
      replace hY := hY.below hb11
      replace k11 := k11.below hb11
      replace hb := hb.trans (hb11.mono hb.size)
      clear hb11
      go_wp2_with fail
      refine (Fit_yes _ _ d11 d12 hX hY hpx hpy k11 k12 hf.out.1 (by omega) rfl rfl (by omega) (by omega)).mono ?_
      rintro e w12 ⟨rfl, hb12⟩
      replace h1 := h1.below hb12
      replace h2 := h2.below hb12
      replace hX := hX.below hb12
      replace hY := hY.below hb12
      replace k11 := k11.below hb12
      replace k12 := k12.below hb12
      replace hb := hb.trans (hb12.mono hb.size)
      clear hb12
      go_wp2_with fail
      refine (lives10 _).mono ?_
      rintro e w13 ⟨rfl, hb13⟩
      replace h1 := h1.below hb13
      replace h2 := h2.below hb13
      replace hX := hX.below hb13
      replace hY := hY.below hb13
      replace k11 := k11.below hb13
      replace k12 := k12.below hb13
      replace hb := hb.trans (hb13.mono hb.size)
      clear hb13
      go_wp2_with fail
      go_ret
      exact ⟨rfl, hb⟩
  · by_cases hkn : k = n
    · subst hkn
      have tk : ((k : Int) != k) = false := bne_self_eq_false _
      go_wp2_with fail
      go_region_held3 (fun W => (W.cell? ⟨w5.heap.size, 0, none⟩ = some (.int .i64 S.length) ∧ W.cell? ⟨w5.heap.size, 1, none⟩ = some (.slice q3 k d3)) ∧ Below w7.heap.size w7 W) (exact keep2b (by assumption) xb10 xb11) (first
        | (go_simp; go_at_call 16; (with_reducible refine (Of_b c2 k rfl (by assumption) h2 (by omega) (by omega)).mono ?_); rintro e w9 ⟨⟨q9, d9, rfl, k9, _, _⟩, hb9⟩)
        | (go_simp; go_at_call 15; (with_reducible refine (Diff_b d3 d9 (by assumption) k3 k9 rfl rfl (by omega) (by omega) (by omega) oR.out).mono ?_); rintro e w10 ⟨⟨px, nx, cx, py, ny, cy, er, rfl, ter⟩, hb10⟩)
        | fail)
      clear xb10 xb11 k9 hb9 hbd
      clear b1 b2 k3 k4
      replace h1 := h1.below hb10
      replace h2 := h2.below hb10
      replace hb := hb.trans (hb10.mono hb.size)
      clear hb10
      go_wp2_with fail
      refine (Only_s c1 c2 h1 h2 oS.out.nd (by omega) (by omega)).mono ?_
      rintro e w8 ⟨⟨p13, c13, X, rfl, h13, _, _, hX⟩, hb8⟩
      replace h1 := h1.below hb8
      replace h2 := h2.below hb8
      replace hb := hb.trans (hb8.mono hb.size)
      clear hb8
      go_wp2_with fail
      refine (Only_s c2 c1 h2 h1 oR.out.nd (by omega) (by omega)).mono ?_
      rintro e w9 ⟨⟨p14, c14, Y, rfl, h14, _, _, hY⟩, hb9⟩
      replace h1 := h1.below hb9
      replace h2 := h2.below hb9
      replace hb := hb.trans (hb9.mono hb.size)
      clear hb9
      have hbig : k < X.length + Y.length + 2 := Nat.lt_of_not_le fun h => hno.out X Y (OnlyOf.fits oS.out oR.out hX.out hY.out h)
      obtain ⟨s, hs⟩ : ∃ s, X.length + Y.length = s := ⟨_, rfl⟩
      have hsi : (X.length : Int) + Y.length = s := by omega
      obtain ⟨t, ht⟩ : ∃ t : Int, (k : Int) - 2 = t := ⟨_, rfl⟩
      have td : decide (t < (s : Int)) = true := by rw [decide_eq_true_eq]; omega
      have lX : X.length ≤ 12 := Nat.le_trans (hX.out.sub fun x h _ => h) lS
      have lY : Y.length ≤ 12 := Nat.le_trans (hY.out.sub fun x h _ => h) lR
      clear hbig hno hX hY
      go_wp2_with fail
      refine (lives10 _).mono ?_
      rintro e w10 ⟨rfl, hb10⟩
      replace h1 := h1.below hb10
      replace h2 := h2.below hb10
      replace hb := hb.trans (hb10.mono hb.size)
      clear hb10
      go_wp2_with fail
      go_ret
      exact ⟨rfl, hb⟩
    · have tk : ((k : Int) != n) = true := bne_iff_ne.2 (by omega)
      have hnk : n ≠ k := fun e => hkn e.symm
      go_wp2_with fail
      go_region_held3 (fun W => (W.cell? ⟨w5.heap.size, 0, none⟩ = some (.int .i64 S.length) ∧ W.cell? ⟨w5.heap.size, 1, none⟩ = some (.slice q3 n d3)) ∧ Below w7.heap.size w7 W) (exact keep2b (by assumption) xb10 xb11) (first
        | (go_simp; go_at_call 16; (with_reducible refine (Of_b c2 k rfl (by assumption) h2 (by omega) (by omega)).mono ?_); rintro e w9 ⟨⟨q9, d9, rfl, k9, _, _⟩, hb9⟩)
        | (go_simp; go_at_call 15; (with_reducible refine (Arg_b d3 d9 (by assumption) hnk).mono ?_); rintro e w10 ⟨rfl, hb10⟩)
        | fail)
      clear xb10 xb11 k9 hb9 hbd
      clear b1 b2 k3 k4
      replace h1 := h1.below hb10
      replace h2 := h2.below hb10
      replace hb := hb.trans (hb10.mono hb.size)
      clear hb10
      go_wp2_with fail
      refine (Only_s c1 c2 h1 h2 oS.out.nd (by omega) (by omega)).mono ?_
      rintro e w8 ⟨⟨p13, c13, X, rfl, h13, _, _, hX⟩, hb8⟩
      replace h1 := h1.below hb8
      replace h2 := h2.below hb8
      replace hb := hb.trans (hb8.mono hb.size)
      clear hb8
      go_wp2_with fail
      refine (Only_s c2 c1 h2 h1 oR.out.nd (by omega) (by omega)).mono ?_
      rintro e w9 ⟨⟨p14, c14, Y, rfl, h14, _, _, hY⟩, hb9⟩
      replace h1 := h1.below hb9
      replace h2 := h2.below hb9
      replace hb := hb.trans (hb9.mono hb.size)
      clear hb9
      have hbig : n < X.length + Y.length + 2 := Nat.lt_of_not_le fun h => hno.out X Y (OnlyOf.fits oS.out oR.out hX.out hY.out h)
      obtain ⟨s, hs⟩ : ∃ s, X.length + Y.length = s := ⟨_, rfl⟩
      have hsi : (X.length : Int) + Y.length = s := by omega
      obtain ⟨t, ht⟩ : ∃ t : Int, (n : Int) - 2 = t := ⟨_, rfl⟩
      have td : decide (t < (s : Int)) = true := by rw [decide_eq_true_eq]; omega
      have lX : X.length ≤ 12 := Nat.le_trans (hX.out.sub fun x h _ => h) lS
      have lY : Y.length ≤ 12 := Nat.le_trans (hY.out.sub fun x h _ => h) lR
      clear hbig hno hX hY
      go_wp2_with fail
      refine (lives10 _).mono ?_
      rintro e w10 ⟨rfl, hb10⟩
      replace h1 := h1.below hb10
      replace h2 := h2.below hb10
      replace hb := hb.trans (hb10.mono hb.size)
      clear hb10
      go_wp2_with fail
      go_ret
      exact ⟨rfl, hb⟩
end Go.Proofs.Ytelnhpcehmdffaa
