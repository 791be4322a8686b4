/-
  The walk of the statement that a shorter sketch begins a longer one.
-/
import Derived.Test.YtelnhpcehmdffaaSkY
import Derived.Test.YtelnhpcehmdffaaSkO
namespace Go.Proofs.Ytelnhpcehmdffaa
open Go.RowKit
attribute [local go_sem] T_V

theorem Same_b {p q : Option Addr} {n m : Nat} {xs ys : List Int} (c d : Nat) {w0 w : World} (hb : Below w0.heap.size w0 w) (hX : U w0 p n xs) (hY : U w0 q m ys) (he : xs = ys) (hn : n ≤ 1000000) :
    Calls Try.prog 17 #[.slice p n c, .slice q m d] w fun e w' => e = .returned (.bool true) ∧ Below w0.heap.size w0 w' :=
  (Same_s c d (hX.below hb) (hY.below hb) he hn).mono fun _ _ ⟨h, h2⟩ => ⟨h, hb.trans (h2.mono hb.size)⟩
theorem lives_b {w0 w : World} (hb : Below w0.heap.size w0 w) : Calls Try.prog 18 #[] w fun e w' => e = .returned (.bool true) ∧ Below w0.heap.size w0 w' :=
  (lives10 w).mono fun _ _ ⟨h, h2⟩ => ⟨h, hb.trans (h2.mono hb.size)⟩
set_option maxRecDepth 100000 in
set_option maxHeartbeats 6000000 in
theorem short_walk (pl : Option Addr) (nl : Nat) (xl : List Int) (cl : Nat) (turn : Int) (points : Int) (more : Int) (w : World) (hL : U w pl nl xl) (_ : nl ≤ cl) (hnL : nl ≤ 9223372036854775807) (_ : pl = none → cl = 0) (turn0 : -9223372036854775808 ≤ turn) (turn1 : turn ≤ 9223372036854775807) (points0 : -9223372036854775808 ≤ points) (points1 : points ≤ 9223372036854775807) (more0 : -9223372036854775808 ≤ more) (more1 : more ≤ 9223372036854775807) :
    Calls Try.prog 6 #[.slice pl nl cl, .int .i64 turn, .int .i64 points, .int .i64 more] w fun e w' => e = .returned (.bool true) ∧ Below w.heap.size w w' := by
  obtain ⟨S, eS, oS, lS⟩ := set_facts xl
  obtain ⟨ms, hms⟩ : ∃ ms, S.length + 1 = ms := ⟨_, rfl⟩
  have hmsi : (S.length : Int) + 1 = ms := by omega
  obtain ⟨kk, ekk, hkk⟩ := around_nat turn ms (by omega)
  obtain ⟨n, en, hn21⟩ := around_nat points 21 (by omega)
  obtain ⟨r, er, hr21⟩ := around_nat more 21 (by omega)
  obtain ⟨m, hm⟩ : ∃ m, n + r = m := ⟨_, rfl⟩
  have hmi : (n : Int) + r = m := by omega
  go_enter Try.func6, Try.ntmps6
  go_wp2_with fail
  refine (Set_s hL hnL).mono ?_
  rintro e w1 ⟨⟨p1, c1, rfl, h1, hc1, hp1, _⟩, hb1⟩
  clear hL
  have hb := hb1
  clear hb1
  rw [eS.out] at h1 ⊢
  rw [eS.out] at hc1
  go_wp2_with fail
  refine (Around_any turn ms _ turn0 turn1 (by omega) (by omega)).mono ?_
  rintro e _ ⟨rfl, rfl⟩
  rw [ekk.out]
  obtain ⟨q2, s2, hq2, hcut⟩ := slice_from kk (show kk ≤ S.length by omega) hc1 hp1
  have s1 := slice_to p1 S.length c1 kk (by omega)
  have hUd := hcut h1
  have hUt := h1.take (show kk ≤ S.length by omega)
  clear hcut
  go_upto_region 3 with fail
  have hx1 : Below w1.heap.size w1 w1.drew := (Below.refl _ _).drew
  go_cut [11] from 24 to 32 (fun ov wx => ∃ p5 c5 O, Hid (∀ z, valF O z = valF S z) ∧ ov = .slice p5 S.length c5 ∧ U wx p5 S.length (O.map V) ∧ Below w1.heap.size w1 wx)
  case first =>
    have ho0 : Own (w1.drew.alloc (.cells #[] 40)) w1.heap.size (.slice (some ⟨w1.heap.size, 0, none⟩) 0 0) 0 [] := Own.none_at w1.drew
    have hz0 := (Below.lit w1.drew (.cells #[] 40))
    have hz1 : Below w1.heap.size w1 (w1.drew.alloc (.cells #[] 40)) := hx1.trans hz0
    have hs0 := hz1.size
    have hUd0 := hUd.below hz1
    go_region_held3 (fun W => Below w1.heap.size w1 W) (go_grown) (first
      | (refine app_many_step rfl (.tmp 24) (.tmp 27) rfl ho0 rfl rfl hUd0 hq2 (by omega) hs0 ?_; intro v5 w5 ho5 hb5; (have hb15 := hz1.trans hb5); obtain ⟨p5, c5, rfl, hc5, hu5⟩ := ho5.u; (have hs5 := hb15.size); (have hUt5 := hUt.below hb15))
      | (refine app_many_step rfl (.tmp 28) (.tmp 31) rfl ho5 rfl rfl hUt5 hp1 (by omega) hs5 ?_; intro v6 w6 ho6 hb6; (have hb16 := hb15.trans hb6); obtain ⟨p6, c6, rfl, hc6, hu6⟩ := ho6.u)
      | fail)
    all_goals
      have e6 : 0 + (S.length - kk) + kk = S.length := by omega
      rw [e6, List.nil_append, ← List.map_drop, ← List.map_take, ← List.map_append] at hu6
      go_wp2_with fail
      go_meet
      exact ⟨p6, c6, _, Lib.hid (turn_vals S kk), by rw [show S.length - kk + kk = S.length by omega], hu6, hb16⟩
  case rest =>
    obtain ⟨p5, c5, O, hO, rfl, h5, hbx⟩ := hcut
    clear hx1 hUd hUt
    replace h1 := h1.below hbx
    replace hb := hb.trans (hbx.mono hb.size)
    clear hbx
    go_wp2_with fail
    refine (Around_any points 21 _ points0 points1 (by omega) (by omega)).mono ?_
    rintro e _ ⟨rfl, rfl⟩
    rw [show around points 21 = n from en.out]
    go_wp2_with fail
    refine (Around_any more 21 _ more0 more1 (by omega) (by omega)).mono ?_
    rintro e _ ⟨rfl, rfl⟩
    rw [show around more 21 = r from er.out]
    go_wp2_with fail
    refine (Of_s _ n rfl h1 (by omega) (by omega)).mono ?_
    rintro e w5 ⟨⟨q6, d6, rfl, k6, hd6, hq6⟩, hb5⟩
    clear h1
    replace h5 := h5.below hb5
    replace hb := hb.trans (hb5.mono hb.size)
    clear hb5
    obtain ⟨bx, hbx⟩ := box_new w5 S.length (.slice q6 n d6)
    go_upto_region 7 with fail
    obtain ⟨wb1, eb⟩ : ∃ W, Hid (w5.alloc (.cells #[.int .i64 S.length, .slice q6 n d6] 30) = W) := ⟨_, Lib.hid rfl⟩
    rw [eb.out] at bx hbx ⊢
    clear eb
    have b1 := bx
    clear bx
    replace h5 := h5.below hbx
    replace k6 := k6.below hbx
    replace hb := hb.trans (hbx.mono hb.size)
    clear hbx
    go_wp2_with fail
    refine (Of_s _ m rfl h5 (by omega) (by omega)).mono ?_
    rintro e w6 ⟨⟨q7, d7, rfl, k7, hd7, hq7⟩, hb6⟩
    clear h5
    replace k6 := k6.below hb6
    replace b1 := b1.below hb6
    replace hb := hb.trans (hb6.mono hb.size)
    clear hb6
    obtain ⟨bx, hbx⟩ := box_new w6 S.length (.slice q7 m d7)
    go_upto_region 8 with fail
    obtain ⟨wb2, eb⟩ : ∃ W, Hid (w6.alloc (.cells #[.int .i64 S.length, .slice q7 m d7] 30) = W) := ⟨_, Lib.hid rfl⟩
    rw [eb.out] at bx hbx ⊢
    clear eb
    have b2 := bx
    clear bx
    replace k6 := k6.below hbx
    replace b1 := b1.below hbx
    replace k7 := k7.below hbx
    replace hb := hb.trans (hbx.mono hb.size)
    clear hbx
    have tm : ((m : Int) != m) = false := bne_self_eq_false _
    have tn : ((S.length : Int) != S.length) = false := bne_self_eq_false _
    have xb10 := b1.c0
    have xb11 := b1.c1
    have xb20 := b2.c0
    have xb21 := b2.c1
    go_wp2_with fail
    clear xb10 xb11 xb20 xb21
    go_loopw [16] (fun kv wr => ∃ k : Nat, k ≤ m ∧ kv = .int .i64 k ∧ Below wb2.heap.size wb2 wr) (fun kv _ => m - (intOf kv).toNat)
    case atStart => exact ⟨0, Nat.zero_le _, rfl, Below.refl _ _⟩
    case round =>
      obtain ⟨k, hk, rfl, hbr⟩ := hrel
      have x20 := (b2.below hbr).c0
      have x21 := (b2.below hbr).c1
      have k7r := k7.below hbr
      by_cases hlk : k < m
      · obtain ⟨g7, o7, rfl, _, y7, _, _⟩ := k7r.look hlk
        rw [nth_vals hlk, hO.out] at y7
        have tz : (V (valF S (ptF k)) == 0) = false := by
          rw [beq_eq_false_iff_ne]
          exact fun e => oS.out.ne (show k < 1000 by omega) (V_inj e)
        generalize valF S (ptF k) = zu at *
        go_wp2_with fail
        go_roundw
        case rel => exact ⟨k + 1, by omega, by go_num, hbr⟩
        case measure => simp [intOf]; omega
      · have hbw := hb.trans (hbr.mono hb.size)
        have x10 := (b1.below hbr).c0
        have x11 := (b1.below hbr).c1
        have hbrd := hbr.drew
        have hU7 := k7r.take (show n ≤ m by omega)
        rw [vals_take S O hO.out (by omega)] at hU7
        have k6r := k6.below hbr
        have s7 := slice_to q7 m d7 n (by omega)
        have hbwr : Below wr.heap.size wr wr.drew := (Below.refl _ _).drew
        go_wp2_with fail
        go_region_held3 (fun W => (W.cell? ⟨w5.heap.size, 1, none⟩ = some (.slice q6 n d6) ∧ W.cell? ⟨w6.heap.size, 1, none⟩ = some (.slice q7 m d7)) ∧ Below wr.heap.size wr W) (exact keep2b (by assumption) x11 x21) (first
          | (go_simp; go_at_call 17; (with_reducible refine (Same_b d6 d7 (by assumption) k6r hU7 rfl (by omega)).mono ?_); rintro e w8 ⟨rfl, hb8⟩)
          | (go_simp; go_at_call 18; (with_reducible refine (lives_b (by assumption)).mono ?_); rintro e w9 ⟨rfl, hb9⟩)
          | fail)
        go_wp2
        go_ret
        exact ⟨rfl, hbw.trans (hb9.mono hbw.size)⟩
end Go.Proofs.Ytelnhpcehmdffaa
