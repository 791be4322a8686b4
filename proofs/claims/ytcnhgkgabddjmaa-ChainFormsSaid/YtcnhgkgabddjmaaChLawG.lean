/-
  The walk of the statement that whatever bytes are a chain, they are its bytes.
-/
import Derived.Test.YtcnhgkgabddjmaaChV
import Derived.Test.YtcnhgkgabddjmaaChLawA
import Derived.Deep.RegionHeld3
namespace Go.Proofs.Ytcnhgkgabddjmaa
open Go.RowKit Go.Maps

theorem keep1g {wl W : World} {b o : Nat} {v : Value} (h : Below wl.heap.size wl W) (h1 : wl.cell? ⟨b, o, none⟩ = some v) : W.cell? ⟨b, o, none⟩ = some v ∧ Below wl.heap.size wl W :=
  ⟨(World.cell?_of_block (h.block b (cell_lt h1))).trans h1, h⟩
theorem Put_b {w0 w : World} (c b : Nat) (m : Ch) (hb : Below w0.heap.size w0 w) (hC : ChAt w0 c b m) (hok : m.Ok) (hn : m.num ≤ 1152921504606846976) (L : Nat) (bs : List Int) (hbs : putB m = bs) (hL : bs.length = L) :
    Calls Try.prog 18 #[.pointer (some ⟨c, 0, none⟩)] w fun e w' => ∃ p cp, e = .returned (.slice p L cp) ∧ B8 w' p L bs ∧ Below w0.heap.size w0 w' := by
  refine (Put_any c b m w (hC.below hb) hok hn).mono ?_
  rintro e w' ⟨p, cp, rfl, _, h, _, _, hb', _⟩
  rw [hbs, hL] at h
  exact ⟨p, cp, by rw [hbs, hL], h, hb.trans (hb'.mono hb.size)⟩
theorem Same_b {w0 w : World} (p q : Option Addr) (n : Nat) (xs : List Int) (c d : Nat) (hb : Below w0.heap.size w0 w) (hX : B8 w p n xs) (hY : B8 w0 q n xs) (hn : n ≤ 9223372036854775806) :
    Calls Try.prog 17 #[.slice p n c, .slice q n d] w fun e w' => e = .returned (.bool true) ∧ Below w0.heap.size w0 w' := by
  refine (SameBytes_yes p q n xs c d w hX (hY.below hb) hn).mono ?_
  rintro e w' ⟨rfl, hb'⟩
  exact ⟨rfl, hb.trans (hb'.mono hb.size)⟩
set_option maxRecDepth 100000 in
set_option maxHeartbeats 4000000 in
theorem forms_walk (ep dev : Int) (pl : Option Addr) (nl : Nat) (xl : List Int) (cl : Nat) (pr : Option Addr) (nr : Nat) (xr : List Int) (cr : Nat) (at_ : Int) (y : Int) (w : World) (ep0 : 0 ≤ ep) (ep1 : ep < 18446744073709551616) (dev0 : -9223372036854775808 ≤ dev) (dev1 : dev ≤ 9223372036854775807) (hL : UI w pl nl xl) (_ : nl ≤ cl) (hnL : nl ≤ 9223372036854775807) (_ : pl = none → cl = 0) (hR : B8 w pr nr xr) (hrc : nr ≤ cr) (hnR : nr ≤ 9223372036854775807) (hpr : pr = none → cr = 0) (at0 : -9223372036854775808 ≤ at_) (at1 : at_ ≤ 9223372036854775807) (y0 : 0 ≤ y) (y1 : y < 256) :
    Calls Try.prog 9 #[.int .u64 ep, .int .i64 dev, .slice pl nl cl, .slice pr nr cr, .int .i64 at_, .int .u8 y] w fun e w' => e = .returned (.bool true) ∧ Below w.heap.size w w' := by
  obtain ⟨d, ed, hd⟩ := around_21 dev
  obtain ⟨m, hm⟩ : ∃ m, (Ch.new ep d).acts (actsOf xl) = m := ⟨_, rfl⟩
  have fx := Ch.Fine.acts ep d xl
  rw [hm] at fx
  have hnx : m.num ≤ 1000 := fx.2
  have fm := fx.1
  clear fx
  replace hm := Lib.hid hm
  replace fm := Lib.hid fm
  have hlen3 := putB_len3 m
  obtain ⟨q, eq, hq⟩ : ∃ q : Nat, Hid (around at_ (putB m).length = (q : Int)) ∧ q < (putB m).length := by
    obtain ⟨h0, h1⟩ := around_bd at_ (putB m).length (by omega)
    exact ⟨(around at_ (putB m).length).toNat, Lib.hid (by omega), by omega⟩
  go_enter Try.func9, Try.ntmps9
  go_wp2_with fail
  refine (Around_any dev 21 _ dev0 dev1 (by omega) (by omega)).mono ?_
  rintro e w1 ⟨rfl, rfl⟩
  rw [ed.out]
  go_wp2_with fail
  refine (played_any ep d pl nl xl cl _ ep0 ep1 hd hL hnL m hm.out).mono ?_
  rintro e w1 ⟨c1, b1, rfl, hX, hc1, hbb1, hb⟩
  have hR1 := hR.below hb
  clear hL hR
  go_wp2_with fail
  refine (Put_any c1 b1 _ _ hX fm.out.ok (by omega)).mono ?_
  rintro e w2 ⟨p2, q2, rfl, hq2, h2, _, hp2, hb2, hl2⟩
  have hR2 := hR1.below hb2
  have hb20 := hb.trans (hb2.mono hb.size)
  clear hX hR1 hb hb2
  obtain ⟨LB, hLB⟩ : ∃ LB, (putB m).length = LB := ⟨_, rfl⟩
  rw [hLB] at h2 hl2 hq2 eq hq hlen3 ⊢
  have hcut : Hid (¬ getOk ((putB m).take q)) := Lib.hid (get_cut fm.out (by rw [hLB]; exact hq))
  have hmore : Hid (¬ getOk (putB m ++ [y])) := Lib.hid (get_more fm.out ⟨y0, y1⟩)
  replace hLB := Lib.hid hLB
  have tl3 : decide ((LB : Int) < 3) = false := decide_eq_false (by omega)
  have tl3' : decide (LB < 3) = false := decide_eq_false (by omega)
  go_wp2_with (at_builtin; refine app_bs rfl _ _ rfl (OwnB.nil w2 w2.heap.size) rfl rfl h2 hp2 (by omega) (Nat.le_refl _) ?_; intro v' w3 hown3 hb3; rw [Nat.zero_add, List.nil_append] at hown3; obtain ⟨p3, c3, rfl, hc3, _, _, hp3⟩ := hown3.u)
  refine (Around_any at_ LB _ at0 at1 (by omega) (by omega)).mono ?_
  rintro e w4 ⟨rfl, rfl⟩
  rw [eq.out]
  obtain ⟨g, vg, rfl, hg0, hg1, hcg, hfg, hB4, hb4⟩ := hown3.set hq ⟨y0, y1⟩
  have h24 := h2.below (hb3.trans hb4)
  have hR4 := hR2.below (hb3.trans hb4)
  have hb40 := hb20.trans ((hb3.trans hb4).mono hb20.size)
  clear hb3 hb4 h2 hR2 hb20 hown3
  have iq0 : (0 : Int) ≤ (q : Int) := by omega
  have iq1 : (q : Int) < (LB : Int) := by omega
  go_wp2_with fail
  refine (Few_any pr nr cr xr _ hR4 hrc hpr hnR).mono ?_
  rintro e w5 ⟨p5, k5, c5, rfl, hB5, hk5, hp5, _, hb5⟩
  have hA5 := hB4.below hb5
  have h25 := h24.below hb5
  have hb50 := hb40.trans (hb5.mono hb40.size)
  clear hR4 hB4 h24 hb40 hb5 hcg hfg
  go_wp2_with fail
  have hbX := Below.lit w5 (.cells #[.slice p5 k5 c5, .slice (some ⟨g, 0, none⟩) LB c3] 37)
  have hArr := Arr.new w5 37 [.slice p5 k5 c5, .slice (some ⟨g, 0, none⟩) LB c3]
  have z0 := hArr.cell (i := 0) (by simp)
  have z1 := hArr.cell (i := 1) (by simp)
  simp only [List.getElem_cons_zero, List.getElem_cons_succ] at z0 z1
  have hB6 := hB5.below hbX
  have hA6 := hA5.below hbX
  have h26 := h25.below hbX
  have hb60 := hb50.trans (hbX.mono hb50.size)
  clear hB5 hA5 h25 hb50 hbX hArr
  change World.cell? (w5.alloc (.cells #[.slice p5 k5 c5, .slice (some ⟨g, 0, none⟩) LB c3] 37)) _ = _ at z0 z1
  change B8 (w5.alloc (.cells #[.slice p5 k5 c5, .slice (some ⟨g, 0, none⟩) LB c3] 37)) _ _ _ at hB6
  generalize w5.alloc (.cells #[.slice p5 k5 c5, .slice (some ⟨g, 0, none⟩) LB c3] 37) = w6 at *
  generalize w5.heap.size = z5 at *
  have h7 : k5 ≤ 2000 := by omega
  go_loopw [17] (fun i W => ∃ j : Nat, j ≤ 2 ∧ i = .int .i64 j ∧ W.cell? ⟨z5, 0, none⟩ = some (.slice p5 k5 c5) ∧ W.cell? ⟨z5, 1, none⟩ = some (.slice (some ⟨g, 0, none⟩) LB c3) ∧ B8 W p5 k5 (xr.take 30) ∧ B8 W (some ⟨g, 0, none⟩) LB ((putB m).set q y) ∧ B8 W p2 LB (putB m) ∧ Below w.heap.size w W)
    (fun i _ => 2 - (intOf i).toNat)
  case atStart => exact ⟨0, by omega, rfl, z0, z1, hB6, hA6, h26, hb60⟩
  case round =>
    clear z0 z1 hB6 hA6 h26 hb60
    obtain ⟨j, hj, rfl, z0, z1, hB, hA, h2, hb⟩ := hrel
    by_cases hlt : j < 2
    · obtain ⟨pi, ni, ci, Bi, hcell, hBi, hpi, hni⟩ : ∃ pi ni ci Bi, wr.cell? ⟨z5, j, none⟩ = some (.slice pi ni ci) ∧ B8 wr pi ni Bi ∧ (pi = none → ci = 0) ∧ ni ≤ 2000 := by
        rcases (by omega : j = 0 ∨ j = 1) with rfl | rfl
        · exact ⟨_, _, _, _, z0, hB, hp5, h7⟩
        · exact ⟨_, _, _, _, z1, hA, hp3, hl2⟩
      have ij0 : (0 : Int) ≤ (j : Int) := by omega
      have ij1 : (j : Int) < 2 := by omega
      by_cases hg : getOk Bi
      · obtain ⟨hpg, hfine⟩ := put_get hBi.bd hg
        have hnum := hfine.num
        replace hg := Lib.hid hg
        replace hpg := Lib.hid hpg
        replace hfine := Lib.hid hfine
        go_wp2_with fail
        refine (Get_any pi ni ci Bi _ hBi hpi (by omega)).mono ?_
        rintro e w7 ⟨hyes, _, hb7⟩
        obtain ⟨c3', b3, rfl, hC, _, _, _⟩ := hyes hg.out
        clear hyes
        have hcell7 := (World.cell?_of_block (hb7.block z5 (cell_lt hcell))).trans hcell
        have z07 := (World.cell?_of_block (hb7.block z5 (cell_lt hcell))).trans z0
        have z17 := (World.cell?_of_block (hb7.block z5 (cell_lt hcell))).trans z1
        have hB7 := hB.below hb7
        have hA7 := hA.below hb7
        have h27 := h2.below hb7
        have hBi7 := hBi.below hb7
        have hb70 := hb.trans (hb7.mono hb.size)
        have hlenB := Lib.hid hBi.len
        clear hcell z0 z1 hB hA h2 hBi hb7 hb
        generalize getM Bi = mB at *
        have hbd : Below w7.heap.size w7 w7.drew := (Below.refl _ _).drew
        have hn1 : mB.num ≤ 1152921504606846976 := by omega
        have hn2 : ni ≤ 9223372036854775806 := by omega
        go_wp2_with fail
        go_region_held3 (fun W => W.cell? ⟨z5, j, none⟩ = some (.slice pi ni ci) ∧ Below w7.heap.size w7 W) (exact keep1g (by assumption) hcell7) (first
          | (go_simp; go_at_call 18; (with_reducible refine (Put_b c3' b3 _ (by assumption) hC hfine.out.ok hn1 ni Bi hpg.out hlenB.out).mono ?_); rintro e w9 ⟨p9, c9, rfl, h9, hb9⟩)
          | (go_simp; go_at_call 17; (with_reducible refine (Same_b _ _ ni Bi _ _ (by assumption) h9 hBi7 hn2).mono ?_); rintro e w10 ⟨rfl, hb10⟩)
          | fail)
        all_goals
          have hbn : Below w7.heap.size w7 w10 := by assumption
          have z09 := (World.cell?_of_block (hbn.block z5 (cell_lt z07))).trans z07
          have z19 := (World.cell?_of_block (hbn.block z5 (cell_lt z17))).trans z17
          have hB9 := hB7.below hbn
          have hA9 := hA7.below hbn
          have h29 := h27.below hbn
          have hb90 := hb70.trans (hbn.mono hb70.size)
          clear hB7 hA7 h27 hb70
          go_wp2_with fail
          go_roundw
          case rel => exact ⟨j + 1, by omega, by go_num, z09, z19, hB9, hA9, h29, hb90⟩
          case measure => simp [intOf]; omega
      · have hno := Lib.hid hg
        clear hg
        go_wp2_with fail
        refine (Get_any pi ni ci Bi _ hBi hpi (by omega)).mono ?_
        rintro e w7 ⟨_, hnone, hb7⟩
        obtain rfl := hnone hno.out
        clear hnone
        have z07 := (World.cell?_of_block (hb7.block z5 (cell_lt hcell))).trans z0
        have z17 := (World.cell?_of_block (hb7.block z5 (cell_lt hcell))).trans z1
        have hB7 := hB.below hb7
        have hA7 := hA.below hb7
        have h27 := h2.below hb7
        have hb70 := hb.trans (hb7.mono hb.size)
        clear hcell z0 z1 hB hA h2 hBi hb7 hb
        go_wp2_with fail
        go_quiet (fail)
        have hbn : Below w7.heap.size w7 (w7.drewN nq) := below_drewN (Below.refl _ _) _
        have z09 := (World.cell?_of_block (hbn.block z5 (cell_lt z07))).trans z07
        have z19 := (World.cell?_of_block (hbn.block z5 (cell_lt z17))).trans z17
        have hB9 := hB7.below hbn
        have hA9 := hA7.below hbn
        have h29 := h27.below hbn
        have hb90 := hb70.trans (hbn.mono hb70.size)
        clear hB7 hA7 h27 hb70
        go_wp2_with fail
        go_roundw
        case rel => exact ⟨j + 1, by omega, by go_num, z09, z19, hB9, hA9, h29, hb90⟩
        case measure => simp [intOf]; omega
    · obtain rfl : j = 2 := by omega
      clear hB hA z0 z1
      have hs := sliceB_to p2 LB q2 q (by omega) wr
      have hT2 := h2.take q (by omega)
      go_wp2_with fail
      refine (Around_any at_ LB _ at0 at1 (by omega) (by omega)).mono ?_
      rintro e w4 ⟨rfl, rfl⟩
      rw [eq.out]
      go_wp2_with fail
      refine (Get_any p2 q q2 _ _ hT2 hp2 (by omega)).mono ?_
      rintro e w7 ⟨_, hnone, hb7⟩
      obtain rfl := hnone hcut.out
      clear hnone
      have h27 := h2.below hb7
      have hb70 := hb.trans (hb7.mono hb.size)
      clear h2 hb7 hb hT2 hs
      go_wp2_with (first
        | (at_builtin; refine app_bs rfl _ _ rfl (OwnB.nil w7 w7.heap.size) rfl rfl h27 hp2 (by omega) (Nat.le_refl _) ?_; intro v8 w8 hown8 hb8; rw [Nat.zero_add, List.nil_append] at hown8)
        | (at_builtin; refine app_b (y := y) rfl _ _ rfl hown8 rfl rfl ⟨y0, y1⟩ (by omega) hb8.size ?_; intro v9 w9 hown9 hb9 _ _; obtain ⟨p9, c9, rfl, _, hB9, _, hp9⟩ := hown9.u))
      refine (Get_any p9 (LB + 1) c9 _ _ hB9 hp9 (by omega)).mono ?_
      rintro e w10 ⟨_, hnone, hb10⟩
      obtain rfl := hnone hmore.out
      clear hnone
      have hb89 := hb8.trans hb9
      have hb100 := (hb70.trans (hb89.mono hb70.size)).trans (hb10.mono (Nat.le_trans hb70.size hb89.size))
      clear hb70 hb8 hb9 hb89 hb10 h27 hown8 hown9 hB9
      go_wp2_with fail
      refine (lives_any _).mono ?_
      rintro e w11 ⟨rfl, hb11⟩
      go_wp2_with fail
      go_ret
      exact ⟨rfl, hb100.trans (hb11.mono hb100.size)⟩
end Go.Proofs.Ytcnhgkgabddjmaa
