/-
  The walks of the statements on polynomials (9): quotients.
-/
import Derived.Test.YtokkjklggkoajaaPolyN
namespace Go.Proofs.Ytokkjklggkoajaa
open Go.RowKit
attribute [local go_sem] T_V

set_option maxRecDepth 100000 in
set_option maxHeartbeats 8000000 in
theorem divides_walk (pa : Option Addr) (na : Nat) (xa : List Int) (ca : Nat) (pb : Option Addr) (nb : Nat) (xb : List Int) (cb : Nat) (pc : Option Addr) (nc : Nat) (xc : List Int) (cc : Nat) (w : World) (hA : U w pa na xa) (hcA : na ≤ ca) (hnA : na ≤ 9223372036854775807) (hpA : pa = none → ca = 0) (hB : U w pb nb xb) (hcB : nb ≤ cb) (hnB : nb ≤ 9223372036854775807) (hpB : pb = none → cb = 0) (hC : U w pc nc xc) (hcC : nc ≤ cc) (hnC : nc ≤ 9223372036854775807) (hpC : pc = none → cc = 0) :
    Calls Try.prog 4 #[.slice pa na ca, .slice pb nb cb, .slice pc nc cc] w fun e w' => e = .returned (.bool true) ∧ Below w.heap.size w w' := by
  go_enter Try.func4, Try.ntmps4
  go_wp2_with fail
  refine (few_p hA hcA hnA hpA).mono ?_
  rintro e w1 ⟨⟨p1, n1, c1, rfl, h1, l1, _, _, _⟩, hb1⟩
  replace hB := hB.below hb1
  replace hC := hC.below hb1
  have hb := hb1
  clear hb1
  replace h1 := h1.rp
  generalize pol (xa.take n1) = A at h1
  go_wp2_with fail
  refine (few_p hB hcB hnB hpB).mono ?_
  rintro e w2 ⟨⟨p2, n2, c2, rfl, h2, l2, _, _, _⟩, hb2⟩
  replace hC := hC.below hb2
  replace h1 := h1.below hb2
  replace hb := hb.trans (hb2.mono hb.size)
  clear hb2
  replace h2 := h2.rp
  generalize pol (xb.take n2) = B at h2
  go_wp2_with fail
  refine (Nums_p 3 rfl hC hcC hnC hpC (by omega)).mono ?_
  rintro e w3 ⟨⟨p3, n3, c3, rfl, h3, l3, _, _, _⟩, hb3⟩
  replace h1 := h1.below hb3
  replace h2 := h2.below hb3
  replace hb := hb.trans (hb3.mono hb.size)
  clear hb3
  replace h3 := h3.rp
  generalize pol (xc.take n3) = C at h3
  go_wp2_with fail
  refine (rMul_p c1 c3 h1 h3 (by omega) (by omega)).mono ?_
  rintro e w4 ⟨⟨p4, n4, c4, rfl, h4, l4, _⟩, hb4⟩
  replace h1 := h1.below hb4
  replace h2 := h2.below hb4
  replace h3 := h3.below hb4
  replace hb := hb.trans (hb4.mono hb.size)
  clear hb4
  go_wp2_with fail
  refine (rMul_p c2 c3 h2 h3 (by omega) (by omega)).mono ?_
  rintro e w5 ⟨⟨p5, n5, c5, rfl, h5, l5, _⟩, hb5⟩
  replace h1 := h1.below hb5
  replace h2 := h2.below hb5
  replace h3 := h3.below hb5
  replace h4 := h4.below hb5
  replace hb := hb.trans (hb5.mono hb.size)
  clear hb5
  have hbA := Below.lit w5 (.cells #[.slice p1 n1 c1, .slice p2 n2 c2, .slice p2 n2 c2, .slice p1 n1 c1, .slice p4 n4 c4, .slice p5 n5 c5, .slice p1 n1 c1, .slice none 0 0, .slice none 0 0, .slice p1 n1 c1] 31)
  have hAr : Arr (w5.alloc (.cells #[.slice p1 n1 c1, .slice p2 n2 c2, .slice p2 n2 c2, .slice p1 n1 c1, .slice p4 n4 c4, .slice p5 n5 c5, .slice p1 n1 c1, .slice none 0 0, .slice none 0 0, .slice p1 n1 c1] 31)) w5.heap.size 31 [.slice p1 n1 c1, .slice p2 n2 c2, .slice p2 n2 c2, .slice p1 n1 c1, .slice p4 n4 c4, .slice p5 n5 c5, .slice p1 n1 c1, .slice none 0 0, .slice none 0 0, .slice p1 n1 c1] := Arr.new w5 _ _
  replace h1 := h1.below hbA
  replace h2 := h2.below hbA
  replace h4 := h4.below hbA
  replace h5 := h5.below hbA
  replace hb := hb.trans (hbA.mono hb.size)
  go_wp2_with fail
  obtain ⟨wl, ewl⟩ : ∃ wl, Hid (w5.alloc (.cells #[.slice p1 n1 c1, .slice p2 n2 c2, .slice p2 n2 c2, .slice p1 n1 c1, .slice p4 n4 c4, .slice p5 n5 c5, .slice p1 n1 c1, .slice none 0 0, .slice none 0 0, .slice p1 n1 c1] 31) = wl) := ⟨_, Lib.hid rfl⟩
  rw [ewl.out] at h1 h2 h4 h5 hb hAr ⊢
  have hpairs : Hid (∀ i, i < 5 → ∃ (p q : Option Addr) (n c m d : Nat) (A B : Pol), wl.cell? ⟨w5.heap.size, i * 2, none⟩ = some (.slice p n c) ∧ wl.cell? ⟨w5.heap.size, i * 2 + 1, none⟩ = some (.slice q m d) ∧ Rp wl p n A ∧ Rp wl q m B ∧ n ≤ 20 ∧ m ≤ 20) := Lib.hid fun i hi => by
    have hz := Rp.nil wl none
    rcases (by omega : i = 0 ∨ i = 1 ∨ i = 2 ∨ i = 3 ∨ i = 4) with rfl | rfl | rfl | rfl | rfl
    · exact ⟨_, _, _, _, _, _, _, _, hAr.cell (i := 0) (by simp), hAr.cell (i := 1) (by simp), h1, h2, by omega, by omega⟩
    · exact ⟨_, _, _, _, _, _, _, _, hAr.cell (i := 2) (by simp), hAr.cell (i := 3) (by simp), h2, h1, by omega, by omega⟩
    · exact ⟨_, _, _, _, _, _, _, _, hAr.cell (i := 4) (by simp), hAr.cell (i := 5) (by simp), h4.rp, h5.rp, by omega, by omega⟩
    · exact ⟨_, _, _, _, _, _, _, _, hAr.cell (i := 6) (by simp), hAr.cell (i := 7) (by simp), h1, hz, by omega, by omega⟩
    · exact ⟨_, _, _, _, _, _, _, _, hAr.cell (i := 8) (by simp), hAr.cell (i := 9) (by simp), hz, h1, by omega, by omega⟩
  clear h1 h2 h3 h4 h5 hAr hbA
  obtain ⟨bb, ebb⟩ : ∃ bb, Hid (w5.heap.size = bb) := ⟨_, Lib.hid rfl⟩
  rw [ebb.out] at hpairs ⊢
  go_loopw [11] (fun iv wr => ∃ i : Nat, i ≤ 5 ∧ iv = .int .i64 i ∧ Below wl.heap.size wl wr) (fun iv _ => 5 - (intOf iv).toNat)
  case atStart => exact ⟨0, by omega, rfl, Below.refl _ _⟩
  case round =>
    obtain ⟨i, hi, rfl, hbl⟩ := hrel
    by_cases hlt : i < 5
    · obtain ⟨p, q, n, c, m, d, A1, B1, k1, k2, hA, hB, hn, hm⟩ := hpairs.out i hlt
      have hix1 : (0 : Int) ≤ (i : Int) := by omega
      have hix2 : (i : Int) < 5 := by omega
      have hbd := hbl.drew
      go_wp2_with fail
      go_region_held3 (fun W => (W.cell? ⟨bb, i * 2, none⟩ = some (.slice p n c) ∧ W.cell? ⟨bb, i * 2 + 1, none⟩ = some (.slice q m d)) ∧ Below wl.heap.size wl W) (exact keep2 (by assumption) k1 k2) (first
        | (go_simp; go_at_call 24; refine (DivMod_b c d (by assumption) hA hB (by omega) (by omega)).mono ?_; rintro e wa ⟨⟨q5, n5', e5, q6, n6', e6, Q, R, rfl, h5, h6, l5', l6', hd1⟩, hb1, hB1⟩)
        | fail)
      have hbd2 := hB1.drew
      clear hbd hb1
      go_wp2_with fail
      go_region_held3 (fun W => (W.cell? ⟨bb, i * 2, none⟩ = some (.slice p n c) ∧ W.cell? ⟨bb, i * 2 + 1, none⟩ = some (.slice q m d)) ∧ Below wl.heap.size wl W) (exact keep2 (by assumption) k1 k2) (first
        | (go_simp; go_at_call 25; refine (rDivMod_b c d (by assumption) hA hB (by omega) (by omega)).mono ?_; rintro e wb ⟨⟨q7, n7', e7, q8, n8', e8, Q2, R2, rfl, h7, h8, l7', l8', hd2⟩, hb2, hB2⟩)
        | fail)
      replace h5 := h5.below (below_drew hb2)
      replace h6 := h6.below (below_drew hb2)
      have hsm := Lib.hid (hd1.out.same hd2.out)
      have hbd3 := hB2.drew
      have hd0 : Below wb.heap.size wb wb.drew := (Below.refl _ wb).drew
      replace h5 := h5.below hd0
      replace h6 := h6.below hd0
      replace h7 := h7.below hd0
      replace h8 := h8.below hd0
      clear hbd2 hb2 hd1 hd2 hd0
      go_wp2_with fail
      go_region_held3 (fun W => (W.cell? ⟨bb, i * 2, none⟩ = some (.slice p n c) ∧ W.cell? ⟨bb, i * 2 + 1, none⟩ = some (.slice q m d)) ∧ Below wl.heap.size wl W) (exact keep2 (by assumption) k1 k2) (first
        | (go_simp; go_at_call 13; refine (SameP_b e5 e7 (by assumption) h5 h7 hsm.out.1 (by omega)).mono ?_; rintro e wc ⟨rfl, hb3, hB3⟩; replace h6 := h6.below hb3; replace h8 := h8.below hb3; clear h5 h7)
        | (go_simp; go_at_call 13; refine (SameP_b e6 e8 (by assumption) h6 h8 hsm.out.2 (by omega)).mono ?_; rintro e wd ⟨rfl, _, hB4⟩; clear h6 h8)
        | (go_simp; go_at_call 26; refine (Gcd_b c d (by assumption) hA hB (by omega) (by omega)).mono ?_; rintro e we ⟨⟨q9, n9', e9, G1, rfl, h9, ⟨l9, _⟩, hg1⟩, hb5, hB5⟩)
        | (go_simp; go_at_call 27; refine (rGcd_b c d (by assumption) hA hB (by omega) (by omega)).mono ?_; rintro e wf ⟨⟨q10, n10', e10, G2, rfl, h10, ⟨l10, _⟩, hg2⟩, hb6, hB6⟩; replace h9 := h9.below hb6)
        | (go_simp; go_at_call 13; refine (SameP_b e9 e10 (by assumption) h9 h10 (hg1.out.same hg2.out) (by omega)).mono ?_; rintro e wg ⟨rfl, _, hB7⟩)
        | fail)
      go_wp2_with fail
      go_roundw
      case rel => exact ⟨i + 1, by omega, by go_num, hB7⟩
      case measure => simp [intOf]; omega
    · go_wp2_with fail
      refine (lives5_b hbl).mono ?_
      rintro e wy ⟨rfl, hbz⟩
      go_wp2_with fail
      go_ret
      exact ⟨rfl, hb.trans (hbz.mono hb.size)⟩
end Go.Proofs.Ytokkjklggkoajaa
