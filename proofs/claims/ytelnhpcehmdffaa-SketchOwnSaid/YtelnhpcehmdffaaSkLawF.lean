/-
  The walk of the statement that what is handed in is not changed, and what is told may be.
-/
import Derived.Test.YtelnhpcehmdffaaSkQ
namespace Go.Proofs.Ytelnhpcehmdffaa
open Go.RowKit
attribute [local go_sem] T_V

set_option maxRecDepth 100000 in
set_option maxHeartbeats 8000000 in
theorem own_walk (pl : Option Addr) (nl : Nat) (xl : List Int) (cl : Nat) (pm : Option Addr) (nm : Nat) (xm : List Int) (cm : Nat) (w : World) (hL : U w pl nl xl) (_ : nl ≤ cl) (hnL : nl ≤ 9223372036854775807) (_ : pl = none → cl = 0) (hM : U w pm nm xm) (_ : nm ≤ cm) (hnM : nm ≤ 9223372036854775807) (_ : pm = none → cm = 0) :
    Calls Try.prog 8 #[.slice pl nl cl, .slice pm nm cm] w fun e w' => e = .returned (.bool true) ∧ Below w.heap.size w w' := by
  obtain ⟨S, eS, oS, lS⟩ := set_facts xl
  obtain ⟨R, eR, oR, lR⟩ := set_facts xm
  go_enter Try.func8, Try.ntmps8
  go_wp2_with fail
  refine (Set_s hL hnL).mono ?_
  rintro e w1 ⟨⟨p1, c1, rfl, h1, hc1, hp1, _⟩, hb1⟩
  replace hL := hL.below hb1
  replace hM := hM.below hb1
  have hb := hb1
  clear hb1
  rw [eS.out] at h1 ⊢
  go_wp2_with fail
  refine (Of_s _ 8 rfl h1 (by omega) (by omega)).mono ?_
  rintro e w2 ⟨⟨q1, d1, rfl, k1, hd1, hq1⟩, hb2⟩
  replace hL := hL.below hb2
  replace hM := hM.below hb2
  replace h1 := h1.below hb2
  replace hb := hb.trans (hb2.mono hb.size)
  clear hb2
  obtain ⟨bx, hbx⟩ := box_new w2 S.length (.slice q1 8 d1)
  go_upto_region 3 with fail
  obtain ⟨wb1, eb⟩ : ∃ W, Hid (w2.alloc (.cells #[.int .i64 S.length, .slice q1 8 d1] 30) = W) := ⟨_, Lib.hid rfl⟩
  rw [eb.out] at bx hbx ⊢
  clear eb
  have b1 := bx
  clear bx
  replace hL := hL.below hbx
  replace hM := hM.below hbx
  replace h1 := h1.below hbx
  replace k1 := k1.below hbx
  replace hb := hb.trans (hbx.mono hb.size)
  clear hbx
  go_wp2_with fail
  refine (Set_s hM hnM).mono ?_
  rintro e w3 ⟨⟨p2, c2, rfl, h2, hc2, hp2, _⟩, hb3⟩
  clear hM
  replace hL := hL.below hb3
  replace h1 := h1.below hb3
  replace k1 := k1.below hb3
  replace b1 := b1.below hb3
  replace hb := hb.trans (hb3.mono hb.size)
  clear hb3
  rw [eR.out] at h2 ⊢
  go_wp2_with fail
  refine (Of_s _ 8 rfl h2 (by omega) (by omega)).mono ?_
  rintro e w4 ⟨⟨q2, d2, rfl, k2, hd2, hq2⟩, hb4⟩
  clear h2
  replace hL := hL.below hb4
  replace h1 := h1.below hb4
  replace k1 := k1.below hb4
  replace b1 := b1.below hb4
  replace hb := hb.trans (hb4.mono hb.size)
  clear hb4
  obtain ⟨bx, hbx⟩ := box_new w4 R.length (.slice q2 8 d2)
  go_upto_region 4 with fail
  obtain ⟨wb2, eb⟩ : ∃ W, Hid (w4.alloc (.cells #[.int .i64 R.length, .slice q2 8 d2] 30) = W) := ⟨_, Lib.hid rfl⟩
  rw [eb.out] at bx hbx ⊢
  clear eb
  have b2 := bx
  clear bx
  replace hL := hL.below hbx
  replace h1 := h1.below hbx
  replace k1 := k1.below hbx
  replace b1 := b1.below hbx
  replace k2 := k2.below hbx
  replace hb := hb.trans (hbx.mono hb.size)
  clear hbx
  have xb10 := b1.c0
  have xb11 := b1.c1
  go_wp2_with fail
  refine (Nums2_s 8 rfl k1 hd1 hq1 (by omega) (by omega)).mono ?_
  rintro e w5 ⟨⟨q3, d3, rfl, k3⟩, hb5⟩
  replace hL := hL.below hb5
  replace h1 := h1.below hb5
  replace k1 := k1.below hb5
  replace b1 := b1.below hb5
  replace k2 := k2.below hb5
  replace b2 := b2.below hb5
  replace hb := hb.trans (hb5.mono hb.size)
  clear hb5
  clear xb10 xb11
  have xb10 := b1.c0
  have xb11 := b1.c1
  have xb20 := b2.c0
  have xb21 := b2.c1
  go_wp2_with fail
  refine (Diff_s d1 d2 k1 k2 rfl rfl (by omega) (by omega) (by omega) oR.out (.inl (by omega))).mono ?_
  rintro e we ⟨hD, hbd⟩
  clear xb10 xb11 xb20 xb21
  obtain ⟨px, nx, cx, py, ny, cy, er, rfl, hwx, hwy, ⟨hnx, hny⟩, hv⟩ := hD.w
  go_wp2_with fail
  go_loopw [12] (fun kv wr => ∃ k : Nat, k ≤ nx ∧ kv = .int .i64 k ∧ Wr wr w5.heap.size we.heap.size px nx ∧ Wr wr w5.heap.size we.heap.size py ny ∧ Below w5.heap.size w5 wr) (fun kv _ => nx - (intOf kv).toNat)
  case atStart => exact ⟨0, Nat.zero_le _, rfl, hwx, hwy, hbd⟩
  case round =>
    clear hwx hwy hbd
    obtain ⟨k, hk, rfl, hwx, hwy, hbd⟩ := hrel
    by_cases hlk : k < nx
    · obtain ⟨g, v, rfl, hg1, hg2, hcg, hfg⟩ := hwx.look hlk
      have it0 : (0 : Int) ≤ (k : Int) := by omega
      have it1 : (k : Int) < (nx : Int) := by omega
      have hwx' := hwx.put g k (.int .u64 7)
      have hwy' := hwy.put g k (.int .u64 7)
      have hbd' := hbd.setCell hg1 (p := ⟨g, k, none⟩) (.int .u64 7)
      go_wp2_with fail
      go_roundw
      case rel => exact ⟨k + 1, by omega, by go_num, hwx', hwy', hbd'⟩
      case measure => simp [intOf]; omega
    · obtain rfl : nx = k := by omega
      go_wp2_with fail
      go_loopw [13] (fun kv wr => ∃ k : Nat, k ≤ ny ∧ kv = .int .i64 k ∧ Wr wr w5.heap.size we.heap.size px nx ∧ Wr wr w5.heap.size we.heap.size py ny ∧ Below w5.heap.size w5 wr) (fun kv _ => ny - (intOf kv).toNat)
      case atStart => exact ⟨0, Nat.zero_le _, rfl, hwx, hwy, hbd⟩
      case round =>
        clear hwx hwy hbd
        obtain ⟨k, hk, rfl, hwx, hwy, hbd⟩ := hrel
        by_cases hlk : k < ny
        · obtain ⟨g, v, rfl, hg1, hg2, hcg, hfg⟩ := hwy.look hlk
          have it0 : (0 : Int) ≤ (k : Int) := by omega
          have it1 : (k : Int) < (ny : Int) := by omega
          have hwx' := hwx.put g k (.int .u64 7)
          have hwy' := hwy.put g k (.int .u64 7)
          have hbd' := hbd.setCell hg1 (p := ⟨g, k, none⟩) (.int .u64 7)
          go_wp2_with fail
          go_roundw
          case rel => exact ⟨k + 1, by omega, by go_num, hwx', hwy', hbd'⟩
          case measure => simp [intOf]; omega
        · obtain rfl : ny = k := by omega
          replace hL := hL.below hbd
          replace h1 := h1.below hbd
          replace k1 := k1.below hbd
          replace b1 := b1.below hbd
          replace k2 := k2.below hbd
          replace b2 := b2.below hbd
          replace k3 := k3.below hbd
          replace hb := hb.trans (hbd.mono hb.size)
          clear hbd hwx hwy
          have xb10 := b1.c0
          have xb11 := b1.c1
          have xb20 := b2.c0
          have xb21 := b2.c1
          go_wp2_with fail
          refine (Diff_s d1 d2 k1 k2 rfl rfl (by omega) (by omega) (by omega) oR.out (.inl (by omega))).mono ?_
          rintro e wf ⟨hD2, hb20⟩
          clear xb10 xb11 xb20 xb21
          obtain ⟨px2, nx2, cx2, py2, ny2, cy2, er2, rfl, _, _, _, hv2⟩ := hD2.w
          obtain ⟨rfl, rfl, rfl⟩ := Verdict.same (by omega) oS.out oR.out hv.out hv2.out
          clear hv hv2
          have hbw := hb20
          replace hL := hL.below hb20
          replace h1 := h1.below hb20
          replace k1 := k1.below hb20
          replace b1 := b1.below hb20
          replace k2 := k2.below hb20
          replace b2 := b2.below hb20
          replace k3 := k3.below hb20
          replace hb := hb.trans (hb20.mono hb.size)
          clear hb20
          clear hbw
          go_wp2_with fail
          refine (Of_w c1 8 rfl h1 (by omega) (by omega)).mono ?_
          rintro e wg ⟨⟨q4, d4, rfl, hw4⟩, hbg⟩
          obtain ⟨bx, hbx⟩ := box_new wg S.length (.slice q4 8 d4)
          go_upto_region 16 with fail
          obtain ⟨wh, eb⟩ : ∃ W, Hid (wg.alloc (.cells #[.int .i64 S.length, .slice q4 8 d4] 30) = W) := ⟨_, Lib.hid rfl⟩
          rw [eb.out] at bx hbx ⊢
          replace hw4 := hw4.below hbx
          have hbh := hbg.trans (hbx.mono hbg.size)
          clear eb hbg hbx
          go_wp2_with fail
          go_loopw [18] (fun kv wr => ∃ k : Nat, k ≤ 8 ∧ kv = .int .i64 k ∧ Wr wr wf.heap.size wg.heap.size q4 8 ∧ BoxAt wr wg.heap.size S.length (.slice q4 8 d4) ∧ Below wf.heap.size wf wr) (fun kv _ => 8 - (intOf kv).toNat)
          case atStart => exact ⟨0, Nat.zero_le _, rfl, hw4, bx, hbh⟩
          case round =>
            clear hw4 bx hbh
            obtain ⟨k, hk, rfl, hw4, bx, hbh⟩ := hrel
            have x40 := bx.c0
            have x41 := bx.c1
            by_cases hlk : k < 8
            · obtain ⟨g, v, rfl, hg1, hg2, hcg, hfg⟩ := hw4.look hlk
              have it0 : (0 : Int) ≤ (k : Int) := by omega
              have it1 : (k : Int) < (8 : Int) := by omega
              have hw4' := hw4.put g k (.int .u64 3)
              have bx' := bx.other (g := g) (by omega) k (.int .u64 3)
              have hbh' := hbh.setCell hg1 (p := ⟨g, k, none⟩) (.int .u64 3)
              go_wp2_with fail
              go_roundw
              case rel => exact ⟨k + 1, by omega, by go_num, hw4', bx', hbh'⟩
              case measure => simp [intOf]; omega
            · obtain rfl : k = 8 := by omega
              replace hL := hL.below hbh
              replace h1 := h1.below hbh
              replace k1 := k1.below hbh
              replace b1 := b1.below hbh
              replace k2 := k2.below hbh
              replace b2 := b2.below hbh
              replace k3 := k3.below hbh
              replace hb := hb.trans (hbh.mono hb.size)
              clear hbh hw4 bx
              have te : (er == er) = true := beq_self_eq_true _
              have tx : ((nx : Int) == nx) = true := beq_self_eq_true _
              have ty : ((ny : Int) == ny) = true := beq_self_eq_true _
              have hfv := field_V
              have xb10 := b1.c0
              have xb11 := b1.c1
              go_wp2_with fail
              refine (Same_s _ _ k1 k3 rfl (by omega)).mono ?_
              rintro e w6 ⟨rfl, hb6⟩
              replace hL := hL.below hb6
              replace h1 := h1.below hb6
              replace k1 := k1.below hb6
              replace b1 := b1.below hb6
              replace k2 := k2.below hb6
              replace b2 := b2.below hb6
              replace k3 := k3.below hb6
              replace hb := hb.trans (hb6.mono hb.size)
              clear hb6
              clear xb10 xb11
              go_wp2_with fail
              refine (Set_s hL hnL).mono ?_
              rintro e w7 ⟨⟨p5, c5, rfl, h5, hc5, hp5, _⟩, hb7⟩
              replace hL := hL.below hb7
              replace h1 := h1.below hb7
              replace k1 := k1.below hb7
              replace b1 := b1.below hb7
              replace k2 := k2.below hb7
              replace b2 := b2.below hb7
              replace k3 := k3.below hb7
              replace hb := hb.trans (hb7.mono hb.size)
              clear hb7
              rw [eS.out] at h5 ⊢
              go_wp2_with fail
              refine (Same_s _ _ h1 h5 rfl (by omega)).mono ?_
              rintro e w8 ⟨rfl, hb8⟩
              replace hL := hL.below hb8
              replace h1 := h1.below hb8
              replace k1 := k1.below hb8
              replace b1 := b1.below hb8
              replace k2 := k2.below hb8
              replace b2 := b2.below hb8
              replace k3 := k3.below hb8
              replace h5 := h5.below hb8
              replace hb := hb.trans (hb8.mono hb.size)
              clear hb8
              go_wp2_with fail
              refine (Of_s _ 8 rfl h1 (by omega) (by omega)).mono ?_
              rintro e w9 ⟨⟨q6, d6, rfl, k6, hd6, hq6⟩, hb9⟩
              replace hL := hL.below hb9
              replace h1 := h1.below hb9
              replace k1 := k1.below hb9
              replace b1 := b1.below hb9
              replace k2 := k2.below hb9
              replace b2 := b2.below hb9
              replace k3 := k3.below hb9
              replace h5 := h5.below hb9
              replace hb := hb.trans (hb9.mono hb.size)
              clear hb9
              go_wp2_with fail
              refine (Same_s _ _ k6 k3 rfl (by omega)).mono ?_
              rintro e w10 ⟨rfl, hb10⟩
              replace hL := hL.below hb10
              replace h1 := h1.below hb10
              replace k1 := k1.below hb10
              replace b1 := b1.below hb10
              replace k2 := k2.below hb10
              replace b2 := b2.below hb10
              replace k3 := k3.below hb10
              replace h5 := h5.below hb10
              replace k6 := k6.below hb10
              replace hb := hb.trans (hb10.mono hb.size)
              clear hb10
              go_wp2_with fail
              refine (lives10 _).mono ?_
              rintro e w11 ⟨rfl, hb11⟩
              replace hL := hL.below hb11
              replace h1 := h1.below hb11
              replace k1 := k1.below hb11
              replace b1 := b1.below hb11
              replace k2 := k2.below hb11
              replace b2 := b2.below hb11
              replace k3 := k3.below hb11
              replace h5 := h5.below hb11
              replace k6 := k6.below hb11
              replace hb := hb.trans (hb11.mono hb.size)
              clear hb11
              go_wp2_with fail
              go_ret
              exact ⟨rfl, hb⟩
end Go.Proofs.Ytelnhpcehmdffaa
