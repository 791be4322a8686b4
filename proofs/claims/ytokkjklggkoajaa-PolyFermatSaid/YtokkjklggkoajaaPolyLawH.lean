/-
  The walks of the statements on polynomials (8): x^P less x.
-/
import Derived.Test.YtokkjklggkoajaaPol8
namespace Go.Proofs.Ytokkjklggkoajaa
open Go.RowKit
attribute [local go_sem] T_V

set_option maxRecDepth 100000 in
set_option maxHeartbeats 8000000 in
theorem fermat_walk (pa : Option Addr) (na : Nat) (xa : List Int) (ca : Nat) (w : World) (hA : U w pa na xa) (hcA : na ≤ ca) (hnA : na ≤ 9223372036854775807) (hpA : pa = none → ca = 0) :
    Calls Try.prog 11 #[.slice pa na ca] w fun e w' => e = .returned (.bool true) ∧ Below w.heap.size w w' := by
  go_enter Try.func11, Try.ntmps11
  go_wp2_with fail
  refine (Nums_p 5 rfl hA hcA hnA hpA (by omega)).mono ?_
  rintro e w1 ⟨⟨p1, n1, c1, rfl, h1, l1, _, _, _⟩, hb1⟩
  have hb := hb1
  clear hb1
  replace h1 := h1.rp
  generalize pol (xa.take n1) = A at h1
  go_wp2_with fail
  refine (Trim_p c1 h1 (by omega)).mono ?_
  rintro e w2 ⟨⟨p2, n2, c2, rfl, h2, l2, _⟩, hb2⟩
  clear h1
  replace hb := hb.trans (hb2.mono hb.size)
  clear hb2
  by_cases h2l : n2 < 2
  · go_wp2_with fail
    refine (Roots_p c2 h2.rp (by omega)).mono ?_
    rintro e w3 ⟨⟨p3, n3, c3, rs, rfl, h3, l3, _, hr⟩, hb3⟩
    replace h2 := h2.below hb3
    replace hb := hb.trans (hb3.mono hb.size)
    clear hb3
    obtain rfl : n3 = 0 := by
      have h := h3.len
      rw [List.length_map] at h
      by_cases hA : A = 0
      · rw [hr.out.2.1 hA] at h; exact h.symm
      · have h1 := Pol.roots_lt hA hr.out.1.nodup fun x hx => (hr.out.2.2 hA x).1 hx
        rw [h2.len] at h1
        omega
    clear h3 hr
    go_wp2_with fail
    refine (lives5 _).mono ?_
    rintro e w4 ⟨rfl, hb4⟩
    replace hb := hb.trans (hb4.mono hb.size)
    clear hb4
    go_wp2_with fail
    go_ret
    exact ⟨rfl, hb⟩
  · have hA0 := Lib.hid (Pol.ne_of_len h2.len (show n2 ≠ 0 by omega))
    have hS := U_lit w2 23 [0, 1] #[.int .u64 0, .int .u64 1] 2 rfl rfl (by decide)
    have hbl := Below.lit w2 (.cells #[.int .u64 0, .int .u64 1] 23)
    replace h2 := h2.below hbl
    replace hb := hb.trans (hbl.mono hb.size)
    clear hbl
    have hcg0 : Hid (Pol.CgN A 0 (pol [0, 1])) := Lib.hid (Pol.CgN.start A)
    obtain ⟨wl, ewl⟩ : ∃ wl, Hid (w2.alloc (.cells #[.int .u64 0, .int .u64 1] 23) = wl) := ⟨_, Lib.hid rfl⟩
    rw [ewl.out] at h2 hS hb
    go_wp2_with fail
    rw [ewl.out]
    go_loopw [4, 5] (fun pv kv wr => ∃ (k np cp : Nat) (pp : Option Addr) (P : Pol), k ≤ 61 ∧ kv = .int .i64 k ∧ pv = .slice pp np cp ∧ Rp wr pp np P ∧ np ≤ 5 ∧ Hid (Pol.CgN A k P) ∧ Below wl.heap.size wl wr)
      (fun _ kv _ => 61 - (intOf kv).toNat)
    case atStart => exact ⟨0, 2, 2, _, _, by omega, rfl, rfl, hS.rp, by omega, hcg0, Below.refl _ _⟩
    case round =>
      clear hS hcg0
      obtain ⟨k, np, cp, pp, P, hk, rfl, rfl, hP, hnp, hcg, hbl⟩ := hrel
      by_cases hlt : k < 61
      · have h2' := (h2.below hbl).rp
        go_wp2_with fail
        refine (Mul_p cp cp hP hP (by omega) (by omega)).mono ?_
        rintro e wa ⟨⟨pm, nm, cm, rfl, hm, lm, _⟩, hba⟩
        have h2'' := h2'.below hba
        go_wp2_with fail
        refine (DivMod_p cm c2 hm.rp h2'' (by omega) (by omega)).mono ?_
        rintro e wb ⟨⟨p5, n5, c5, p6, n6, c6, Q0, R0, rfl, h5, h6, l5, l6, hd⟩, hbb⟩
        have hcg2 : Hid (Pol.CgN A (k + 1) R0) := Lib.hid (hcg.out.step hA0.out hd.out)
        have h6' := h6.rp
        clear hcg hd hm h5 h6
        go_wp2
        go_roundw
        case rel => exact ⟨k + 1, n6, c6, p6, R0, by omega, by go_num, rfl, h6', by omega, hcg2, hbl.trans ((hba.trans (hbb.mono hba.size)).mono hbl.size)⟩
        case measure => simp [intOf]; omega
      · obtain rfl : k = 61 := by omega
        replace h2 := h2.below hbl
        replace hb := hb.trans (hbl.mono hb.size)
        clear hbl
        have hS := U_lit wr 23 [0, 0, 2305843009213693950] #[.int .u64 0, .int .u64 0, .int .u64 2305843009213693950] 3 rfl rfl (by decide)
        have hbl := Below.lit wr (.cells #[.int .u64 0, .int .u64 0, .int .u64 2305843009213693950] 23)
        replace h2 := h2.below hbl
        replace hP := hP.below hbl
        replace hb := hb.trans (hbl.mono hb.size)
        clear hbl
        go_wp2_with fail
        refine (Add_p cp 3 hP hS.rp (by omega) (by omega)).mono ?_
        rintro e w11 ⟨⟨p7, n7, c7, rfl, h7, l7, _⟩, hb11⟩
        clear hP hS
        replace h2 := h2.below hb11
        replace hb := hb.trans (hb11.mono hb.size)
        clear hb11
        go_wp2_with fail
        refine (DivMod_p c7 c2 h7.rp h2.rp (by omega) (by omega)).mono ?_
        rintro e w12 ⟨⟨p8, n8, c8, p9, n9, c9, Q1, L, rfl, h8, h9, l8, l9, hd⟩, hb12⟩
        replace h2 := h2.below hb12
        replace h7 := h7.below hb12
        replace hb := hb.trans (hb12.mono hb.size)
        clear hb12
        have hcL : Hid (Pol.CgL A L) := Lib.hid (hcg.out.less hA0.out hd.out)
        clear h7 h8 hd hcg
        go_wp2_with fail
        refine (Gcd_p c9 c2 h9.rp h2.rp (by omega) (by omega)).mono ?_
        rintro e w13 ⟨⟨p10, n10, c10, G, rfl, h10, ⟨l10, k10⟩, hG⟩, hb13⟩
        clear h9
        replace h2 := h2.below hb13
        replace hb := hb.trans (hb13.mono hb.size)
        clear hb13
        have hGn := Lib.hid (hG.out.ne (.inr hA0.out))
        have n10z : n10 ≠ 0 := Pol.len_ne h10.len hGn.out
        have t10 : ((n10 : Int) == 0) = false := by rw [beq_eq_false_iff_ne]; omega
        go_wp2_with fail
        refine (Roots_p c2 h2.rp (by omega)).mono ?_
        rintro e w14 ⟨⟨p11, n11, c11, rs, rfl, h11, l11, _, hr⟩, hb14⟩
        replace h2 := h2.below hb14
        replace h10 := h10.below hb14
        replace hb := hb.trans (hb14.mono hb.size)
        clear hb14
        have hrl : Hid (rs.length = n11) := Lib.hid (by have := h11.len; rwa [List.length_map] at this)
        obtain ⟨cnt, hcnt⟩ : ∃ cnt : Nat → Nat, Hid (cnt = fun i => ((rs.take i).filter fun x => x != 0).length) := ⟨_, Lib.hid rfl⟩
        have hcle : ∀ i, cnt i ≤ i := fun i => by
          rw [hcnt.out]
          have h := List.length_filter_le (fun x : F => x != 0) (rs.take i)
          rw [List.length_take] at h
          show ((rs.take i).filter fun x => x != 0).length ≤ i
          omega
        have hcle' := Lib.hid hcle
        clear hcle
        have hc0 : Hid ((cnt 0 : Nat) = 0) := Lib.hid (by rw [hcnt.out]; rfl)
        go_wp2_with fail
        go_loopw [11, 13] (fun mv iv wr => ∃ i : Nat, i ≤ n11 ∧ iv = .int .i64 i ∧ mv = .int .i64 (cnt i : Nat) ∧ Below w14.heap.size w14 wr)
          (fun _ iv _ => n11 - (intOf iv).toNat)
        case atStart => exact ⟨0, Nat.zero_le _, rfl, by rw [hc0.out]; rfl, Below.refl _ _⟩
        case round =>
          obtain ⟨i, hi, rfl, rfl, hbl⟩ := hrel
          have hci := hcle'.out i
          by_cases hlt : i < n11
          · have h2' := (h2.below hbl).rp
            obtain ⟨b, off, rfl, hbb, hcell, _, _⟩ := (h11.below hbl).look hlt
            rw [coef_nth (by rw [hrl.out]; exact hlt)] at hcell
            have hstep : Hid (cnt (i + 1) = cnt i + if coef rs i = 0 then 0 else 1) := Lib.hid (by
              have hlt' : i < rs.length := by rw [hrl.out]; exact hlt
              rw [hcnt.out]
              show ((rs.take (i + 1)).filter fun x => x != 0).length = ((rs.take i).filter fun x => x != 0).length + _
              rw [List.take_succ_eq_append_getElem hlt', List.filter_append, List.length_append, coef_lt hlt', List.filter_cons]
              by_cases h : rs[i] = 0
              · rw [if_pos h]; simp [h]
              · rw [if_neg h]; simp [h])
            have hz : Hid (A.at' (coef rs i) = 0) := Lib.hid ((hr.out.2.2 hA0.out _).1 (by rw [coef_lt (by rw [hrl.out]; exact hlt)]; exact List.getElem_mem _))
            obtain ⟨y, hy⟩ : ∃ y, Hid (coef rs i = y) := ⟨_, Lib.hid rfl⟩
            rw [hy.out] at hcell
            have hz2 : Hid (A.at' y = 0) := Lib.hid (by rw [← hy.out]; exact hz.out)
            by_cases hy0 : y = 0
            · have hst2 : Hid (cnt (i + 1) = cnt i) := Lib.hid (by rw [hstep.out, if_pos (hy.out.trans hy0)]; rfl)
              have ty : (V y != 0) = false := by rw [hy0]; rfl
              have ty' := Lib.hid ty
              clear hy0 ty hstep
              go_wp2_with fail
              refine (Eval_q c2 h2' (by omega) hz2.out).mono ?_
              rintro e wa ⟨rfl, hba⟩
              rw [V_zero]
              have hcell2 := (hba.cell hbb).trans hcell
              have ty := ty'.out
              go_wp2_with fail
              go_roundw
              case rel => exact ⟨i + 1, by omega, by go_num, by rw [hst2.out], hbl.trans (hba.mono hbl.size)⟩
              case measure => simp [intOf]; omega
            · have hst2 : Hid (cnt (i + 1) = cnt i + 1) := Lib.hid (by rw [hstep.out, if_neg fun e => hy0 (hy.out.symm.trans e)])
              have ty : (V y != 0) = true := by rw [bne_iff_ne]; exact fun e => hy0 ((V_eq_zero _).1 e)
              have ty' := Lib.hid ty
              clear hy0 ty hstep
              go_wp2_with fail
              refine (Eval_q c2 h2' (by omega) hz2.out).mono ?_
              rintro e wa ⟨rfl, hba⟩
              rw [V_zero]
              have hcell2 := (hba.cell hbb).trans hcell
              have ty := ty'.out
              go_wp2_with fail
              go_roundw
              case rel => exact ⟨i + 1, by omega, by go_num, by rw [hst2.out]; go_num, hbl.trans (hba.mono hbl.size)⟩
              case measure => simp [intOf]; omega
          · obtain rfl : i = n11 := by omega
            replace h10 := h10.below hbl
            replace h11 := h11.below hbl
            replace hb := hb.trans (hbl.mono hb.size)
            clear hbl
            obtain ⟨bg, og, rfl, _, _⟩ := h10.u.look (i := 0) (by omega)
            have hG2 := Lib.hid hGn.out
            have htop : Hid (coef G.l (n10 - 1) ≠ 0) := Lib.hid (by
              have h := Pol.top_ne hGn.out
              unfold Pol.top at h
              rwa [h10.len] at h)
            have hci := hcle'.out i
            go_wp2_with fail
            go_loop [10, 14] (fun gv nv => ∃ k m d o : Nat, nv = .int .i64 k ∧ gv = .slice (some ⟨bg, o, none⟩) m d ∧ 0 < m ∧ m ≤ d ∧ m ≤ n10 ∧ k ≤ n10 ∧ Hid (o = og + k ∧ m + k = n10 ∧ ∀ j, j < k → coef G.l j = 0)) (fun gv _ => match gv with | .slice _ j _ => j | _ => 0)
            case atStart => exact ⟨0, n10, c10, og, rfl, rfl, by omega, k10, by omega, by omega, Lib.hid ⟨rfl, rfl, fun j hj => absurd hj (by omega)⟩⟩
            case round =>
              obtain ⟨k, m, d, o, rfl, rfl, hm0, hmd, hmn, hkn, hinv⟩ := hrel
              have hcell : wr.cell? ⟨bg, o, none⟩ = some (.int .u64 (V (coef G.l k))) := by
                have h1 := hinv.out
                have h2 := h10.u.cell (i := k) (by omega)
                rw [coef_cell h10.u (by omega)] at h2
                rw [h1.1]; exact h2
              by_cases hz : coef G.l k = 0
              · have tz : (V (coef G.l k) == 0) = true := by rw [V_inj_zero, beq_iff_eq]; exact hz
                have hm2 : 2 ≤ m := by
                  have h1 := hinv.out
                  by_cases e : k = n10 - 1
                  · rw [e] at hz; exact absurd hz htop.out
                  · omega
                have hinv2 : Hid (o + 1 = og + (k + 1) ∧ m - 1 + (k + 1) = n10 ∧ ∀ j, j < k + 1 → coef G.l j = 0) := Lib.hid (by
                  have h1 := hinv.out
                  refine ⟨by omega, by omega, fun j hj => ?_⟩
                  by_cases e : j = k
                  · rw [e]; exact hz
                  · exact h1.2.2 j (by omega))
                have hsl := slice_one ⟨bg, o, none⟩ m d hm2 hmd
                clear hz hinv
                go_wp2_with fail
                go_round
                case rel => exact ⟨k + 1, m - 1, d - 1, o + 1, by go_num, rfl, by omega, by omega, by omega, by have h1 := hinv2.out; omega, hinv2⟩
                case measure => show m - 1 < m; omega
              · have tz : (V (coef G.l k) == 0) = false := by rw [V_inj_zero, beq_eq_false_iff_ne]; exact hz
                have hcount := Lib.hid (Pol.fermat_count hA0.out hcL.out hG.out hr.out hinv.out.2.2 hz)
                have hall : Hid (cnt i = (rs.filter fun x => x != 0).length) := Lib.hid (by
                  rw [hcnt.out]
                  show ((rs.take i).filter fun x => x != 0).length = _
                  rw [List.take_of_length_le (by rw [hrl.out]; exact Nat.le_refl _)])
                have tm : ((m : Int) - 1 == (cnt i : Int)) = true := by
                  have h1 := hinv.out
                  have h2 := hcount.out.1
                  rw [h10.len] at h2
                  rw [beq_iff_eq, hall.out, ← h2]
                  omega
                have hin : Hid ((rs.map V).contains 0 = decide (0 < k)) := Lib.hid (by
                  rw [Bool.eq_iff_iff, decide_eq_true_eq, hcount.out.2, List.contains_iff_mem, List.mem_map]
                  exact ⟨fun ⟨x, hx, e⟩ => by rw [← (V_eq_zero x).1 e]; exact hx, fun h => ⟨0, h, rfl⟩⟩)
                clear hz hall
                by_cases hk0 : 0 < k
                · have hr1 : Hid (true = (rs.map V).contains 0) := Lib.hid (by rw [hin.out]; exact (decide_eq_true hk0).symm)
                  go_wp2_with fail
                  refine (HasNum_any p11 i (rs.map V) c11 0 _ h11 (by omega) true hr1).mono ?_
                  rintro e wx ⟨rfl, rfl⟩
                  go_wp2_with fail
                  refine (lives5_b (Below.refl wr.heap.size wr)).mono ?_
                  rintro e wy ⟨rfl, hbz⟩
                  go_wp2_with fail
                  go_ret
                  exact ⟨rfl, hb.trans (hbz.mono hb.size)⟩
                · have hr1 : Hid (false = (rs.map V).contains 0) := Lib.hid (by rw [hin.out]; exact (decide_eq_false hk0).symm)
                  obtain rfl : k = 0 := by omega
                  go_wp2_with fail
                  refine (HasNum_any p11 i (rs.map V) c11 0 _ h11 (by omega) false hr1).mono ?_
                  rintro e wx ⟨rfl, rfl⟩
                  go_wp2_with fail
                  refine (lives5_b (Below.refl wr.heap.size wr)).mono ?_
                  rintro e wy ⟨rfl, hbz⟩
                  go_wp2_with fail
                  go_ret
                  exact ⟨rfl, hb.trans (hbz.mono hb.size)⟩
end Go.Proofs.Ytokkjklggkoajaa
