/-
  The contracts of the program's polynomials (8): powers modulo another one; of roots.
-/
import Derived.Test.YtelnhpcehmdffaaPolyG
import Derived.Test.YtelnhpcehmdffaaGa
namespace Go.Proofs.Ytelnhpcehmdffaa
open Go.RowKit
attribute [local go_sem] T_V

theorem Ps.open {w : World} {v : Value} {P : Pol} (h : Ps w v P) : ∃ p c, v = .slice p P.len c ∧ P.len ≤ c ∧ U w p P.len (P.l.map V) := h
theorem ps_lit1 (w : World) (t : TypeId) : Ps (w.alloc (.cells #[.int .u64 1] t)) (.slice (some ⟨w.heap.size, 0, none⟩) 1 1) 1 := by
  refine ⟨some ⟨w.heap.size, 0, none⟩, 1, ?_, ?_, ?_⟩
  · rw [Pol.len_one]
  · rw [Pol.len_one]; exact Nat.le_refl _
  · rw [Pol.len_one, Pol.one_l]; exact U_one w t 1
theorem len_mul_le (P Q : Pol) : (P * Q).len ≤ P.len + Q.len := by
  by_cases hP : P = 0
  · rw [hP, show (0 : Pol) * Q = 0 by grind, Pol.len_zero]; omega
  · by_cases hQ : Q = 0
    · rw [hQ, show P * (0 : Pol) = 0 by grind, Pol.len_zero]; omega
    · rw [Pol.len_mul hP hQ]; omega

/-- A slice that reads as a polynomial, reduced or not. -/
def Rs (w : World) (v : Value) (P : Pol) : Prop := ∃ p n c xs, v = .slice p n c ∧ U w p n xs ∧ pol xs = P ∧ n ≤ 1000000
theorem Ps.rs {w : World} {v : Value} {P : Pol} (h : Ps w v P) (hl : P.len ≤ 1000000) : Rs w v P := by
  obtain ⟨p, c, hv, _, hU⟩ := h
  exact ⟨p, _, c, _, hv, hU, pol_V P, hl⟩
theorem Rs.below {w w' : World} {v : Value} {P : Pol} (h : Rs w v P) (hb : Below w.heap.size w w') : Rs w' v P := by
  obtain ⟨p, n, c, xs, hv, hU, hp, hn⟩ := h
  exact ⟨p, n, c, xs, hv, hU.below hb, hp, hn⟩

set_option maxRecDepth 100000 in
theorem power_any (p q : Option Addr) (n : Nat) (xs : List Int) (c d : Nat) (e : Nat) (M : Pol) (w : World) (hX : U w p n xs) (hn : n ≤ 1000000) (he : e < 18446744073709551616) (hM : U w q M.len (M.l.map V)) (hM2 : 2 ≤ M.len) (hM3 : M.len ≤ 1000000) :
    Calls Try.prog 64 #[.slice p n c, .int .u64 e, .slice q M.len d] w fun ed w' => ∃ v R, ed = .returned v ∧ Ps w' v R ∧ R.len < M.len ∧ Pol.Cong M (pol xs ^ e) R ∧ Below w.heap.size w w' := by
  have hb0 : Below w.heap.size w (w.alloc (.cells #[.int .u64 1] 40)) := (Below.refl _ _).alloc (Nat.le_refl _) _
  have hO := ps_lit1 w 40
  have hR : Rs (w.alloc (.cells #[.int .u64 1] 40)) (.slice p n c) (pol xs) := ⟨p, n, c, xs, rfl, hX.below hb0, rfl, hn⟩
  have hst : Hid (Pol.PowSt M (pol xs) e 1 (pol xs) e) := Lib.hid (Pol.PowSt.start _ _ _)
  have hM0 : Hid (M ≠ 0) := Lib.hid fun h => by rw [h, Pol.len_zero] at hM2; omega
  go_enter Try.func64, Try.ntmps64
  go_wp2
  go_loopw [0, 1, 7] (fun av kv ov wr => ∃ (P O : Pol) (k : Nat), k < 18446744073709551616 ∧ kv = .int .u64 k ∧ Rs wr av P ∧ Ps wr ov O ∧ O.len < M.len ∧ Hid (Pol.PowSt M (pol xs) e O P k) ∧ Below w.heap.size w wr)
    (fun _ kv _ _ => (intOf kv).toNat)
  case atStart => exact ⟨_, _, e, he, rfl, hR, hO, by rw [Pol.len_one]; omega, hst, hb0⟩
  case round =>
    clear hO hR hst hb0
    obtain ⟨P, O, k, hk, rfl, ⟨pa, na, ca, as', rfl, hUa, hpa, hna⟩, ⟨po, co, rfl, hco, hUo⟩, hlo, hst, hb⟩ := hrel
    have hpA := Lib.hid hpa
    clear hpa
    have hMr := hM.below hb
    by_cases h0 : 0 < k
    · have hPl : P.len ≤ 1000000 := by rw [← hpA.out]; have := pol_len as'; rw [hUa.len] at this; omega
      have hk2 : (k : Int) / 2 = ((k / 2 : Nat) : Int) := by omega
      have hK2 := Lib.hid hk2
      clear hk2
      by_cases hodd : k % 2 = 1
      · have hbit : (bits .and .u64 (k : Int) 1 == 1) = true := by rw [mask1 _ (by omega) (by omega), beq_iff_eq]; omega
        have hodd' := Lib.hid hodd
        clear hodd
        go_wp2_with fail
        refine (MulG po pa O.len na (O.l.map V) as' co ca _ hUo hUa (by omega) (by omega)).mono ?_
        rintro ed w1 ⟨v1, rfl, ⟨p1, c1, rfl, hc1, hU1⟩, hb1⟩
        rw [pol_V, hpA.out] at hc1 hU1
        rw [pol_V, hpA.out]
        have hl1 := len_mul_le O P
        go_wp2_with fail
        refine (DivModG p1 q (O * P).len M.len _ _ c1 d _ hU1 (hMr.below hb1) (by omega) (by omega)).mono ?_
        rintro ed w2 ⟨v2, v3, Q1, O', rfl, _, ⟨hO', _⟩, hdiv, hb2⟩
        rw [pol_V, pol_V] at hdiv
        have hd1 := (hdiv.resolve_left (fun h => hM0.out h.1)).2
        have hb12 := hb1.trans (hb2.mono hb1.size)
        clear hdiv
        go_wp2_with fail
        refine (MulG pa pa na na as' as' ca ca _ (hUa.below hb12) (hUa.below hb12) (by omega) (by omega)).mono ?_
        rintro ed w3 ⟨v4, rfl, ⟨p3, c3, rfl, hc3, hU3⟩, hb3⟩
        rw [hpA.out] at hc3 hU3
        rw [hpA.out]
        have hl3 := len_mul_le P P
        have hb13 := hb12.trans (hb3.mono hb12.size)
        go_wp2_with fail
        refine (DivModG p3 q (P * P).len M.len _ _ c3 d _ hU3 (hMr.below hb13) (by omega) (by omega)).mono ?_
        rintro ed w4 ⟨v5, v6, Q2, P', rfl, _, ⟨hP', _⟩, hdiv, hb4⟩
        rw [pol_V, pol_V] at hdiv
        have hd2 := (hdiv.resolve_left (fun h => hM0.out h.1)).2
        have hl4 := hd1.less
        have hl5 := hd2.less
        have hst2 : Hid (Pol.PowSt M (pol xs) e O' P' (k / 2)) := Lib.hid (hst.out.odd hodd'.out hd1.cong hd2.cong)
        have hO2 := (hO'.below hb3).below hb4
        have hP2 := hP'.rs (by omega)
        have hb14 := hb13.trans (hb4.mono hb13.size)
        obtain ⟨p5, c5, rfl, hO3⟩ := hO2
        obtain ⟨p6, n6, c6, xs6, rfl, hP3⟩ := hP2
        clear hdiv hst hd1 hd2 hO' hP'
        go_wp2
        go_roundw
        case rel => exact ⟨P', O', k / 2, by omega, by rw [← hK2.out], ⟨p6, n6, c6, xs6, rfl, hP3⟩, ⟨p5, c5, rfl, hO3⟩, hl4, hst2, hb.trans (hb14.mono hb.size)⟩
        case measure => simp [intOf]; omega
      · have hbit : (bits .and .u64 (k : Int) 1 == 1) = false := by rw [mask1 _ (by omega) (by omega), beq_eq_false_iff_ne]; omega
        have heven := Lib.hid (show k % 2 = 0 by omega)
        clear hodd
        go_wp2_with fail
        refine (MulG pa pa na na as' as' ca ca _ hUa hUa (by omega) (by omega)).mono ?_
        rintro ed w3 ⟨v4, rfl, ⟨p3, c3, rfl, hc3, hU3⟩, hb3⟩
        rw [hpA.out] at hc3 hU3
        rw [hpA.out]
        have hl3 := len_mul_le P P
        go_wp2_with fail
        refine (DivModG p3 q (P * P).len M.len _ _ c3 d _ hU3 (hMr.below hb3) (by omega) (by omega)).mono ?_
        rintro ed w4 ⟨v5, v6, Q2, P', rfl, _, ⟨hP', _⟩, hdiv, hb4⟩
        rw [pol_V, pol_V] at hdiv
        have hd2 := (hdiv.resolve_left (fun h => hM0.out h.1)).2
        have hl5 := hd2.less
        have hst2 : Hid (Pol.PowSt M (pol xs) e O P' (k / 2)) := Lib.hid (hst.out.even heven.out hd2.cong)
        have hP2 := hP'.rs (by omega)
        have hb14 := hb3.trans (hb4.mono hb3.size)
        have hUo4 := hUo.below hb14
        obtain ⟨p6, n6, c6, xs6, rfl, hP3⟩ := hP2
        clear hdiv hst hd2 hP'
        go_wp2
        go_roundw
        case rel => exact ⟨P', O, k / 2, by omega, by rw [← hK2.out], ⟨p6, n6, c6, xs6, rfl, hP3⟩, ⟨po, co, rfl, hco, hUo4⟩, hlo, hst2, hb.trans (hb14.mono hb.size)⟩
        case measure => simp [intOf]; omega
    · obtain rfl : k = 0 := by omega
      have hfin : Hid (Pol.Cong M (pol xs ^ e) O) := Lib.hid hst.out.done
      go_wp2
      go_ret
      exact ⟨_, O, rfl, ⟨po, co, rfl, hco, hUo⟩, hlo, hfin.out, hb⟩

theorem prodL_snoc (L : List F) (r : F) : Pol.prodL (L ++ [r]) = Pol.prodL L * Pol.lin r := by
  induction L with
  | nil => show Pol.lin r * 1 = 1 * Pol.lin r; grind
  | cons a L ih => rw [List.cons_append, Pol.prodL, ih, Pol.prodL]; grind
theorem pol_two (r : F) : pol ([-r, 1].map V) = Pol.lin r := by unfold pol; rw [map_TV]; rfl

end Go.Proofs.Ytelnhpcehmdffaa
