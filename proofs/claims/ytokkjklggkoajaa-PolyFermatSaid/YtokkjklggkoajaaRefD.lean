/-
  The contracts of the references' polynomials (4): what divides both; of roots; numbers rising, each once; what has no roots.
-/
import Derived.Test.YtokkjklggkoajaaRefC
import Derived.Test.YtokkjklggkoajaaSmall
namespace Go.Proofs.Ytokkjklggkoajaa
open Go.RowKit
attribute [local go_sem] T_V

theorem rScaleG (p : Option Addr) (n : Nat) (xs : List Int) (c : Nat) (y : Int) (w : World) (hX : U w p n xs) (hn : n ≤ 1000000) (hy0 : 0 ≤ y) (hy1 : y < 18446744073709551616) :
    Calls Try.prog 34 #[.slice p n c, .int .u64 y] w fun e w' => ∃ v, e = .returned v ∧ Ps w' v (Pol.scale (pol xs) (T y)) ∧ Below w.heap.size w w' :=
  (rScale_any p n xs c y w hX (by omega) hy0 hy1).mono fun _ _ ⟨v, he, hv, hb⟩ => ⟨v, he, ps_of_fs (P := Pol.scale (pol xs) (T y)) (by
    have e : Pol.scale (pol xs) (T y) = Pol.mk' ((xs.map T).map (· * T y)) := Pol.ext fun i => by
      rw [Pol.coef_scale, Pol.coef_mk]
      unfold pol
      rw [Pol.coef_mk]
      by_cases hi : i < (xs.map T).length
      · rw [coef_lt hi, coef_lt (by simpa using hi), List.getElem_map]; grind
      · rw [coef_ge (by omega), coef_ge (by simpa using hi)]; grind
    rw [e]; exact hv), hb⟩

set_option maxRecDepth 100000 in
set_option maxHeartbeats 1000000 in
theorem rGcd_any (p q : Option Addr) (n m : Nat) (xs ys : List Int) (c d : Nat) (w : World) (hX : U w p n xs) (hY : U w q m ys) (hn : n ≤ 1000000) (hm : m ≤ 1000000) :
    Calls Try.prog 27 #[.slice p n c, .slice q m d] w fun e w' => ∃ v G, e = .returned v ∧ Ps w' v G ∧ Pol.GcdOk (pol xs) (pol ys) G ∧ Below w.heap.size w w' := by
  have hl1 : (pol xs).len ≤ 1000000 := by have := pol_len xs; rw [hX.len] at this; omega
  have hl2 : (pol ys).len ≤ 1000000 := by have := pol_len ys; rw [hY.len] at this; omega
  go_enter Try.func27, Try.ntmps27
  go_wp2_with fail
  refine (rTrimG p n xs c _ hX (by omega)).mono ?_
  rintro e w1 ⟨v1, rfl, hP, _, hb1⟩
  go_wp2_with fail
  refine (rTrimG q m ys d _ (hY.below hb1) (by omega)).mono ?_
  rintro e w2 ⟨v2, rfl, hQ, _, hb2⟩
  have hb12 := hb1.trans (hb2.mono hb1.size)
  have hP2 := hP.below hb2
  have hto : Hid (GcdTo (pol xs) (pol ys) (pol xs) (pol ys)) := Lib.hid fun g h => h
  clear hP
  go_wp2_with fail
  go_loopw [5, 6] (fun av bv wr => ∃ P Q : Pol, Ps wr av P ∧ Ps wr bv Q ∧ P.len ≤ 1000000 ∧ Q.len ≤ 1000000 ∧ Hid (GcdTo (pol xs) (pol ys) P Q) ∧ Below w.heap.size w wr)
    (fun _ bv _ => match bv with | .slice _ k _ => k | _ => 0)
  case atStart => exact ⟨_, _, hP2, hQ, hl1, hl2, hto, hb12⟩
  case round =>
    clear hP2 hQ hb12 hl1 hl2 hto
    obtain ⟨P, Q, ⟨pp, cp, rfl, hcp, hUP⟩, ⟨pq, cq, rfl, hcq, hUQ⟩, hlp, hlq, hto, hb⟩ := hrel
    by_cases h0 : 0 < Q.len
    · go_wp2_with fail
      refine (rDivMod_any pp pq P.len Q.len (P.l.map V) (Q.l.map V) cp cq _ hUP hUQ hlp hlq).mono ?_
      rintro e w3 ⟨q1, r1, Q', R, rfl, _, ⟨pr, cr, rfl, hcr, hUR⟩, hdiv, hb3⟩
      rw [pol_V, pol_V] at hdiv
      have hQ0 : Q ≠ 0 := fun e => by rw [e, Pol.len_zero] at h0; omega
      have hdv : Pol.DivOk P Q Q' R := hdiv.resolve_left (fun h => hQ0 h.1) |>.2
      have hless := hdv.less
      have hto2 : Hid (GcdTo (pol xs) (pol ys) Q R) := Lib.hid fun g h => hto.out g ((Pol.gcd_step hdv).1 h)
      have hUQ3 := hUQ.below hb3
      clear hdiv hdv hQ0 hto
      go_wp2
      go_roundw
      case rel => exact ⟨Q, R, ⟨pq, cq, rfl, hcq, hUQ3⟩, ⟨pr, cr, rfl, hcr, hUR⟩, hlq, by omega, hto2, hb.trans (hb3.mono hb.size)⟩
      case measure => exact hless
    · have hQ0 : Hid (Q = 0) := Lib.hid (Pol.eq_zero_of_len (by omega))
      have hfin : Hid (Pol.GcdOk (pol xs) (pol ys) (Pol.monic P)) := Lib.hid (hto.out _ (by rw [hQ0.out]; exact Pol.gcd_end))
      obtain ⟨np, hnp⟩ : ∃ np, Hid (P.len = np) := ⟨_, Lib.hid rfl⟩
      rw [hnp.out] at hUP hcp hlp ⊢
      clear hto
      by_cases hz : np = 0
      · have hz' : ((np : Int) == 0) = true := by rw [beq_iff_eq]; omega
        have hm0 : Hid (Pol.monic P = 0) := Lib.hid (by rw [Pol.eq_zero_of_len (hnp.out.trans hz)]; exact Pol.monic_zero)
        clear hz
        go_wp2_with fail
        go_ret
        exact ⟨_, _, rfl, by rw [hm0.out]; exact Ps.nil _, hfin.out, hb⟩
      · have hz' : ((np : Int) == 0) = false := by rw [beq_eq_false_iff_ne]; omega
        obtain ⟨b, off, rfl, _, hcell, _, _⟩ := hUP.look (i := np - 1) (by omega)
        have htop : Hid (nth (P.l.map V) (np - 1) = V P.top) := Lib.hid (by rw [coef_cell hUP (by omega)]; unfold Pol.top; rw [hnp.out])
        rw [htop.out] at hcell
        have hnp0 : 0 < np := by omega
        clear hz
        go_wp2_with fail
        refine (rinv_b (Below.refl _ _) _ (V_lo _) (V_64 _)).mono ?_
        rintro e w3 ⟨rfl, hb3⟩
        rw [T_V]
        go_wp2_with fail
        refine (rScaleG _ np (P.l.map V) cp _ _ (hUP.below hb3) hlp (V_lo _) (V_64 _)).mono ?_
        rintro e w4 ⟨v, rfl, hv, hb4⟩
        rw [pol_V, T_V] at hv
        change Ps w4 v (Pol.monic P) at hv
        go_wp2_with fail
        go_ret
        exact ⟨v, _, rfl, hv, hfin.out, hb.trans ((hb3.trans (hb4.mono hb3.size)).mono hb.size)⟩

set_option maxRecDepth 100000 in
theorem rOf_any (p : Option Addr) (n : Nat) (xs : List Int) (c : Nat) (w : World) (hX : U w p n xs) (hn : n ≤ 100000) :
    Calls Try.prog 32 #[.slice p n c] w fun e w' => ∃ v, e = .returned v ∧ Ps w' v (Pol.prodL (xs.map T)) ∧ Below w.heap.size w w' := by
  have hXl := Lib.hid hX.len
  have hb0 : Below w.heap.size w (w.alloc (.cells #[.int .u64 1] 23)) := (Below.refl _ _).alloc (Nat.le_refl _) _
  have hO := ps_lit1 w 23
  go_enter Try.func32, Try.ntmps32
  go_wp2
  go_loopw [3, 4] (fun ov i wr => ∃ k : Nat, k ≤ n ∧ i = .int .i64 k ∧ Ps wr ov (Pol.prodL ((xs.map T).take k)) ∧ Below w.heap.size w wr)
    (fun _ i _ => n - (intOf i).toNat)
  case atStart => exact ⟨0, Nat.zero_le _, rfl, hO, hb0⟩
  case round =>
    clear hO hb0
    obtain ⟨k, hk, rfl, hO, hb⟩ := hrel
    by_cases hlt : k < n
    · obtain ⟨b, off, rfl, _, hc1, hx0, hx1⟩ := (hX.below hb).look hlt
      have hst : Hid (Pol.prodL ((xs.map T).take (k + 1)) = Pol.prodL ((xs.map T).take k) * Pol.lin (T (nth xs k))) := Lib.hid (by
        rw [List.take_succ_eq_append_getElem (by rw [List.length_map, hXl.out]; exact hlt), ← coef_lt, coef_T (by rw [hXl.out]; exact hlt), prodL_snoc])
      have hll : Hid ((Pol.prodL ((xs.map T).take k)).len = k + 1) := Lib.hid (by rw [Pol.len_prodL, List.length_take, List.length_map, hXl.out]; omega)
      generalize Pol.prodL ((xs.map T).take k) = O at *
      obtain ⟨po, co, rfl, hco, hUo⟩ := hO
      have hll2 : O.len ≤ 1000000 := by rw [hll.out]; omega
      go_wp2_with fail
      refine (rsub_any 0 (nth xs k) _ (by omega) (by omega) hx0 hx1).mono ?_
      rintro e w1 ⟨rfl, rfl⟩
      rw [T_zero, zero_sub']
      have hb1 : Below wr.heap.size wr (wr.alloc (.cells #[.int .u64 (V (-T (nth xs k))), .int .u64 1] 23)) := (Below.refl _ _).alloc (Nat.le_refl _) _
      go_wp2_with fail
      refine (rMulG po _ O.len 2 (O.l.map V) ([-T (nth xs k), 1].map V) co 2 _ (hUo.below hb1) (U_two wr 23 (-T (nth xs k)) 1) (by omega) (by omega)).mono ?_
      rintro e w2 ⟨v, rfl, hv, hb2⟩
      rw [pol_V, pol_two, ← hst.out] at hv
      obtain ⟨p2, c2, rfl, hv2⟩ := hv
      go_wp2
      go_roundw
      case rel => exact ⟨k + 1, by omega, by go_num, ⟨p2, c2, rfl, hv2⟩, (hb.trans (hb1.mono hb.size)).trans (hb2.mono (by have := hb.size; have := hb1.size; omega))⟩
      case measure => simp [intOf]; omega
    · have hfin : Hid ((xs.map T).take k = xs.map T) := Lib.hid (List.take_of_length_le (by rw [List.length_map, hXl.out]; omega))
      rw [hfin.out] at hO
      go_wp2
      go_ret
      exact ⟨_, rfl, hO, hb⟩

set_option maxRecDepth 100000 in
theorem Secret_any (n : Int) (w : World) (h0 : 0 ≤ n) (h1 : n < 18446744073709551616) :
    Calls Try.prog 35 #[.int .u64 n] w fun e w' => e = .returned (.int .u64 (1 + n % 2305843009213693949)) ∧ w = w' := by
  have hm : 0 ≤ n % 2305843009213693949 ∧ n % 2305843009213693949 < 2305843009213693949 := by omega
  go_enter Try.func35, Try.ntmps35
  go_wp2
  go_ret
  exact ⟨rfl, rfl⟩

theorem U.drop {w : World} {b off n : Nat} {xs : List Int} (h : U w (some ⟨b, off, none⟩) n xs) (k : Nat) : U w (some ⟨b, off + k, none⟩) (n - k) (xs.drop k) := by
  refine ⟨by rw [List.length_drop, h.len], ?_, fun x hx => h.bd x (List.mem_of_mem_drop hx)⟩
  refine .inr ⟨b, off + k, rfl, fun i hi => ?_⟩
  rw [List.length_map, List.length_drop] at hi
  have hi2 : k + i < n := by rw [← h.len]; omega
  rw [List.getElem_map, List.getElem_drop, Nat.add_assoc]
  have := h.cell hi2
  rwa [nth_eq (by rw [h.len]; exact hi2)] at this
end Go.Proofs.Ytokkjklggkoajaa
