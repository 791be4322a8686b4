/-
  Acts on a chain (2): the acts of numbers, in the program.
-/
import Derived.Test.YtcnhgkgabddjmaaChM
import Derived.Test.YtcnhgkgabddjmaaChLawA
namespace Go.Proofs.Ytcnhgkgabddjmaa
open Go.RowKit Go.Maps

theorem take_snoc {all : List Int} {i : Nat} (hi : i < all.length) : all.take (i + 1) = all.take i ++ [nth all i] := by
  rw [List.take_succ_eq_append_getElem hi, nth_eq hi]
theorem actOf_nat (x : Int) : ∃ N : Nat, around x 100000 = N ∧ N < 100000 ∧ actOf x = (if N % 8 = 0 ∨ N % 8 = 1 then 1 else if N % 8 = 4 ∧ N / 8 % 9 = 0 then 2 else 0, if N % 8 = 2 then (N : Int) / 8 % 70 else if N % 8 = 3 then -((N : Int) / 8 % 3) else (N : Int) / 8 % 14) := by
  obtain ⟨a0, a1⟩ := around_bd x 100000 (by omega)
  refine ⟨(around x 100000).toNat, by omega, by omega, ?_⟩
  obtain ⟨N, hN⟩ : ∃ N : Nat, around x 100000 = N := ⟨(around x 100000).toNat, by omega⟩
  unfold actOf
  rw [hN, Int.toNat_natCast]
  have e0 : ((N : Int) % 8 = 0 ∨ (N : Int) % 8 = 1) ↔ (N % 8 = 0 ∨ N % 8 = 1) := by omega
  have e1 : ((N : Int) % 8 = 4 ∧ (N : Int) / 8 % 9 = 0) ↔ (N % 8 = 4 ∧ N / 8 % 9 = 0) := by omega
  have e2 : ((N : Int) % 8 = 2) ↔ (N % 8 = 2) := by omega
  have e3 : ((N : Int) % 8 = 3) ↔ (N % 8 = 3) := by omega
  simp only [e0, e1, e2, e3]
theorem OwnAc.uf {w : World} {base : Nat} {v : Value} {n : Nat} {l : List (Int × Int)} (h : OwnAc w base v n l) : ∃ p c, v = .slice p n c ∧ n ≤ c ∧ Ac w p n l ∧ FarP base p := by
  obtain ⟨p, c, hv, hc, hA⟩ := h.u
  refine ⟨p, c, hv, hc, hA, ?_⟩
  intro a ha
  have hl := h.row.lt
  subst ha
  rw [hv] at hl
  exact (hl a.block rfl).1
set_option maxRecDepth 100000 in
set_option maxHeartbeats 4000000 in
theorem Acts_any (p : Option Addr) (n : Nat) (xs : List Int) (c : Nat) (w : World) (hX : UI w p n xs) (hn : n ≤ 9223372036854775807) :
    Calls Try.prog 23 #[.slice p n c] w fun e w' => ∃ (q : Option Addr) (m cq : Nat), e = .returned (.slice q m cq) ∧ Ac w' q m (actsOf xs) ∧ m ≤ 16 ∧ FarP w.heap.size q ∧ Below w.heap.size w w' := by
  go_enter Try.func23, Try.ntmps23
  have hlen := hX.len
  replace hlen := Lib.hid hlen
  replace hX := Lib.hid hX
  go_wp2_with fail
  go_loopw [3, 4] (fun v i W => ∃ k : Nat, k ≤ n ∧ k ≤ 16 ∧ i = .int .i64 k ∧ OwnAc W w.heap.size v k ((xs.take k).map actOf) ∧ Below w.heap.size w W)
    (fun _ i _ => n - (intOf i).toNat)
  case atStart => exact ⟨0, by omega, by omega, rfl, OwnAc.nil _ _, Below.refl _ _⟩
  case round =>
    obtain ⟨k, hk, hk16, rfl, hO, hb⟩ := hrel
    by_cases hgo : k < n ∧ k < 16
    · obtain ⟨h1, h2⟩ := hgo
      obtain ⟨bl, ol, rfl, _, hcl, hx0, hx1⟩ := (hX.out.below hb).look h1
      obtain ⟨N, eN, hN, eact⟩ := actOf_nat (nth xs k)
      have et := take_snoc (all := xs) (i := k) (by rw [hlen.out]; exact h1)
      replace et := Lib.hid et
      replace eN := Lib.hid eN
      have hs0 := hb.size
      rcases (by omega : N % 8 = 0 ∨ N % 8 = 1 ∨ N % 8 = 2 ∨ N % 8 = 3 ∨ (N % 8 = 4 ∧ N / 8 % 9 = 0) ∨ (N % 8 = 4 ∧ N / 8 % 9 ≠ 0) ∨ 5 ≤ N % 8) with hr | hr | hr | hr | hr | hr | hr
      · have t0 : (((N : Int) % 8) == (0 : Int)) = true := beq_iff_eq.2 (by omega)
        have ea : Hid (actOf (nth xs k) = (1, (N : Int) / 8 % 14)) := Lib.hid (by rw [eact]; simp only [Prod.mk.injEq]; refine ⟨?_, ?_⟩ <;> (repeat (first | rfl | (rw [if_pos (by omega)]) | (rw [if_neg (by omega)]))))
        clear eact hr
        have hbX := Below.lit wr (.cells #[.int .i64 (1), .int .i64 ((N : Int) / 8 % 14)] 51)
        have hO2 := hO.below hbX
        have hb2 := hb.trans (hbX.mono hb.size)
        go_wp2_with (first
          | (go_at_call 11; refine (Around_any (nth xs k) 100000 _ hx0 hx1 (by omega) (by omega)).mono ?_; rintro e w' ⟨rfl, rfl⟩; rw [eN.out])
          | (at_builtin; refine app_ac (y := 1) (z := (N : Int) / 8 % 14) rfl _ _ rfl hO2 rfl (by rw [World.size_alloc]; rfl) (by omega) (by omega) hb2.size ?_; intro v' w4 hO4 hb4))
        go_roundw
        case rel => exact ⟨k + 1, by omega, by omega, by go_num, by rw [et.out, List.map_append, List.map_singleton, ea.out]; exact hO4, hb2.trans hb4⟩
        case measure => simp [intOf]; omega
      · have t0 : (((N : Int) % 8) == (0 : Int)) = false := beq_eq_false_iff_ne.2 (by omega)
        have t1 : (((N : Int) % 8) == (1 : Int)) = true := beq_iff_eq.2 (by omega)
        have ea : Hid (actOf (nth xs k) = (1, (N : Int) / 8 % 14)) := Lib.hid (by rw [eact]; simp only [Prod.mk.injEq]; refine ⟨?_, ?_⟩ <;> (repeat (first | rfl | (rw [if_pos (by omega)]) | (rw [if_neg (by omega)]))))
        clear eact hr
        have hbX := Below.lit wr (.cells #[.int .i64 (1), .int .i64 ((N : Int) / 8 % 14)] 51)
        have hO2 := hO.below hbX
        have hb2 := hb.trans (hbX.mono hb.size)
        go_wp2_with (first
          | (go_at_call 11; refine (Around_any (nth xs k) 100000 _ hx0 hx1 (by omega) (by omega)).mono ?_; rintro e w' ⟨rfl, rfl⟩; rw [eN.out])
          | (at_builtin; refine app_ac (y := 1) (z := (N : Int) / 8 % 14) rfl _ _ rfl hO2 rfl (by rw [World.size_alloc]; rfl) (by omega) (by omega) hb2.size ?_; intro v' w4 hO4 hb4))
        go_roundw
        case rel => exact ⟨k + 1, by omega, by omega, by go_num, by rw [et.out, List.map_append, List.map_singleton, ea.out]; exact hO4, hb2.trans hb4⟩
        case measure => simp [intOf]; omega
      · have t0 : (((N : Int) % 8) == (0 : Int)) = false := beq_eq_false_iff_ne.2 (by omega)
        have t1 : (((N : Int) % 8) == (1 : Int)) = false := beq_eq_false_iff_ne.2 (by omega)
        have t2 : (((N : Int) % 8) == (2 : Int)) = true := beq_iff_eq.2 (by omega)
        have ea : Hid (actOf (nth xs k) = (0, (N : Int) / 8 % 70)) := Lib.hid (by rw [eact]; simp only [Prod.mk.injEq]; refine ⟨?_, ?_⟩ <;> (repeat (first | rfl | (rw [if_pos (by omega)]) | (rw [if_neg (by omega)]))))
        clear eact hr
        have hbX := Below.lit wr (.cells #[.int .i64 (0), .int .i64 ((N : Int) / 8 % 70)] 51)
        have hO2 := hO.below hbX
        have hb2 := hb.trans (hbX.mono hb.size)
        go_wp2_with (first
          | (go_at_call 11; refine (Around_any (nth xs k) 100000 _ hx0 hx1 (by omega) (by omega)).mono ?_; rintro e w' ⟨rfl, rfl⟩; rw [eN.out])
          | (at_builtin; refine app_ac (y := 0) (z := (N : Int) / 8 % 70) rfl _ _ rfl hO2 rfl (by rw [World.size_alloc]; rfl) (by omega) (by omega) hb2.size ?_; intro v' w4 hO4 hb4))
        go_roundw
        case rel => exact ⟨k + 1, by omega, by omega, by go_num, by rw [et.out, List.map_append, List.map_singleton, ea.out]; exact hO4, hb2.trans hb4⟩
        case measure => simp [intOf]; omega
      · have t0 : (((N : Int) % 8) == (0 : Int)) = false := beq_eq_false_iff_ne.2 (by omega)
        have t1 : (((N : Int) % 8) == (1 : Int)) = false := beq_eq_false_iff_ne.2 (by omega)
        have t2 : (((N : Int) % 8) == (2 : Int)) = false := beq_eq_false_iff_ne.2 (by omega)
        have t3 : (((N : Int) % 8) == (3 : Int)) = true := beq_iff_eq.2 (by omega)
        have ea : Hid (actOf (nth xs k) = (0, -((N : Int) / 8 % 3))) := Lib.hid (by rw [eact]; simp only [Prod.mk.injEq]; refine ⟨?_, ?_⟩ <;> (repeat (first | rfl | (rw [if_pos (by omega)]) | (rw [if_neg (by omega)]))))
        clear eact hr
        have hbX := Below.lit wr (.cells #[.int .i64 (0), .int .i64 (-((N : Int) / 8 % 3))] 51)
        have hO2 := hO.below hbX
        have hb2 := hb.trans (hbX.mono hb.size)
        go_wp2_with (first
          | (go_at_call 11; refine (Around_any (nth xs k) 100000 _ hx0 hx1 (by omega) (by omega)).mono ?_; rintro e w' ⟨rfl, rfl⟩; rw [eN.out])
          | (at_builtin; refine app_ac (y := 0) (z := -((N : Int) / 8 % 3)) rfl _ _ rfl hO2 rfl (by rw [World.size_alloc]; rfl) (by omega) (by omega) hb2.size ?_; intro v' w4 hO4 hb4))
        go_roundw
        case rel => exact ⟨k + 1, by omega, by omega, by go_num, by rw [et.out, List.map_append, List.map_singleton, ea.out]; exact hO4, hb2.trans hb4⟩
        case measure => simp [intOf]; omega
      · have t0 : (((N : Int) % 8) == (0 : Int)) = false := beq_eq_false_iff_ne.2 (by omega)
        have t1 : (((N : Int) % 8) == (1 : Int)) = false := beq_eq_false_iff_ne.2 (by omega)
        have t2 : (((N : Int) % 8) == (2 : Int)) = false := beq_eq_false_iff_ne.2 (by omega)
        have t3 : (((N : Int) % 8) == (3 : Int)) = false := beq_eq_false_iff_ne.2 (by omega)
        have t4 : (((N : Int) % 8) == (4 : Int)) = true := beq_iff_eq.2 (by omega)
        have t5 : (((N : Int) / 8 % 9) == (0 : Int)) = true := beq_iff_eq.2 (by omega)
        have ea : Hid (actOf (nth xs k) = (2, (N : Int) / 8 % 14)) := Lib.hid (by rw [eact]; simp only [Prod.mk.injEq]; refine ⟨?_, ?_⟩ <;> (repeat (first | rfl | (rw [if_pos (by omega)]) | (rw [if_neg (by omega)]))))
        clear eact hr
        have hbX := Below.lit wr (.cells #[.int .i64 (2), .int .i64 ((N : Int) / 8 % 14)] 51)
        have hO2 := hO.below hbX
        have hb2 := hb.trans (hbX.mono hb.size)
        go_wp2_with (first
          | (go_at_call 11; refine (Around_any (nth xs k) 100000 _ hx0 hx1 (by omega) (by omega)).mono ?_; rintro e w' ⟨rfl, rfl⟩; rw [eN.out])
          | (at_builtin; refine app_ac (y := 2) (z := (N : Int) / 8 % 14) rfl _ _ rfl hO2 rfl (by rw [World.size_alloc]; rfl) (by omega) (by omega) hb2.size ?_; intro v' w4 hO4 hb4))
        go_roundw
        case rel => exact ⟨k + 1, by omega, by omega, by go_num, by rw [et.out, List.map_append, List.map_singleton, ea.out]; exact hO4, hb2.trans hb4⟩
        case measure => simp [intOf]; omega
      · have t0 : (((N : Int) % 8) == (0 : Int)) = false := beq_eq_false_iff_ne.2 (by omega)
        have t1 : (((N : Int) % 8) == (1 : Int)) = false := beq_eq_false_iff_ne.2 (by omega)
        have t2 : (((N : Int) % 8) == (2 : Int)) = false := beq_eq_false_iff_ne.2 (by omega)
        have t3 : (((N : Int) % 8) == (3 : Int)) = false := beq_eq_false_iff_ne.2 (by omega)
        have t4 : (((N : Int) % 8) == (4 : Int)) = true := beq_iff_eq.2 (by omega)
        have t5 : (((N : Int) / 8 % 9) == (0 : Int)) = false := beq_eq_false_iff_ne.2 (by omega)
        have ea : Hid (actOf (nth xs k) = (0, (N : Int) / 8 % 14)) := Lib.hid (by rw [eact]; simp only [Prod.mk.injEq]; refine ⟨?_, ?_⟩ <;> (repeat (first | rfl | (rw [if_pos (by omega)]) | (rw [if_neg (by omega)]))))
        clear eact hr
        have hbX := Below.lit wr (.cells #[.int .i64 (0), .int .i64 ((N : Int) / 8 % 14)] 51)
        have hO2 := hO.below hbX
        have hb2 := hb.trans (hbX.mono hb.size)
        go_wp2_with (first
          | (go_at_call 11; refine (Around_any (nth xs k) 100000 _ hx0 hx1 (by omega) (by omega)).mono ?_; rintro e w' ⟨rfl, rfl⟩; rw [eN.out])
          | (at_builtin; refine app_ac (y := 0) (z := (N : Int) / 8 % 14) rfl _ _ rfl hO2 rfl (by rw [World.size_alloc]; rfl) (by omega) (by omega) hb2.size ?_; intro v' w4 hO4 hb4))
        go_roundw
        case rel => exact ⟨k + 1, by omega, by omega, by go_num, by rw [et.out, List.map_append, List.map_singleton, ea.out]; exact hO4, hb2.trans hb4⟩
        case measure => simp [intOf]; omega
      · have t0 : (((N : Int) % 8) == (0 : Int)) = false := beq_eq_false_iff_ne.2 (by omega)
        have t1 : (((N : Int) % 8) == (1 : Int)) = false := beq_eq_false_iff_ne.2 (by omega)
        have t2 : (((N : Int) % 8) == (2 : Int)) = false := beq_eq_false_iff_ne.2 (by omega)
        have t3 : (((N : Int) % 8) == (3 : Int)) = false := beq_eq_false_iff_ne.2 (by omega)
        have t4 : (((N : Int) % 8) == (4 : Int)) = false := beq_eq_false_iff_ne.2 (by omega)
        have ea : Hid (actOf (nth xs k) = (0, (N : Int) / 8 % 14)) := Lib.hid (by rw [eact]; simp only [Prod.mk.injEq]; refine ⟨?_, ?_⟩ <;> (repeat (first | rfl | (rw [if_pos (by omega)]) | (rw [if_neg (by omega)]))))
        clear eact hr
        have hbX := Below.lit wr (.cells #[.int .i64 (0), .int .i64 ((N : Int) / 8 % 14)] 51)
        have hO2 := hO.below hbX
        have hb2 := hb.trans (hbX.mono hb.size)
        go_wp2_with (first
          | (go_at_call 11; refine (Around_any (nth xs k) 100000 _ hx0 hx1 (by omega) (by omega)).mono ?_; rintro e w' ⟨rfl, rfl⟩; rw [eN.out])
          | (at_builtin; refine app_ac (y := 0) (z := (N : Int) / 8 % 14) rfl _ _ rfl hO2 rfl (by rw [World.size_alloc]; rfl) (by omega) (by omega) hb2.size ?_; intro v' w4 hO4 hb4))
        go_roundw
        case rel => exact ⟨k + 1, by omega, by omega, by go_num, by rw [et.out, List.map_append, List.map_singleton, ea.out]; exact hO4, hb2.trans hb4⟩
        case measure => simp [intOf]; omega
    · replace hlen := hlen.out
      have hfin : (xs.take k).map actOf = actsOf xs := by
        unfold actsOf
        by_cases h16 : k = 16
        · rw [h16]
        · rw [List.take_of_length_le (by omega), List.take_of_length_le (by omega)]
      replace hfin := Lib.hid hfin
      replace hlen := Lib.hid hlen
      obtain ⟨q, cq, rfl, _, hA, hF⟩ := hO.uf
      rw [hfin.out] at hA
      have h12 : ¬ k < n ∨ (k < n ∧ ¬ k < 16) := by omega
      clear hgo hO
      rcases h12 with h1 | ⟨h1, h2⟩
      · go_wp2_with fail
        go_ret
        exact ⟨_, _, _, rfl, hA, hk16, hF, hb⟩
      · go_wp2_with fail
        go_ret
        exact ⟨_, _, _, rfl, hA, hk16, hF, hb⟩
end Go.Proofs.Ytcnhgkgabddjmaa
