/-
  The contracts of the references' polynomials (1): what is trimmed, a coefficient, a multiple, sums, products, values.
-/
import Derived.Test.YtokkjklggkoajaaPolyD
import Derived.Test.YtokkjklggkoajaaApp
namespace Go.Proofs.Ytokkjklggkoajaa
open Go.RowKit
attribute [local go_sem] T_V

theorem take_T {xs : List Int} {k : Nat} (h : k < xs.length) : ((xs.map T).take (k + 1)).map V = ((xs.map T).take k).map V ++ [V (T (nth xs k))] := by
  rw [List.take_succ_eq_append_getElem (by simpa using h), List.map_append, List.getElem_map, nth_eq h]; rfl

set_option maxRecDepth 100000 in
theorem rTrim_any (p : Option Addr) (n : Nat) (xs : List Int) (c : Nat) (w : World) (hU : U w p n xs) (hl : n ≤ 8796093022208) :
    Calls Try.prog 15 #[.slice p n c] w fun e w' => ∃ v, e = .returned v ∧ Fs w' v (trimF (xs.map T)) ∧ Below w.heap.size w w' := by
  have hX := Lib.hid hU.len
  go_enter Try.func15, Try.ntmps15
  go_wp2
  go_loopw [3, 4] (fun v i wr => ∃ k : Nat, k ≤ n ∧ i = .int .i64 k ∧ Own wr w.heap.size v k (((xs.map T).take k).map V) ∧ Below w.heap.size w wr)
    (fun _ i _ => n - (intOf i).toNat)
  case atStart => exact ⟨0, Nat.zero_le _, rfl, by rw [List.take_zero]; exact Own.nil _ _, Below.refl _ _⟩
  case round =>
    obtain ⟨k, hk, rfl, hown, hb⟩ := hrel
    by_cases hlt : k < n
    · obtain ⟨b, off, rfl, _, hcell, hx0, hx1⟩ := (hU.below hb).look hlt
      have hst := Lib.hid (take_T (xs := xs) (k := k) (by rw [hX.out]; exact hlt))
      go_wp2_with (first
        | (go_at_call 45; refine (rnum_any _ _ hx0 hx1).mono ?_; rintro e w' ⟨rfl, rfl⟩)
        | (at_builtin; refine app_one rfl _ _ rfl hown rfl rfl ⟨V_lo _, V_64 _⟩ (by omega) hb.size ?_; intro v' w1 hown1 hb1))
      go_roundw
      case rel => exact ⟨k + 1, by omega, by go_num, by rw [hst.out]; exact hown1, hb.trans hb1⟩
      case measure => simp [intOf]; omega
    · obtain rfl : k = n := by omega
      rw [List.take_of_length_le (by rw [List.length_map, hX.out]; exact Nat.le_refl _)] at hown
      obtain ⟨p', c', rfl, hc', hV⟩ := hown.u
      clear hown
      have hn := Lib.hid (Fs.len hV)
      generalize hfs : xs.map T = fs at *
      replace hfs := Lib.hid hfs
      go_wp2
      go_loop [3] (fun a => ∃ j : Nat, j ≤ k ∧ a = .slice p' j c' ∧ Hid (trimF (fs.take j) = trimF fs)) (fun a => match a with | .slice _ j _ => j | _ => 0)
      case atStart => exact ⟨k, Nat.le_refl _, rfl, Lib.hid (by rw [List.take_of_length_le (by rw [hn.out]; exact Nat.le_refl _)])⟩
      case round =>
        obtain ⟨j, hj, rfl, ht⟩ := hrel
        by_cases h0 : 0 < j
        · obtain ⟨b, off, rfl, _, hcell, _, _⟩ := hV.look (i := j - 1) (by omega)
          have hj' : j - 1 < fs.length := by rw [hn.out]; omega
          rw [nth_V hj'] at hcell
          by_cases hz : fs[j - 1] = 0
          · have hz' : (V (fs[j - 1]) == 0) = true := by rw [V_inj_zero, beq_iff_eq]; exact hz
            have ht' : Hid (trimF (fs.take (j - 1)) = trimF fs) := Lib.hid (by
              have := trimF_take fs (j - 1) hj' hz
              rw [show j - 1 + 1 = j by omega] at this
              rw [← this]; exact ht.out)
            clear hz ht
            go_wp2
            go_round
            case rel => exact ⟨j - 1, by omega, rfl, ht'⟩
            case measure => show j - 1 < j; omega
          · have hz' : (V (fs[j - 1]) == 0) = false := by rw [V_inj_zero, beq_eq_false_iff_ne]; exact hz
            have ht' : Hid (trimF fs = fs.take j) := Lib.hid (by
              have := trimF_take_ne fs (j - 1) hj' hz
              rw [show j - 1 + 1 = j by omega] at this
              rw [← this]; exact ht.out.symm)
            clear hz ht
            have hfin : Fs wr (.slice (some ⟨b, off, none⟩) j c') (trimF (xs.map T)) := by
              rw [hfs.out, ht'.out]
              exact ⟨_, j, c', rfl, by omega, by rw [List.map_take]; exact hV.take hj⟩
            go_wp2
            go_ret
            exact ⟨_, rfl, hfin, hb⟩
        · obtain rfl : j = 0 := by omega
          have ht' : Hid (trimF fs = []) := Lib.hid (by rw [← ht.out]; rfl)
          clear ht
          have hfin : Fs wr (.slice p' 0 c') (trimF (xs.map T)) := by
            rw [hfs.out, ht'.out]
            exact ⟨_, 0, c', rfl, Nat.zero_le _, U.nil⟩
          go_wp2
          go_ret
          exact ⟨_, rfl, hfin, hb⟩

theorem nth_out {xs : List Int} {i : Nat} (h : xs.length ≤ i) : nth xs i = 0 := by simp [nth, List.getElem?_eq_none h]
theorem coef_T' (xs : List Int) (i : Nat) : coef (xs.map T) i = T (nth xs i) := by
  by_cases h : i < xs.length
  · exact coef_T h
  · rw [coef_ge (by rw [List.length_map]; omega), nth_out (by omega)]; rfl
theorem U.all_bd {w : World} {p : Option Addr} {n : Nat} {xs : List Int} (h : U w p n xs) (i : Nat) : 0 ≤ nth xs i ∧ nth xs i < 18446744073709551616 := by
  by_cases hi : i < n
  · exact h.look_bd hi
  · rw [nth_out (by rw [h.len]; omega)]; omega

set_option maxRecDepth 100000 in
theorem rAt_any (p : Option Addr) (n : Nat) (xs : List Int) (c : Nat) (i : Int) (w : World) (hU : U w p n xs) (hi : 0 ≤ i) :
    Calls Try.prog 48 #[.slice p n c, .int .i64 i] w fun e w' => e = .returned (.int .u64 (nth xs i.toNat)) ∧ w = w' := by
  obtain ⟨k, rfl⟩ := Int.eq_ofNat_of_zero_le hi
  rw [Int.toNat_natCast]
  have hX := Lib.hid hU.len
  by_cases hlt : k < n
  · obtain ⟨b, off, rfl, _, hcell, _, _⟩ := hU.look hlt
    go_enter Try.func48, Try.ntmps48
    go_wp2
    go_ret
    exact ⟨rfl, rfl⟩
  · have h0 := Lib.hid (nth_out (xs := xs) (i := k) (by rw [hX.out]; omega))
    go_enter Try.func48, Try.ntmps48
    go_wp2
    go_ret
    exact ⟨ret_int h0.out.symm, rfl⟩

/-- One more of a list that is made place by place. -/
theorem range_snoc (f : Nat → F) (k : Nat) : ((List.range (k + 1)).map f).map V = ((List.range k).map f).map V ++ [V (f k)] := by
  rw [List.range_succ, List.map_append, List.map_append]; rfl

set_option maxRecDepth 100000 in
theorem rTrimF (p : Option Addr) (n : Nat) (fs : List F) (c : Nat) (w : World) (hU : U w p n (fs.map V)) (hl : n ≤ 8796093022208) :
    Calls Try.prog 15 #[.slice p n c] w fun e w' => ∃ v, e = .returned v ∧ Fs w' v (trimF fs) ∧ Below w.heap.size w w' := by
  have h := rTrim_any p n (fs.map V) c w hU hl
  rwa [map_TV] at h

set_option maxRecDepth 100000 in
theorem rAdd_any (p q : Option Addr) (n m : Nat) (xs ys : List Int) (c d : Nat) (w : World) (hX : U w p n xs) (hY : U w q m ys) (hn : n ≤ 4398046511104) (hm : m ≤ 4398046511104) :
    Calls Try.prog 17 #[.slice p n c, .slice q m d] w fun e w' => ∃ v, e = .returned v ∧ Fs w' v (trimF (addL (xs.map T) (ys.map T))) ∧ Below w.heap.size w w' := by
  have hXl := Lib.hid hX.len
  have hYl := Lib.hid hY.len
  go_enter Try.func17, Try.ntmps17
  go_wp2
  go_loopw [5, 6] (fun v i wr => ∃ k : Nat, k ≤ max n m ∧ i = .int .i64 k ∧ Own wr w.heap.size v k (((List.range k).map fun i => coef (xs.map T) i + coef (ys.map T) i).map V) ∧ Below w.heap.size w wr)
    (fun _ i _ => max n m - (intOf i).toNat)
  case atStart => exact ⟨0, Nat.zero_le _, rfl, Own.nil _ _, Below.refl _ _⟩
  case round =>
    obtain ⟨k, hk, rfl, hown, hb⟩ := hrel
    have hx := (hX.below hb).all_bd k
    have hy := (hY.below hb).all_bd k
    have hst := Lib.hid (range_snoc (fun i => coef (xs.map T) i + coef (ys.map T) i) k)
    rw [coef_T', coef_T'] at hst
    have hX1 := hX.below hb
    have hY1 := hY.below hb
    by_cases hlt : k < max n m
    · have hd : decide ((k : Int) < n) = true ∨ (decide ((k : Int) < n) = false ∧ (k : Int) < m) := by
        by_cases h : k < n
        · left; simp; omega
        · right; refine ⟨by simp; omega, by omega⟩
      rcases hd with hd | ⟨hd, hd2⟩
      all_goals
        go_wp2_with (first
          | (go_at_call 48; first
              | (with_reducible refine (rAt_any p n xs c _ _ hX1 (by omega)).mono ?_); (rintro e w' ⟨rfl, rfl⟩)
              | (with_reducible refine (rAt_any q m ys d _ _ hY1 (by omega)).mono ?_); (rintro e w' ⟨rfl, rfl⟩))
          | (go_at_call 47; refine (radd_any _ _ _ hx.1 hx.2 hy.1 hy.2).mono ?_; rintro e w' ⟨rfl, rfl⟩)
          | (at_builtin; refine app_one rfl _ _ rfl hown rfl rfl ⟨V_lo _, V_64 _⟩ (by omega) hb.size ?_; intro v' w1 hown1 hb1))
        all_goals
          go_roundw
          case rel => exact ⟨k + 1, by omega, by go_num, by rw [hst.out]; exact hown1, hb.trans hb1⟩
          case measure => simp [intOf]; omega
    · have hk' : k = max n m := by omega
      obtain ⟨p', c', rfl, hc', hV⟩ := hown.u
      have hfin : Hid ((List.range k).map (fun i => coef (xs.map T) i + coef (ys.map T) i) = addL (xs.map T) (ys.map T)) := Lib.hid (by
        rw [hk', ← addL_range, List.length_map, List.length_map, hXl.out, hYl.out])
      rw [hfin.out] at hV
      have h1 : ¬ (k : Int) < n := by omega
      have h2 : ¬ (k : Int) < m := by omega
      clear hown hst hk'
      go_wp2_with fail
      refine (rTrimF p' k _ c' _ hV (by omega)).mono ?_
      rintro e w1 ⟨v, rfl, hv, hb1⟩
      go_wp2_with fail
      go_ret
      exact ⟨v, rfl, hv, hb.trans (hb1.mono hb.size)⟩

set_option maxRecDepth 100000 in
theorem rScale_any (p : Option Addr) (n : Nat) (xs : List Int) (c : Nat) (y : Int) (w : World) (hX : U w p n xs) (hn : n ≤ 4398046511104) (hy0 : 0 ≤ y) (hy1 : y < 18446744073709551616) :
    Calls Try.prog 34 #[.slice p n c, .int .u64 y] w fun e w' => ∃ v, e = .returned v ∧ Fs w' v (trimF ((xs.map T).map (· * T y))) ∧ Below w.heap.size w w' := by
  have hXl := Lib.hid hX.len
  go_enter Try.func34, Try.ntmps34
  go_wp2
  go_loopw [5, 6] (fun v i wr => ∃ k : Nat, k ≤ n ∧ i = .int .i64 k ∧ Own wr w.heap.size v k (((List.range k).map fun i => coef (xs.map T) i * T y).map V) ∧ Below w.heap.size w wr)
    (fun _ i _ => n - (intOf i).toNat)
  case atStart => exact ⟨0, Nat.zero_le _, rfl, Own.nil _ _, Below.refl _ _⟩
  case round =>
    obtain ⟨k, hk, rfl, hown, hb⟩ := hrel
    have hst := Lib.hid (range_snoc (fun i => coef (xs.map T) i * T y) k)
    rw [coef_T'] at hst
    by_cases hlt : k < n
    · obtain ⟨b, off, rfl, _, hcell, hx0, hx1⟩ := (hX.below hb).look hlt
      go_wp2_with fail
      refine (rmul_b (Below.refl _ _) _ _ hx0 hx1 hy0 hy1).mono ?_
      rintro e w1 ⟨rfl, hb1⟩
      have hown1 := hown.below hb1
      have hb2 := hb.trans (hb1.mono hb.size)
      go_wp2_with (at_builtin; refine app_one rfl _ _ rfl hown1 rfl rfl ⟨V_lo _, V_64 _⟩ (by omega) hb2.size ?_; intro v' w2 hown2 hb3)
      go_roundw
      case rel => exact ⟨k + 1, by omega, by go_num, by rw [hst.out]; exact hown2, hb2.trans hb3⟩
      case measure => simp [intOf]; omega
    · have hk' : k = n := by omega
      obtain ⟨p', c', rfl, hc', hV⟩ := hown.u
      have hfin : Hid ((List.range k).map (fun i => coef (xs.map T) i * T y) = (xs.map T).map (· * T y)) := Lib.hid (by
        apply ext_coef
        · rw [List.length_map, List.length_map, List.length_map, List.length_range, hXl.out, hk']
        · intro i
          rw [coef_range]
          by_cases h : i < k
          · rw [if_pos h, coef_lt (p := (xs.map T).map _) (by rw [List.length_map, List.length_map, hXl.out]; omega), List.getElem_map, ← coef_lt]
          · rw [if_neg h, coef_ge (by rw [List.length_map, List.length_map, hXl.out]; omega)])
      rw [hfin.out] at hV
      clear hown hst hk'
      go_wp2_with fail
      refine (rTrimF p' k _ c' _ hV (by omega)).mono ?_
      rintro e w1 ⟨v, rfl, hv, hb1⟩
      go_wp2_with fail
      go_ret
      exact ⟨v, rfl, hv, hb.trans (hb1.mono hb.size)⟩

set_option maxRecDepth 100000 in
set_option maxHeartbeats 1000000 in
theorem rMul_any (p q : Option Addr) (n m : Nat) (xs ys : List Int) (c d : Nat) (w : World) (hX : U w p n xs) (hY : U w q m ys) (hn : n ≤ 2199023255552) (hm : m ≤ 2199023255552) :
    Calls Try.prog 19 #[.slice p n c, .slice q m d] w fun e w' => ∃ v, e = .returned v ∧ Fs w' v (trimF (mulL (xs.map T) (ys.map T))) ∧ Below w.heap.size w w' := by
  have hXl := Lib.hid hX.len
  have hYl := Lib.hid hY.len
  go_enter Try.func19, Try.ntmps19
  go_wp2
  go_loopw [5, 6] (fun v i wr => ∃ k : Nat, k ≤ n + m - 1 ∧ i = .int .i64 k ∧ Own wr w.heap.size v k (((List.range k).map fun i => coef (mulL (xs.map T) (ys.map T)) i).map V) ∧ Below w.heap.size w wr)
    (fun _ i _ => n + m - 1 - (intOf i).toNat)
  case atStart => exact ⟨0, Nat.zero_le _, rfl, Own.nil _ _, Below.refl _ _⟩
  case round =>
    obtain ⟨k, hk, rfl, hown, hb⟩ := hrel
    by_cases hlt : k + 1 < n + m
    · obtain ⟨wo, rfl⟩ : ∃ wo : World, wo = wr := ⟨_, rfl⟩
      have ht : decide ((k : Int) + 1 < (n : Int) + m) = true := by rw [decide_eq_true_eq]; omega
      go_wp2
      go_loopw [7, 8] (fun s j wr => ∃ i : Nat, i ≤ k + 1 ∧ j = .int .i64 i ∧ s = .int .u64 (V (sumF (fun i => coef (xs.map T) i * coef (ys.map T) (k - i)) i)) ∧ Below wo.heap.size wo wr)
        (fun _ j _ => k + 1 - (intOf j).toNat)
      case atStart => exact ⟨0, Nat.zero_le _, rfl, rfl, Below.refl _ _⟩
      case round =>
        obtain ⟨i, hi, rfl, rfl, hbi⟩ := hrel
        have hb1 := hb.trans (hbi.mono hb.size)
        by_cases hlt2 : i ≤ k
        · have hx := hX.all_bd i
          have hy := hY.all_bd (k - i)
          have hki : Hid (((k : Int) - i).toNat = k - i) := Lib.hid (by omega)
          have hst : Hid (sumF (fun i => coef (xs.map T) i * coef (ys.map T) (k - i)) (i + 1) = sumF (fun i => coef (xs.map T) i * coef (ys.map T) (k - i)) i + T (nth xs i) * T (nth ys (k - i))) := Lib.hid (by
            rw [sumF, coef_T', coef_T'])
          generalize sumF (fun i => coef (xs.map T) i * coef (ys.map T) (k - i)) i = s at *
          go_wp2_with fail
          refine (rAt_any p n xs c _ _ (hX.below hb1) (by omega)).mono ?_
          rintro e w1 ⟨rfl, rfl⟩
          rw [Int.toNat_natCast]
          go_wp2_with fail
          refine (rAt_any q m ys d _ _ (hY.below hb1) (by omega)).mono ?_
          rintro e w1 ⟨rfl, rfl⟩
          rw [hki.out]
          go_wp2_with fail
          refine (rmul_b (Below.refl _ _) _ _ hx.1 hx.2 hy.1 hy.2).mono ?_
          rintro e w1 ⟨rfl, hb2⟩
          go_wp2_with fail
          refine (radd_any _ _ _ (V_lo _) (V_64 _) (V_lo _) (V_64 _)).mono ?_
          rintro e w2 ⟨rfl, rfl⟩
          rw [T_V, T_V, ← hst.out]
          go_wp2
          go_roundw
          case rel => exact ⟨i + 1, by omega, by go_num, rfl, hbi.trans (hb2.mono hbi.size)⟩
          case measure => simp [intOf]; omega
        · have hi' : i = k + 1 := by omega
          have hst := Lib.hid (range_snoc (fun i => coef (mulL (xs.map T) (ys.map T)) i) k)
          rw [coef_mulL_sum] at hst
          rw [hi']
          generalize sumF (fun i => coef (xs.map T) i * coef (ys.map T) (k - i)) (k + 1) = s at *
          have hown1 := hown.below hbi
          clear hi'
          go_wp2_with (at_builtin; refine app_one rfl _ _ rfl hown1 rfl rfl ⟨V_lo _, V_64 _⟩ (by omega) hb1.size ?_; intro v' w2 hown2 hb3)
          go_roundw
          case rel => exact ⟨k + 1, by omega, by go_num, by rw [hst.out]; exact hown2, hb1.trans hb3⟩
          case measure => simp [intOf]; omega
    · have hk' : k = n + m - 1 := by omega
      obtain ⟨p', c', rfl, hc', hV⟩ := hown.u
      have hfin : Hid (trimF ((List.range k).map (fun i => coef (mulL (xs.map T) (ys.map T)) i)) = trimF (mulL (xs.map T) (ys.map T))) := Lib.hid (by
        rw [← mulL_range, List.length_map, List.length_map, hXl.out, hYl.out, hk'])
      clear hown hk'
      go_wp2_with fail
      refine (rTrimF p' k _ c' _ hV (by omega)).mono ?_
      rintro e w1 ⟨v, rfl, hv, hb1⟩
      rw [hfin.out] at hv
      go_wp2_with fail
      go_ret
      exact ⟨v, rfl, hv, hb.trans (hb1.mono hb.size)⟩
end Go.Proofs.Ytokkjklggkoajaa
