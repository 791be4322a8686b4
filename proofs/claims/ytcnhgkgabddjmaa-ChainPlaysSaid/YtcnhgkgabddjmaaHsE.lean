/-
  Sums (5): the sum of a label and some numbers, as the document says.
-/
import Derived.Test.YtcnhgkgabddjmaaHsD
namespace Go.Proofs.Ytcnhgkgabddjmaa
open Go.RowKit
attribute [local go_sem] T_V

theorem hOf_any (lab : ByteArray) (p : Option Addr) (n c : Nat) (xs : List Int) (w : World) (hl0 : 0 < lab.size) (hl7 : lab.size ≤ 7) (hX : U w p n xs) (hn : n ≤ 1000000) :
    Calls Try.prog 49 #[.string lab, .slice p n c] w fun e w' => e = .returned (.int .u64 (V (hashF (bytesI lab) xs))) ∧ Below w.heap.size w w' :=
  callsIn_wide.1 (hOf_in lab p n c xs w hl0 hl7 hX hn)
set_option maxRecDepth 100000 in
set_option maxHeartbeats 2000000 in
theorem rWords_any (g n c : Nat) (bs : List Int) (w : World) (hB : B8 w (some ⟨g, 0, none⟩) n bs) (hn0 : 0 < n) (hn7 : n ≤ 7) :
    Calls Try.prog 83 #[.slice (some ⟨g, 0, none⟩) n c] w fun e w' => ∃ v, e = .returned v ∧ Own w' w.heap.size v 1 [wordI bs] ∧ Below w.heap.size w w' := by
  have hl := Lib.hid hB.len
  have hwb := word_bd hB.bd
  have hw7 : (256 : Int) ^ bs.length ≤ 72057594037927936 := by
    rw [hB.len]
    rcases (by omega : n = 1 ∨ n = 2 ∨ n = 3 ∨ n = 4 ∨ n = 5 ∨ n = 6 ∨ n = 7) with h | h | h | h | h | h | h <;> rw [h] <;> decide
  have hw64 : 0 ≤ wordI bs ∧ wordI bs < 18446744073709551616 := ⟨hwb.1, by omega⟩
  clear hwb hw7
  have hmin : min (n : Int) 7 = n := by omega
  go_enter Try.func83, Try.ntmps83
  go_wp2_with fail
  go_loopw [3, 4] (fun ov iv wr => (iv = .int .i64 0 ∧ ov = .slice none 0 0 ∧ wr = w) ∨ (iv = .int .i64 7 ∧ Own wr w.heap.size ov 1 [wordI bs] ∧ Below w.heap.size w wr)) (fun _ iv _ => 7 - (intOf iv).toNat)
  case atStart => exact .inl ⟨rfl, rfl, rfl⟩
  case round =>
    rcases hrel with ⟨rfl, rfl, rfl⟩ | ⟨rfl, hO, hb⟩
    · have hlt : decide ((0 : Int) < (n : Int)) = true := by rw [decide_eq_true_eq]; omega
      have hz0 : (0 : Int) ≤ (n : Int) - 1 := by omega
      go_wp2_with fail
      go_loop [5, 6] (fun wv kv => ∃ k : Nat, k ≤ n ∧ kv = .int .i64 ((k : Int) - 1) ∧ wv = .int .u64 (wordI (bs.drop k))) (fun _ kv => (intOf kv + 1).toNat)
      case atStart => exact ⟨n, Nat.le_refl _, rfl, by rw [List.drop_of_length_le (by rw [hl.out]; omega)]; rfl⟩
      case round =>
        obtain ⟨k, hk, rfl, rfl⟩ := hrel
        by_cases hk0 : k = 0
        · subst hk0
          have hd : decide ((0 : Int) ≤ ((0 : Nat) : Int) - 1) = false := by decide
          rw [List.drop_zero]
          have hbz := Below.refl wr.heap.size wr
          go_wp2_with (at_builtin; refine app_one rfl _ _ rfl (Own.nil _ wr.heap.size) rfl rfl hw64 (by omega) (Nat.le_refl _) ?_; intro v' w3 hown3 hb3)
          rw [List.nil_append] at hown3
          go_roundw
          case rel => exact .inr ⟨rfl, hown3, hb3⟩
          case measure => simp [intOf]
        · obtain ⟨j, rfl⟩ : ∃ j, k = j + 1 := ⟨k - 1, by omega⟩
          obtain ⟨hc, hx0, hx1⟩ := hB.cell (i := j) (by omega)
          have ej : ((j + 1 : Nat) : Int) - 1 = (j : Int) := by omega
          have hd : decide ((0 : Int) ≤ (j : Int)) = true := by rw [decide_eq_true_eq]; omega
          have hst := word_drop (bs := bs) (i := j) (by rw [hl.out]; omega)
          have hub := word_bd (bs := bs.drop (j + 1)) fun x hx => hB.bd x (List.mem_of_mem_drop hx)
          have hu7 : (256 : Int) ^ (bs.drop (j + 1)).length ≤ 281474976710656 := by
            rw [List.length_drop, hl.out]
            rcases (by omega : n - (j + 1) = 0 ∨ n - (j + 1) = 1 ∨ n - (j + 1) = 2 ∨ n - (j + 1) = 3 ∨ n - (j + 1) = 4 ∨ n - (j + 1) = 5 ∨ n - (j + 1) = 6) with h | h | h | h | h | h | h <;> rw [h] <;> decide
          generalize wordI (bs.drop (j + 1)) = u at *
          generalize nth bs j = x at *
          have hu : 0 ≤ u ∧ u < 281474976710656 := ⟨hub.1, by omega⟩
          replace hst := Lib.hid hst
          have it0 : (0 : Int) ≤ (j : Int) := by omega
          have it1 : (j : Int) < (n : Int) := by omega
          clear hub hu7
          rw [ej]
          go_wp2_with fail
          go_round
          case rel => exact ⟨j, by omega, rfl, by rw [hst.out]; congr 1; omega⟩
          case measure => simp [intOf]
    · have hd : decide ((7 : Int) < (n : Int)) = false := by rw [decide_eq_false_iff_not]; omega
      go_wp2_with fail
      go_ret
      exact ⟨_, rfl, hO, hb⟩
theorem keep1h {wl W : World} {b o : Nat} {v : Value} (h : Below wl.heap.size wl W) (h1 : wl.cell? ⟨b, o, none⟩ = some v) : W.cell? ⟨b, o, none⟩ = some v ∧ Below wl.heap.size wl W :=
  ⟨(World.cell?_of_block (h.block b (cell_lt h1))).trans h1, h⟩
theorem hwords_len (bs xs : List Int) : (hwords bs xs).length = xs.length + 3 := by
  unfold hwords; simp
theorem hwords_take (bs xs : List Int) {n : Nat} (h : xs.length = n) : [wordI bs, (n : Int)] ++ (xs.map fun x => V (T x)).take n ++ [0] = hwords bs xs := by
  unfold hwords; rw [List.take_of_length_le (by rw [List.length_map, h]; exact Nat.le_refl _), h]
set_option maxRecDepth 100000 in
set_option maxHeartbeats 4000000 in
theorem rhOf_any (lab : ByteArray) (p : Option Addr) (n c : Nat) (xs : List Int) (w : World) (hl0 : 0 < lab.size) (hl7 : lab.size ≤ 7) (hX : U w p n xs) (hn : n ≤ 1000000) :
    Calls Try.prog 66 #[.string lab, .slice p n c] w fun e w' => e = .returned (.int .u64 (V (hashF (bytesI lab) xs))) ∧ Below w.heap.size w w' := by
  have hconv : ∀ W, (convert 9 37 (.string lab)).run Try.prog W = .ok (.slice (some ⟨W.heap.size, 0, none⟩) lab.size (grownCap W lab.size 0 5)) (Lib.bytesWorld W 5 lab) := fun W =>
    Lib.run_convert_string_bytes W 9 37 5 lab Try.underlying9 Try.underlying37 Try.underlying5
  have hXl := Lib.hid hX.len
  have hwb := word_bd (bytesI_bd lab)
  have hw7 : (256 : Int) ^ (bytesI lab).length ≤ 72057594037927936 := by
    rw [bytesI_len]
    rcases (by omega : lab.size = 1 ∨ lab.size = 2 ∨ lab.size = 3 ∨ lab.size = 4 ∨ lab.size = 5 ∨ lab.size = 6 ∨ lab.size = 7) with h | h | h | h | h | h | h <;> rw [h] <;> decide
  have hw64 : 0 ≤ wordI (bytesI lab) ∧ wordI (bytesI lab) < 18446744073709551616 := ⟨hwb.1, by omega⟩
  clear hwb hw7
  go_enter Try.func66, Try.ntmps66
  go_wp2_with fail
  refine (rWords_any w.heap.size lab.size _ (bytesI lab) _ (bytesI_new w lab) hl0 hl7).mono ?_
  rintro e w1 ⟨v1, rfl, hO1, hb1⟩
  have hb01 := (bytesI_below w lab).trans (hb1.mono (bytesI_below w lab).size)
  replace hO1 := hO1.base (bytesI_below w lab).size
  have hz1 := hb01.size
  have hn64 : (0 : Int) ≤ (n : Int) ∧ (n : Int) < 18446744073709551616 := by omega
  clear hconv hb1
  generalize grownCap w lab.size 0 5 = cap at *
  go_wp2_with (at_builtin; refine app_one (y := (n : Int)) rfl _ _ rfl hO1 rfl rfl hn64 (by omega) hz1 ?_; intro v2 w2 hO2 hb2)
  have hb02 := hb01.trans hb2
  clear hO1 hb01 hb2 hz1
  go_loopw [5, 6] (fun ov iv wr => ∃ i : Nat, i ≤ n ∧ iv = .int .i64 i ∧ Own wr w.heap.size ov (2 + i) ([wordI (bytesI lab), (n : Int)] ++ (xs.map fun x => V (T x)).take i) ∧ Below w.heap.size w wr) (fun _ iv _ => n - (intOf iv).toNat)
  case atStart => exact ⟨0, Nat.zero_le _, rfl, by rw [List.take_zero]; exact hO2, hb02⟩
  case round =>
    clear hO2 hb02
    obtain ⟨i, hi, rfl, hO, hb⟩ := hrel
    have hz := hb.size
    by_cases hlt : i < n
    · obtain ⟨b, off, rfl, _, hcell, hx0, hx1⟩ := (hX.below hb).look hlt
      have hst : Hid ([wordI (bytesI lab), (n : Int)] ++ (xs.map fun x => V (T x)).take (i + 1) = [wordI (bytesI lab), (n : Int)] ++ (xs.map fun x => V (T x)).take i ++ [nth xs i % 2305843009213693951]) := Lib.hid (by
        have hil : i < xs.length := by rw [hXl.out]; exact hlt
        rw [List.take_succ_eq_append_getElem (by simpa using hil), ← List.append_assoc, List.getElem_map, nth_eq hil, V_T])
      have hy : 0 ≤ nth xs i % 2305843009213693951 ∧ nth xs i % 2305843009213693951 < 18446744073709551616 := by omega
      go_wp2_with (at_builtin; refine app_one (y := nth xs i % 2305843009213693951) rfl _ _ rfl hO rfl rfl hy (by omega) hz ?_; intro v3 w3 hO3 hb3)
      go_roundw
      case rel => exact ⟨i + 1, by omega, by go_num, by rw [hst.out]; exact hO3, hb.trans hb3⟩
      case measure => simp [intOf]; omega
    · obtain rfl : i = n := by omega
      go_wp2_with (at_builtin; refine app_one (y := 0) rfl _ _ rfl hO rfl rfl (by omega) (by omega) hz ?_; intro v3 w3 hO3 hb3)
      rw [hwords_take _ _ hXl.out] at hO3
      have hb03 := hb.trans hb3
      obtain ⟨p3, c3, rfl, hc3, hU3⟩ := hO3.u
      obtain ⟨m, hm⟩ : ∃ m, 2 + i + 1 = m := ⟨_, rfl⟩
      rw [hm] at hU3 ⊢
      have hml : Hid ((hwords (bytesI lab) xs).length = m) := Lib.hid (by rw [hwords_len, hXl.out]; omega)
      have hm1 : m ≤ 1000003 := by omega
      clear hO hO3 hb hb3 hz hm
      obtain ⟨hw, ehw⟩ : ∃ hw, Hid (hwords (bytesI lab) xs = hw) := ⟨_, Lib.hid rfl⟩
      rw [ehw.out] at hU3 hml
      have h0s : Hid ((lab.size : Int) = V (hrun (T (bytesI lab).length) 0 (hw.take 0))) := Lib.hid (by rw [List.take_zero, bytesI_len]; exact (T_small _ (by omega) (by omega)).symm)
      obtain ⟨w4, e4⟩ : ∃ w4, Hid (w3 = w4) := ⟨_, Lib.hid rfl⟩
      rw [e4.out] at hU3 hb03 ⊢
      clear e4
      go_wp2_with fail
      go_loopw [7, 8] (fun sv iv wr => ∃ k : Nat, k ≤ m ∧ iv = .int .i64 k ∧ sv = .int .u64 (V (hrun (T (bytesI lab).length) 0 (hw.take k))) ∧ Below w4.heap.size w4 wr) (fun _ iv _ => m - (intOf iv).toNat)
      case atStart => exact ⟨0, Nat.zero_le _, rfl, by rw [h0s.out], Below.refl _ _⟩
      case round =>
        clear h0s
        obtain ⟨k, hk, rfl, rfl, hbr⟩ := hrel
        by_cases hlk : k < m
        · obtain ⟨b, off, rfl, _, hcell, hx0, hx1⟩ := (hU3.below hbr).look hlk
          have hst : Hid (hrun (T (bytesI lab).length) 0 (hw.take (k + 1)) = fpow (T 37 * hrun (T (bytesI lab).length) 0 (hw.take k) + (T (nth hw k) + T ((k : Int) + 1))) 17) := Lib.hid (by
            have hkl : k < hw.length := by rw [hml.out]; exact hlk
            rw [List.take_succ_eq_append_getElem hkl, hrun_snoc, List.length_take, Nat.min_eq_left (by omega), Nat.zero_add, nth_eq hkl]
            unfold stepF
            rw [T_add])
          generalize hrun (T (bytesI lab).length) 0 (hw.take k) = s at *
          generalize nth hw k = x at *
          have hbd : Below wr.heap.size wr wr.drew := (Below.refl _ _).drew
          have it0 : (0 : Int) ≤ (k : Int) := by omega
          have it1 : (k : Int) < (m : Int) := by omega
          have hr1 : IntKind.i64.wrap ((k : Int) + 1) = (k : Int) + 1 := IntWalk.i64_in _ (by omega)
          have hr2 : IntKind.u64.wrap ((k : Int) + 1) = (k : Int) + 1 := IntWalk.u64_in _ (by omega)
          go_wp2_with fail
          go_region_held3 (fun W => W.cell? ⟨b, off + k, none⟩ = some (.int .u64 x) ∧ Below wr.heap.size wr W) (exact keep1h (by assumption) hcell) (first
            | (go_simp; go_at_call 85; (with_reducible refine (rmul_b (by assumption) _ _ (by omega) (by omega) (V_lo _) (V_64 _)).mono ?_); rintro e w9 ⟨rfl, hb9⟩)
            | (go_simp; go_at_call 84; (with_reducible refine (radd_any _ _ _ (V_lo _) (V_64 _) (V_lo _) (V_64 _)).mono ?_); rintro e w9 ⟨rfl, rfl⟩)
            | (go_simp; go_at_call 84; (try rw [hr1]); (try rw [hr2]); (with_reducible refine (radd_any _ _ _ hx0 hx1 (by omega) (by omega)).mono ?_); rintro e w9 ⟨rfl, rfl⟩)
            | fail)
          go_wp2_with fail
          refine (rpow_b (by assumption) _ _ (V_lo _) (V_64 _) (by omega) (by omega)).mono ?_
          rintro e w10 ⟨rfl, hb10⟩
          rw [T_V, ← hst.out]
          go_wp2_with fail
          go_roundw
          case rel => exact ⟨k + 1, by omega, by go_num, rfl, hbr.trans (hb10.mono hbr.size)⟩
          case measure => simp [intOf]; omega
        · obtain rfl : k = m := by omega
          have hfin : Hid (hrun (T (bytesI lab).length) 0 (hw.take k) = hashF (bytesI lab) xs) := Lib.hid (by
            rw [List.take_of_length_le (by rw [hml.out]; exact Nat.le_refl _), ← ehw.out]; rfl)
          rw [hfin.out]
          go_wp2_with fail
          go_ret
          exact ⟨rfl, hb03.trans (hbr.mono hb03.size)⟩
end Go.Proofs.Ytcnhgkgabddjmaa
