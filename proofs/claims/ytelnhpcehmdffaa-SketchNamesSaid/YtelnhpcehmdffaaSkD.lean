/-
  The contracts of sketches (1): points, values, sketches, equations.
-/
import Derived.Test.YtelnhpcehmdffaaSkC
import Derived.Test.YtelnhpcehmdffaaPolyN
import Derived.Laws.ResultCell
import Derived.Laws.Rows
import Derived.Handy
namespace Go.Proofs.Ytelnhpcehmdffaa
open Go.RowKit
attribute [local go_sem] T_V

theorem V_pt {k : Nat} (hk : k < 1000) : V (ptF k) = 2305843009213693950 - k := T_small _ (by omega) (by omega)
set_option maxRecDepth 100000 in
theorem point_any (k : Nat) (w : World) (hk : k < 1000) : Calls Try.prog 35 #[.int .i64 k] w fun e w' => e = .returned (.int .u64 (V (ptF k))) ∧ w = w' := by
  have hV := Lib.hid (V_pt hk)
  go_enter Try.func35, Try.ntmps35
  go_wp2
  go_ret
  exact ⟨ret_int hV.out.symm, rfl⟩
set_option maxRecDepth 100000 in
theorem rpoint_any (k : Nat) (w : World) (hk : k < 1000) : Calls Try.prog 38 #[.int .i64 k] w fun e w' => e = .returned (.int .u64 (V (ptF k))) ∧ w = w' := by
  have hV := Lib.hid (V_pt hk)
  go_enter Try.func38, Try.ntmps38
  go_wp2
  go_ret
  exact ⟨ret_int hV.out.symm, rfl⟩
/-- A set's value at a number. -/
def valF (L : List F) (z : F) : F := (Pol.prodL L).at' z
theorem valF_nil (z : F) : valF [] z = 1 := Pol.at_one z
theorem valF_snoc (L : List F) (x z : F) : valF (L ++ [x]) z = valF L z * (z - x) := by
  unfold valF; rw [prodL_snoc, Pol.at_mul, Pol.at_lin]
theorem take_snocT {xs : List Int} {i : Nat} (h : i < xs.length) : (xs.map T).take (i + 1) = (xs.map T).take i ++ [T (nth xs i)] := by
  rw [List.take_succ_eq_append_getElem (by simpa using h), List.getElem_map, nth_eq h]
/-- A sketch's values. -/
def valsL (L : List F) (n : Nat) : List F := (List.range n).map fun k => valF L (ptF k)
theorem valsL_snoc (L : List F) (k : Nat) : (valsL L (k + 1)).map V = (valsL L k).map V ++ [V (valF L (ptF k))] := range_snoc _ _

set_option maxRecDepth 100000 in
theorem Value_any (p : Option Addr) (n : Nat) (xs : List Int) (c : Nat) (z : F) (w : World) (hX : U w p n xs) (hn : n ≤ 1000000) :
    Calls Try.prog 37 #[.slice p n c, .int .u64 (V z)] w fun e w' => e = .returned (.int .u64 (V (valF (xs.map T) z))) ∧ Below w.heap.size w w' := by
  have hXl := Lib.hid hX.len
  go_enter Try.func37, Try.ntmps37
  go_wp2
  go_loopw [5, 6] (fun v iv wr => ∃ i : Nat, i ≤ n ∧ iv = .int .i64 i ∧ v = .int .u64 (V (valF ((xs.map T).take i) z)) ∧ Below w.heap.size w wr) (fun _ iv _ => n - (intOf iv).toNat)
  case atStart => exact ⟨0, Nat.zero_le _, rfl, by rw [List.take_zero, valF_nil]; rfl, Below.refl _ _⟩
  case round =>
    obtain ⟨i, hi, rfl, rfl, hb⟩ := hrel
    by_cases hlt : i < n
    · obtain ⟨b, off, rfl, hbb, hcell, hx0, hx1⟩ := (hX.below hb).look hlt
      have hst : Hid (valF ((xs.map T).take (i + 1)) z = valF ((xs.map T).take i) z * (z - T (nth xs i))) := Lib.hid (by rw [take_snocT (by rw [hXl.out]; exact hlt), valF_snoc])
      generalize valF ((xs.map T).take i) z = v at *
      go_wp2_with fail
      refine (rsub_any _ _ _ (V_lo _) (V_64 _) hx0 hx1).mono ?_
      rintro e w1 ⟨rfl, rfl⟩
      rw [T_V]
      go_wp2_with fail
      refine (rmul_b (Below.refl _ _) _ _ (V_lo _) (V_64 _) (V_lo _) (V_64 _)).mono ?_
      rintro e w2 ⟨rfl, hb2⟩
      rw [T_V, T_V, ← hst.out]
      go_wp2_with fail
      go_roundw
      case rel => exact ⟨i + 1, by omega, by go_num, rfl, hb.trans (hb2.mono hb.size)⟩
      case measure => simp [intOf]; omega
    · have hfin : Hid ((xs.map T).take i = xs.map T) := Lib.hid (List.take_of_length_le (by rw [List.length_map, hXl.out]; omega))
      rw [hfin.out]
      go_wp2
      go_ret
      exact ⟨rfl, hb⟩

set_option maxRecDepth 100000 in
theorem Values_any (p : Option Addr) (n : Nat) (xs : List Int) (c m : Nat) (w : World) (hX : U w p n xs) (hn : n ≤ 1000000) (hm : m < 1000) :
    Calls Try.prog 21 #[.slice p n c, .int .i64 m] w fun e w' => ∃ v, e = .returned v ∧ Own w' w.heap.size v m ((valsL (xs.map T) m).map V) ∧ Below w.heap.size w w' := by
  go_enter Try.func21, Try.ntmps21
  go_wp2
  go_loopw [5, 6] (fun v iv wr => ∃ k : Nat, k ≤ m ∧ iv = .int .i64 k ∧ Own wr w.heap.size v k ((valsL (xs.map T) k).map V) ∧ Below w.heap.size w wr) (fun _ iv _ => m - (intOf iv).toNat)
  case atStart => exact ⟨0, Nat.zero_le _, rfl, Own.nil _ _, Below.refl _ _⟩
  case round =>
    obtain ⟨k, hk, rfl, hown, hb⟩ := hrel
    by_cases hlt : k < m
    · have hst := Lib.hid (valsL_snoc (xs.map T) k)
      go_wp2_with fail
      refine (rpoint_any k _ (by omega)).mono ?_
      rintro e w1 ⟨rfl, rfl⟩
      go_wp2_with fail
      refine (Value_any p n xs c (ptF k) _ (hX.below hb) hn).mono ?_
      rintro e w2 ⟨rfl, hb2⟩
      have hown2 := hown.below hb2
      have hb02 := hb.trans (hb2.mono hb.size)
      have hsz := hb02.size
      clear hown
      go_wp2_with (at_builtin; refine app_one rfl _ _ rfl hown2 rfl rfl ⟨V_lo _, V_64 _⟩ (by omega) hsz ?_; intro v' w3 hown3 hb3)
      go_roundw
      case rel => exact ⟨k + 1, by omega, by go_num, by rw [hst.out]; exact hown3, hb02.trans hb3⟩
      case measure => simp [intOf]; omega
    · obtain rfl : k = m := by omega
      go_wp2
      go_ret
      exact ⟨_, rfl, hown, hb⟩

theorem Own.other {w : World} {base n : Nat} {v : Value} {xs : List Int} (h : Own w base v n xs) {b : Nat} (hb : b < base) (i : Nat) (u : Value) : Own (w.setCell ⟨b, i, none⟩ u) base v n xs :=
  h.far (row := some b) (grown_put ⟨rfl, rfl, rfl, Nat.le_refl _, fun _ _ _ => rfl⟩ i u) (by
    cases e : v.ownBlock with
    | none => exact .inl rfl
    | some g => exact .inr fun e' => by injection e' with e'; have := (h.lt e).1; omega)

set_option maxRecDepth 100000 in
set_option maxHeartbeats 1000000 in
theorem SkOf_any (p : Option Addr) (n : Nat) (xs : List Int) (c m : Nat) (w : World) (hX : U w p n xs) (hn : n ≤ 1000000) (hm : m < 1000) :
    Calls Try.prog 16 #[.slice p n c, .int .i64 m] w fun e w' => ∃ v, e = .returned (.agg #[.int .i64 n, v]) ∧ Own w' w.heap.size v m ((valsL (xs.map T) m).map V) ∧ Below w.heap.size w w' := by
  have hXl := Lib.hid hX.len
  have hs0 : (w.alloc (.cells #[.int .i64 0, .slice none 0 0] 30)).heap.size = w.heap.size + 1 := by simp
  have hA1 : Arr ((w.alloc (.cells #[.int .i64 0, .slice none 0 0] 30)).alloc (.cells #[.int .i64 n, .slice none 0 0] 30)) (w.heap.size + 1) 30 [.int .i64 n, .slice none 0 0] := by
    have := Arr.new (w.alloc (.cells #[.int .i64 0, .slice none 0 0] 30)) 30 [.int .i64 n, .slice none 0 0]
    rwa [hs0] at this
  have hA0 : Arr ((w.alloc (.cells #[.int .i64 0, .slice none 0 0] 30)).alloc (.cells #[.int .i64 n, .slice none 0 0] 30)) w.heap.size 30 [.int .i64 0, .slice none 0 0] :=
    (Arr.new w 30 [.int .i64 0, .slice none 0 0]).below ((Below.refl (w.heap.size + 1) _).alloc (by simp) _) (by omega)
  have hb0 : Below w.heap.size w ((w.alloc (.cells #[.int .i64 0, .slice none 0 0] 30)).alloc (.cells #[.int .i64 n, .slice none 0 0] 30)) := ((Below.refl _ _).alloc (Nat.le_refl _) _).alloc (by simp) _
  clear hs0
  go_enter Try.func16, Try.ntmps16
  go_wp2
  go_loopw [14] (fun kv wr => ∃ (k : Nat) (v : Value), k ≤ m ∧ kv = .int .i64 k ∧ Arr wr w.heap.size 30 [.int .i64 0, .slice none 0 0] ∧ Arr wr (w.heap.size + 1) 30 [.int .i64 n, v] ∧ Own wr (w.heap.size + 2) v k ((valsL (xs.map T) k).map V) ∧ Below w.heap.size w wr)
    (fun kv _ => m - (intOf kv).toNat)
  case atStart => exact ⟨0, _, Nat.zero_le _, rfl, hA0, hA1, Own.nil _ _, hb0⟩
  case round =>
    clear hA0 hA1 hb0
    obtain ⟨k, v, hk, rfl, hA0, hA1, hown, hb⟩ := hrel
    by_cases hlt : k < m
    · have hXr := hX.below hb
      go_wp2_with fail
      go_loop [7, 19] (fun vv iv => ∃ i : Nat, i ≤ n ∧ iv = .int .i64 i ∧ vv = .int .u64 (V (valF ((xs.map T).take i) (ptF k)))) (fun _ iv => n - (intOf iv).toNat)
      case atStart => exact ⟨0, Nat.zero_le _, rfl, by rw [List.take_zero, valF_nil]; rfl⟩
      case round =>
        obtain ⟨i, hi, rfl, rfl⟩ := hrel
        by_cases hlt2 : i < n
        · obtain ⟨b, off, rfl, hbb, hcell, hx0, hx1⟩ := hXr.look hlt2
          have hst : Hid (valF ((xs.map T).take (i + 1)) (ptF k) = valF ((xs.map T).take i) (ptF k) * (ptF k - T (nth xs i))) := Lib.hid (by rw [take_snocT (by rw [hXl.out]; exact hlt2), valF_snoc])
          generalize valF ((xs.map T).take i) (ptF k) = y at *
          go_wp2_with fail
          refine (point_any k _ (by omega)).mono ?_
          rintro e w1 ⟨rfl, rfl⟩
          go_wp2_with fail
          refine (sub_any _ _ _ (V_lo _) (V_64 _) hx0 hx1).mono ?_
          rintro e w1 ⟨rfl, rfl⟩
          rw [T_V]
          go_wp2_with fail
          refine (mul_any _ _ _ (V_lo _) (V_64 _) (V_lo _) (V_64 _)).mono ?_
          rintro e w1 ⟨rfl, rfl⟩
          rw [T_V, T_V, ← hst.out]
          go_wp2_with fail
          go_round
          case rel => exact ⟨i + 1, by omega, by go_num, rfl⟩
          case measure => simp [intOf]; omega
        · have hfin : Hid ((xs.map T).take i = xs.map T) := Lib.hid (List.take_of_length_le (by rw [List.length_map, hXl.out]; omega))
          rw [hfin.out]
          have hst := Lib.hid (valsL_snoc (xs.map T) k)
          have hc1 := hA1.cell (i := 1) (by simp)
          have hc1 : wr.cell? ⟨w.heap.size + 1, 1, none⟩ = some v := hc1
          have hlt1 := hA1.lt
          have hsz : w.heap.size + 2 ≤ wr.heap.size := by omega
          have hk9 : k ≤ 8796093022208 := by omega
          go_wp2_with (at_builtin; refine app_one rfl _ _ rfl hown rfl rfl ⟨V_lo _, V_64 _⟩ hk9 hsz ?_; intro v' w3 hown3 hb3; obtain ⟨pv, cv, rfl, _, _⟩ := hown3.u; have hA0' := hA0.below hb3 (show w.heap.size < w.heap.size + 2 by omega); have hA1' := hA1.below hb3 (show w.heap.size + 1 < w.heap.size + 2 by omega); have hc3 : w3.cell? ⟨w.heap.size + 1, 1, none⟩ = some v := hA1'.cell (i := 1) (by simp); have hf3 := hA1'.free 1)
          rw [← hst.out] at hown3
          obtain ⟨v', hv'⟩ : ∃ v', Hid (Value.slice pv (k + 1) cv = v') := ⟨_, Lib.hid rfl⟩
          rw [hv'.out] at hown3 ⊢
          have hA1s := hA1'.set 1 v'
          have hA0s := hA0'.other (b' := w.heap.size + 1) (by omega) 1 v'
          have hos := hown3.other (b := w.heap.size + 1) (by omega) 1 v'
          have hbs : Below w.heap.size w (w3.setCell ⟨w.heap.size + 1, 1, none⟩ v') := (hb.trans (hb3.mono (by omega))).setCell (show w.heap.size ≤ w.heap.size + 1 by omega) _
          clear hA0' hA1' hc3 hf3 hc1 hown3
          go_roundw
          case rel => exact ⟨k + 1, v', by omega, by go_num, hA0s, hA1s, hos, hbs⟩
          case measure => simp [intOf]; omega
    · obtain rfl : k = m := by omega
      obtain ⟨pv, cv, rfl, _, _⟩ := hown.u
      have c0 : wr.cell? ⟨w.heap.size, 0, none⟩ = some (.int .i64 0) := hA0.cell (i := 0) (by simp)
      have c1 : (wr.setCell ⟨w.heap.size, 0, none⟩ (.int .i64 n)).cell? ⟨w.heap.size, 1, none⟩ = some (.slice none 0 0) := (hA0.set 0 (.int .i64 n)).cell (i := 1) (by simp)
      have c2 : wr.cell? ⟨w.heap.size + 1, 0, none⟩ = some (.int .i64 n) := hA1.cell (i := 0) (by simp)
      have c3 : wr.cell? ⟨w.heap.size + 1, 1, none⟩ = some (.slice pv k cv) := hA1.cell (i := 1) (by simp)
      have f0 := hA0.free 0
      have f1 := (hA0.set 0 (.int .i64 n)).free 1
      have hR := ((hA0.set 0 (.int .i64 n)).set 1 (.slice pv k cv))
      have r0 : ((wr.setCell ⟨w.heap.size, 0, none⟩ (.int .i64 n)).setCell ⟨w.heap.size, 1, none⟩ (.slice pv k cv)).cell? ⟨w.heap.size, 0, none⟩ = some (.int .i64 n) := hR.cell (i := 0) (by simp)
      have r1 : ((wr.setCell ⟨w.heap.size, 0, none⟩ (.int .i64 n)).setCell ⟨w.heap.size, 1, none⟩ (.slice pv k cv)).cell? ⟨w.heap.size, 1, none⟩ = some (.slice pv k cv) := hR.cell (i := 1) (by simp)
      have hO2 := (hown.other (b := w.heap.size) (by omega) 0 (.int .i64 n)).other (b := w.heap.size) (by omega) 1 (.slice pv k cv)
      have hfin := hO2.base (base' := w.heap.size) (by omega)
      have hbf : Below w.heap.size w ((wr.setCell ⟨w.heap.size, 0, none⟩ (.int .i64 n)).setCell ⟨w.heap.size, 1, none⟩ (.slice pv k cv)) := (hb.setCell (Nat.le_refl _) _).setCell (Nat.le_refl _) _
      clear hR hO2
      go_wp2_with fail
      (try simp only [Exit.inBlock, Exit.then])
      exact bodyPost_ret (v := .agg #[.int .i64 n, .slice pv k cv]) (by simp [results, Try.results16, go_sem, r0, r1]) rfl ⟨_, rfl, hfin, hbf⟩
end Go.Proofs.Ytelnhpcehmdffaa
