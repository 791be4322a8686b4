/-
  The walks of the seven statements on the field: each returns true, and nothing that was there has turned.
-/
import Derived.Test.YtkjokledkpmhbaaFieldC
namespace Go.Proofs.Ytkjokledkpmhbaa
open Go.RowKit
attribute [local go_sem] T_V

theorem eqV {x y : F} (h : x = y) : (V x == V y) = true := by rw [h]; exact beq_self_eq_true _
theorem neV {x y : F} (h : x = y) : (V x != V y) = false := by rw [h]; exact bne_self_eq_false _
theorem eqV_no {x y : F} (h : x ≠ y) : (V x == V y) = false := beq_eq_false_iff_ne.2 fun e => h (V_inj e)
theorem eqC {x : F} {n : Int} (h : V x = n) : (V x == n) = true := beq_iff_eq.2 h
theorem neC {x : F} {n : Int} (h : V x = n) : (V x != n) = false := by rw [h]; exact bne_self_eq_false _
theorem eqC_no {x : F} {n : Int} (h : V x ≠ n) : (V x == n) = false := beq_eq_false_iff_ne.2 h
theorem neC_yes {x : F} {n : Int} (h : V x ≠ n) : (V x != n) = true := bne_iff_ne.2 h

set_option maxRecDepth 100000 in
theorem tells_walk (a b : Int) (ha0 : 0 ≤ a) (ha1 : a < 18446744073709551616) (hb0 : 0 ≤ b) (hb1 : b < 18446744073709551616) (w : World) :
    Calls Try.prog 9 #[.int .u64 a, .int .u64 b] w fun e w' => e = .returned (.bool true) ∧ Below w.heap.size w w' := by
  have hb := Below.refl w.heap.size w
  have h1 : (V (-T a) == V (T 0 - T a)) = true := eqV (by rw [T_zero, zero_sub'])
  go_enter Try.func9, Try.ntmps9
  go_wp2_with (first | (go_at_call 20; refine (ok_any _ _).mono ?_; rintro e w' ⟨rfl, rfl⟩) | (go_at_call 14; refine (num_any _ _ (by first | omega | exact V_lo _) (by first | omega | exact V_64 _)).mono ?_; rintro e w' ⟨rfl, rfl⟩) | (go_at_call 17; refine (add_any _ _ _ (by first | omega | exact V_lo _) (by first | omega | exact V_64 _) (by first | omega | exact V_lo _) (by first | omega | exact V_64 _)).mono ?_; rintro e w' ⟨rfl, rfl⟩) | (go_at_call 18; refine (sub_any _ _ _ (by first | omega | exact V_lo _) (by first | omega | exact V_64 _) (by first | omega | exact V_lo _) (by first | omega | exact V_64 _)).mono ?_; rintro e w' ⟨rfl, rfl⟩) | (go_at_call 16; refine (neg_any _ _ (by first | omega | exact V_lo _) (by first | omega | exact V_64 _)).mono ?_; rintro e w' ⟨rfl, rfl⟩) | (go_at_call 15; refine (mul_any _ _ _ (by first | omega | exact V_lo _) (by first | omega | exact V_64 _) (by first | omega | exact V_lo _) (by first | omega | exact V_64 _)).mono ?_; rintro e w' ⟨rfl, rfl⟩) | (go_at_call 10; refine (pow_b hb _ _ (by first | omega | exact V_lo _) (by first | omega | exact V_64 _) (by omega) (by omega)).mono ?_; clear hb; rintro e w' ⟨rfl, hb⟩) | (go_at_call 19; refine (inv_b hb _ (by first | omega | exact V_lo _) (by first | omega | exact V_64 _)).mono ?_; clear hb; rintro e w' ⟨rfl, hb⟩) | (go_at_call 13; refine (lives_b hb).mono ?_; clear hb; rintro e w' ⟨rfl, hb⟩) | (go_at_call 21; refine (rnum_any _ _ (by first | omega | exact V_lo _) (by first | omega | exact V_64 _)).mono ?_; rintro e w' ⟨rfl, rfl⟩) | (go_at_call 22; refine (radd_any _ _ _ (by first | omega | exact V_lo _) (by first | omega | exact V_64 _) (by first | omega | exact V_lo _) (by first | omega | exact V_64 _)).mono ?_; rintro e w' ⟨rfl, rfl⟩) | (go_at_call 23; refine (rsub_any _ _ _ (by first | omega | exact V_lo _) (by first | omega | exact V_64 _) (by first | omega | exact V_lo _) (by first | omega | exact V_64 _)).mono ?_; rintro e w' ⟨rfl, rfl⟩) | (go_at_call 11; refine (rmul_b hb _ _ (by first | omega | exact V_lo _) (by first | omega | exact V_64 _) (by first | omega | exact V_lo _) (by first | omega | exact V_64 _)).mono ?_; clear hb; rintro e w' ⟨rfl, hb⟩) | (go_at_call 12; refine (rpow_b hb _ _ (by first | omega | exact V_lo _) (by first | omega | exact V_64 _) (by omega) (by omega)).mono ?_; clear hb; rintro e w' ⟨rfl, hb⟩) | (go_at_call 24; refine (rinv_b hb _ (by first | omega | exact V_lo _) (by first | omega | exact V_64 _)).mono ?_; clear hb; rintro e w' ⟨rfl, hb⟩))
  go_ret
  exact ⟨rfl, hb⟩

set_option maxRecDepth 100000 in
theorem ring_walk (a b c : Int) (ha0 : 0 ≤ a) (ha1 : a < 18446744073709551616) (hb0 : 0 ≤ b) (hb1 : b < 18446744073709551616) (hc0 : 0 ≤ c) (hc1 : c < 18446744073709551616) (w : World) :
    Calls Try.prog 7 #[.int .u64 a, .int .u64 b, .int .u64 c] w fun e w' => e = .returned (.bool true) ∧ Below w.heap.size w w' := by
  have hb := Below.refl w.heap.size w
  have h1 : (V (T a + T b) != V (T b + T a)) = false := neV (by grind)
  have h2 : (V (T a * T b) != V (T b * T a)) = false := neV (by grind)
  have h3 : (V (T a + T b + T c) != V (T a + (T b + T c))) = false := neV (by grind)
  have h4 : (V (T a * T b * T c) != V (T a * (T b * T c))) = false := neV (by grind)
  have h5 : (V (T a * (T b + T c)) == V (T a * T b + T a * T c)) = true := eqV (by grind)
  have h6 : (V (T a + T 0) == V (T a)) = true := eqV (by rw [T_zero]; grind)
  have h7 : (V (T a * T 1) == V (T a)) = true := eqV (by rw [T_one]; grind)
  go_enter Try.func7, Try.ntmps7
  go_wp2_with (first | (go_at_call 14; refine (num_any _ _ (by first | omega | exact V_lo _) (by first | omega | exact V_64 _)).mono ?_; rintro e w' ⟨rfl, rfl⟩) | (go_at_call 17; refine (add_any _ _ _ (by first | omega | exact V_lo _) (by first | omega | exact V_64 _) (by first | omega | exact V_lo _) (by first | omega | exact V_64 _)).mono ?_; rintro e w' ⟨rfl, rfl⟩) | (go_at_call 18; refine (sub_any _ _ _ (by first | omega | exact V_lo _) (by first | omega | exact V_64 _) (by first | omega | exact V_lo _) (by first | omega | exact V_64 _)).mono ?_; rintro e w' ⟨rfl, rfl⟩) | (go_at_call 16; refine (neg_any _ _ (by first | omega | exact V_lo _) (by first | omega | exact V_64 _)).mono ?_; rintro e w' ⟨rfl, rfl⟩) | (go_at_call 15; refine (mul_any _ _ _ (by first | omega | exact V_lo _) (by first | omega | exact V_64 _) (by first | omega | exact V_lo _) (by first | omega | exact V_64 _)).mono ?_; rintro e w' ⟨rfl, rfl⟩) | (go_at_call 10; refine (pow_b hb _ _ (by first | omega | exact V_lo _) (by first | omega | exact V_64 _) (by omega) (by omega)).mono ?_; clear hb; rintro e w' ⟨rfl, hb⟩) | (go_at_call 19; refine (inv_b hb _ (by first | omega | exact V_lo _) (by first | omega | exact V_64 _)).mono ?_; clear hb; rintro e w' ⟨rfl, hb⟩) | (go_at_call 13; refine (lives_b hb).mono ?_; clear hb; rintro e w' ⟨rfl, hb⟩))
  go_ret
  exact ⟨rfl, hb⟩

set_option maxRecDepth 100000 in
theorem back_walk (a b : Int) (ha0 : 0 ≤ a) (ha1 : a < 18446744073709551616) (hb0 : 0 ≤ b) (hb1 : b < 18446744073709551616) (w : World) :
    Calls Try.prog 8 #[.int .u64 a, .int .u64 b] w fun e w' => e = .returned (.bool true) ∧ Below w.heap.size w w' := by
  have hb := Below.refl w.heap.size w
  have h1 : (V (T a + T b - T b) != V (T a)) = false := neV (by grind)
  have h2 : (V (T a + -T a) != 0) = false := neC (by rw [V_eq_zero]; grind)
  by_cases hz : T a = 0
  · have h3 : (V (T a) == 0) = true := eqC ((V_eq_zero _).2 hz)
    have h4 : (V (inv (T a)) == 0) = true := eqC (by rw [hz, inv_zero]; rfl)
    have h5 : (V (T a * T b) == 0) = true := eqC ((V_eq_zero _).2 (by rw [hz]; grind))
    clear hz
    go_enter Try.func8, Try.ntmps8
    go_wp2_with (first | (go_at_call 14; refine (num_any _ _ (by first | omega | exact V_lo _) (by first | omega | exact V_64 _)).mono ?_; rintro e w' ⟨rfl, rfl⟩) | (go_at_call 17; refine (add_any _ _ _ (by first | omega | exact V_lo _) (by first | omega | exact V_64 _) (by first | omega | exact V_lo _) (by first | omega | exact V_64 _)).mono ?_; rintro e w' ⟨rfl, rfl⟩) | (go_at_call 18; refine (sub_any _ _ _ (by first | omega | exact V_lo _) (by first | omega | exact V_64 _) (by first | omega | exact V_lo _) (by first | omega | exact V_64 _)).mono ?_; rintro e w' ⟨rfl, rfl⟩) | (go_at_call 16; refine (neg_any _ _ (by first | omega | exact V_lo _) (by first | omega | exact V_64 _)).mono ?_; rintro e w' ⟨rfl, rfl⟩) | (go_at_call 15; refine (mul_any _ _ _ (by first | omega | exact V_lo _) (by first | omega | exact V_64 _) (by first | omega | exact V_lo _) (by first | omega | exact V_64 _)).mono ?_; rintro e w' ⟨rfl, rfl⟩) | (go_at_call 10; refine (pow_b hb _ _ (by first | omega | exact V_lo _) (by first | omega | exact V_64 _) (by omega) (by omega)).mono ?_; clear hb; rintro e w' ⟨rfl, hb⟩) | (go_at_call 19; refine (inv_b hb _ (by first | omega | exact V_lo _) (by first | omega | exact V_64 _)).mono ?_; clear hb; rintro e w' ⟨rfl, hb⟩) | (go_at_call 13; refine (lives_b hb).mono ?_; clear hb; rintro e w' ⟨rfl, hb⟩))
    go_ret
    exact ⟨rfl, hb⟩
  · have h3 : (V (T a) == 0) = false := eqC_no (by rw [Ne, V_eq_zero]; exact hz)
    have h4 : (V (T a * inv (T a)) == 1) = true := eqC (by rw [mul_inv _ hz]; rfl)
    have h5 : (V (T a * T b * inv (T a)) == V (T b)) = true := eqV (by have := mul_inv _ hz; grind)
    have h6 : (V (inv (inv (T a))) == V (T a)) = true := eqV (inv_inv _)
    by_cases hz2 : T b = 0
    · have h7 : (V (T b) == 0) = true := eqC ((V_eq_zero _).2 hz2)
      have h8 : (V (T a * T b) == 0) = true := eqC ((V_eq_zero _).2 (by rw [hz2]; grind))
      clear hz hz2
      go_enter Try.func8, Try.ntmps8
      go_wp2_with (first | (go_at_call 14; refine (num_any _ _ (by first | omega | exact V_lo _) (by first | omega | exact V_64 _)).mono ?_; rintro e w' ⟨rfl, rfl⟩) | (go_at_call 17; refine (add_any _ _ _ (by first | omega | exact V_lo _) (by first | omega | exact V_64 _) (by first | omega | exact V_lo _) (by first | omega | exact V_64 _)).mono ?_; rintro e w' ⟨rfl, rfl⟩) | (go_at_call 18; refine (sub_any _ _ _ (by first | omega | exact V_lo _) (by first | omega | exact V_64 _) (by first | omega | exact V_lo _) (by first | omega | exact V_64 _)).mono ?_; rintro e w' ⟨rfl, rfl⟩) | (go_at_call 16; refine (neg_any _ _ (by first | omega | exact V_lo _) (by first | omega | exact V_64 _)).mono ?_; rintro e w' ⟨rfl, rfl⟩) | (go_at_call 15; refine (mul_any _ _ _ (by first | omega | exact V_lo _) (by first | omega | exact V_64 _) (by first | omega | exact V_lo _) (by first | omega | exact V_64 _)).mono ?_; rintro e w' ⟨rfl, rfl⟩) | (go_at_call 10; refine (pow_b hb _ _ (by first | omega | exact V_lo _) (by first | omega | exact V_64 _) (by omega) (by omega)).mono ?_; clear hb; rintro e w' ⟨rfl, hb⟩) | (go_at_call 19; refine (inv_b hb _ (by first | omega | exact V_lo _) (by first | omega | exact V_64 _)).mono ?_; clear hb; rintro e w' ⟨rfl, hb⟩) | (go_at_call 13; refine (lives_b hb).mono ?_; clear hb; rintro e w' ⟨rfl, hb⟩))
      go_ret
      exact ⟨rfl, hb⟩
    · have h7 : (V (T b) == 0) = false := eqC_no (by rw [Ne, V_eq_zero]; exact hz2)
      have h8 : (V (T a * T b) == 0) = false := eqC_no (by rw [Ne, V_eq_zero]; exact mul_ne _ _ hz hz2)
      clear hz hz2
      go_enter Try.func8, Try.ntmps8
      go_wp2_with (first | (go_at_call 14; refine (num_any _ _ (by first | omega | exact V_lo _) (by first | omega | exact V_64 _)).mono ?_; rintro e w' ⟨rfl, rfl⟩) | (go_at_call 17; refine (add_any _ _ _ (by first | omega | exact V_lo _) (by first | omega | exact V_64 _) (by first | omega | exact V_lo _) (by first | omega | exact V_64 _)).mono ?_; rintro e w' ⟨rfl, rfl⟩) | (go_at_call 18; refine (sub_any _ _ _ (by first | omega | exact V_lo _) (by first | omega | exact V_64 _) (by first | omega | exact V_lo _) (by first | omega | exact V_64 _)).mono ?_; rintro e w' ⟨rfl, rfl⟩) | (go_at_call 16; refine (neg_any _ _ (by first | omega | exact V_lo _) (by first | omega | exact V_64 _)).mono ?_; rintro e w' ⟨rfl, rfl⟩) | (go_at_call 15; refine (mul_any _ _ _ (by first | omega | exact V_lo _) (by first | omega | exact V_64 _) (by first | omega | exact V_lo _) (by first | omega | exact V_64 _)).mono ?_; rintro e w' ⟨rfl, rfl⟩) | (go_at_call 10; refine (pow_b hb _ _ (by first | omega | exact V_lo _) (by first | omega | exact V_64 _) (by omega) (by omega)).mono ?_; clear hb; rintro e w' ⟨rfl, hb⟩) | (go_at_call 19; refine (inv_b hb _ (by first | omega | exact V_lo _) (by first | omega | exact V_64 _)).mono ?_; clear hb; rintro e w' ⟨rfl, hb⟩) | (go_at_call 13; refine (lives_b hb).mono ?_; clear hb; rintro e w' ⟨rfl, hb⟩))
      go_ret
      exact ⟨rfl, hb⟩

theorem fpow_P (x : F) : fpow x 2305843009213693951 = x := by
  show x ^ 2305843009213693951 = x
  rw [show 2305843009213693951 = M + 1 from rfl, pow_add', pow_one']
  by_cases h : x = 0
  · rw [h]; grind
  · rw [fermat x h]; grind
theorem fpow_M (x : F) (h : x ≠ 0) : fpow x 2305843009213693950 = 1 := fermat x h
theorem fpow_M0 : fpow 0 2305843009213693950 = 0 := zero_pow' _ (by decide)

set_option maxRecDepth 100000 in
theorem fermat_walk (a : Int) (ha0 : 0 ≤ a) (ha1 : a < 18446744073709551616) (w : World) :
    Calls Try.prog 4 #[.int .u64 a] w fun e w' => e = .returned (.bool true) ∧ Below w.heap.size w w' := by
  have hb := Below.refl w.heap.size w
  have h1 : (V (fpow (T a) 2305843009213693951) == V (T a)) = true := eqV (fpow_P _)
  by_cases hz : T a = 0
  · have h3 : (V (T a) == 0) = true := eqC ((V_eq_zero _).2 hz)
    have h4 : (V (fpow (T a) 2305843009213693950) == 0) = true := eqC (by rw [hz, fpow_M0]; rfl)
    clear hz
    go_enter Try.func4, Try.ntmps4
    go_wp2_with (first | (go_at_call 14; refine (num_any _ _ (by first | omega | exact V_lo _) (by first | omega | exact V_64 _)).mono ?_; rintro e w' ⟨rfl, rfl⟩) | (go_at_call 17; refine (add_any _ _ _ (by first | omega | exact V_lo _) (by first | omega | exact V_64 _) (by first | omega | exact V_lo _) (by first | omega | exact V_64 _)).mono ?_; rintro e w' ⟨rfl, rfl⟩) | (go_at_call 18; refine (sub_any _ _ _ (by first | omega | exact V_lo _) (by first | omega | exact V_64 _) (by first | omega | exact V_lo _) (by first | omega | exact V_64 _)).mono ?_; rintro e w' ⟨rfl, rfl⟩) | (go_at_call 16; refine (neg_any _ _ (by first | omega | exact V_lo _) (by first | omega | exact V_64 _)).mono ?_; rintro e w' ⟨rfl, rfl⟩) | (go_at_call 15; refine (mul_any _ _ _ (by first | omega | exact V_lo _) (by first | omega | exact V_64 _) (by first | omega | exact V_lo _) (by first | omega | exact V_64 _)).mono ?_; rintro e w' ⟨rfl, rfl⟩) | (go_at_call 10; refine (pow_b hb _ _ (by first | omega | exact V_lo _) (by first | omega | exact V_64 _) (by omega) (by omega)).mono ?_; clear hb; rintro e w' ⟨rfl, hb⟩) | (go_at_call 19; refine (inv_b hb _ (by first | omega | exact V_lo _) (by first | omega | exact V_64 _)).mono ?_; clear hb; rintro e w' ⟨rfl, hb⟩) | (go_at_call 13; refine (lives_b hb).mono ?_; clear hb; rintro e w' ⟨rfl, hb⟩))
    go_ret
    exact ⟨rfl, hb⟩
  · have h3 : (V (T a) == 0) = false := eqC_no (by rw [Ne, V_eq_zero]; exact hz)
    have h4 : (V (fpow (T a) 2305843009213693950) == 1) = true := eqC (by rw [fpow_M _ hz]; rfl)
    clear hz
    go_enter Try.func4, Try.ntmps4
    go_wp2_with (first | (go_at_call 14; refine (num_any _ _ (by first | omega | exact V_lo _) (by first | omega | exact V_64 _)).mono ?_; rintro e w' ⟨rfl, rfl⟩) | (go_at_call 17; refine (add_any _ _ _ (by first | omega | exact V_lo _) (by first | omega | exact V_64 _) (by first | omega | exact V_lo _) (by first | omega | exact V_64 _)).mono ?_; rintro e w' ⟨rfl, rfl⟩) | (go_at_call 18; refine (sub_any _ _ _ (by first | omega | exact V_lo _) (by first | omega | exact V_64 _) (by first | omega | exact V_lo _) (by first | omega | exact V_64 _)).mono ?_; rintro e w' ⟨rfl, rfl⟩) | (go_at_call 16; refine (neg_any _ _ (by first | omega | exact V_lo _) (by first | omega | exact V_64 _)).mono ?_; rintro e w' ⟨rfl, rfl⟩) | (go_at_call 15; refine (mul_any _ _ _ (by first | omega | exact V_lo _) (by first | omega | exact V_64 _) (by first | omega | exact V_lo _) (by first | omega | exact V_64 _)).mono ?_; rintro e w' ⟨rfl, rfl⟩) | (go_at_call 10; refine (pow_b hb _ _ (by first | omega | exact V_lo _) (by first | omega | exact V_64 _) (by omega) (by omega)).mono ?_; clear hb; rintro e w' ⟨rfl, hb⟩) | (go_at_call 19; refine (inv_b hb _ (by first | omega | exact V_lo _) (by first | omega | exact V_64 _)).mono ?_; clear hb; rintro e w' ⟨rfl, hb⟩) | (go_at_call 13; refine (lives_b hb).mono ?_; clear hb; rintro e w' ⟨rfl, hb⟩))
    go_ret
    exact ⟨rfl, hb⟩

theorem fpow_add (x : F) (m n : Int) (hm : 0 ≤ m) (hn : 0 ≤ n) : fpow x m * fpow x n = fpow x (m + n) := by
  unfold fpow; rw [← pow_add', Int.toNat_add hm hn]
theorem fpow_mul (x : F) (m n : Int) (hm : 0 ≤ m) (hn : 0 ≤ n) : fpow (fpow x m) n = fpow x (m * n) := by
  unfold fpow; rw [← pow_mul', Int.toNat_mul hm hn]
theorem fpow_prod (x y : F) (n : Int) : fpow (x * y) n = fpow x n * fpow y n := mul_pow' _ _ _
theorem fpow_mod (x : F) (h : x ≠ 0) (n : Int) (hn : 0 ≤ n) : fpow x n = fpow x (n % 2305843009213693950) := by
  unfold fpow
  have e : n.toNat = M * (n.toNat / M) + n.toNat % M := (Nat.div_add_mod _ _).symm
  have e2 : (n % 2305843009213693950).toNat = n.toNat % M := by
    show (n % 2305843009213693950).toNat = n.toNat % 2305843009213693950
    omega
  rw [e2]
  conv => lhs; rw [e, pow_add', pow_mul', fermat x h, one_pow']
  grind

set_option maxRecDepth 100000 in
theorem adds_walk (a b m n : Int) (ha0 : 0 ≤ a) (ha1 : a < 18446744073709551616) (hb0 : 0 ≤ b) (hb1 : b < 18446744073709551616) (hm0 : 0 ≤ m) (hm1 : m < 18446744073709551616) (hn0 : 0 ≤ n) (hn1 : n < 18446744073709551616) (w : World) :
    Calls Try.prog 5 #[.int .u64 a, .int .u64 b, .int .u64 m, .int .u64 n] w fun e w' => e = .returned (.bool true) ∧ Below w.heap.size w w' := by
  have hb := Below.refl w.heap.size w
  have pb := prod_bd (m % 4294967296) (n % 4294967296) 4294967295 (by omega) (by omega) (by omega) (by omega)
  have h1 : (V (fpow (T a) (m % 4294967296) * fpow (T a) (n % 4294967296)) != V (fpow (T a) (m % 4294967296 + n % 4294967296))) = false := neV (fpow_add _ _ _ (by omega) (by omega))
  have h2 : (V (fpow (fpow (T a) (m % 4294967296)) (n % 4294967296)) != V (fpow (T a) (m % 4294967296 * (n % 4294967296)))) = false := neV (fpow_mul _ _ _ (by omega) (by omega))
  have h3 : (V (fpow (T a * T b) n) != V (fpow (T a) n * fpow (T b) n)) = false := neV (fpow_prod _ _ _)
  by_cases hz : T a = 0
  · have h4 : (V (T a) == 0) = true := eqC ((V_eq_zero _).2 hz)
    clear hz
    go_enter Try.func5, Try.ntmps5
    go_wp2_with (first | (go_at_call 14; refine (num_any _ _ (by first | omega | exact V_lo _) (by first | omega | exact V_64 _)).mono ?_; rintro e w' ⟨rfl, rfl⟩) | (go_at_call 17; refine (add_any _ _ _ (by first | omega | exact V_lo _) (by first | omega | exact V_64 _) (by first | omega | exact V_lo _) (by first | omega | exact V_64 _)).mono ?_; rintro e w' ⟨rfl, rfl⟩) | (go_at_call 18; refine (sub_any _ _ _ (by first | omega | exact V_lo _) (by first | omega | exact V_64 _) (by first | omega | exact V_lo _) (by first | omega | exact V_64 _)).mono ?_; rintro e w' ⟨rfl, rfl⟩) | (go_at_call 16; refine (neg_any _ _ (by first | omega | exact V_lo _) (by first | omega | exact V_64 _)).mono ?_; rintro e w' ⟨rfl, rfl⟩) | (go_at_call 15; refine (mul_any _ _ _ (by first | omega | exact V_lo _) (by first | omega | exact V_64 _) (by first | omega | exact V_lo _) (by first | omega | exact V_64 _)).mono ?_; rintro e w' ⟨rfl, rfl⟩) | (go_at_call 10; refine (pow_b hb _ _ (by first | omega | exact V_lo _) (by first | omega | exact V_64 _) (by omega) (by omega)).mono ?_; clear hb; rintro e w' ⟨rfl, hb⟩) | (go_at_call 19; refine (inv_b hb _ (by first | omega | exact V_lo _) (by first | omega | exact V_64 _)).mono ?_; clear hb; rintro e w' ⟨rfl, hb⟩) | (go_at_call 13; refine (lives_b hb).mono ?_; clear hb; rintro e w' ⟨rfl, hb⟩))
    go_ret
    exact ⟨rfl, hb⟩
  · have h4 : (V (T a) == 0) = false := eqC_no (by rw [Ne, V_eq_zero]; exact hz)
    have h5 : (V (fpow (T a) n) == V (fpow (T a) (n % 2305843009213693950))) = true := eqV (fpow_mod _ hz _ hn0)
    clear hz
    go_enter Try.func5, Try.ntmps5
    go_wp2_with (first | (go_at_call 14; refine (num_any _ _ (by first | omega | exact V_lo _) (by first | omega | exact V_64 _)).mono ?_; rintro e w' ⟨rfl, rfl⟩) | (go_at_call 17; refine (add_any _ _ _ (by first | omega | exact V_lo _) (by first | omega | exact V_64 _) (by first | omega | exact V_lo _) (by first | omega | exact V_64 _)).mono ?_; rintro e w' ⟨rfl, rfl⟩) | (go_at_call 18; refine (sub_any _ _ _ (by first | omega | exact V_lo _) (by first | omega | exact V_64 _) (by first | omega | exact V_lo _) (by first | omega | exact V_64 _)).mono ?_; rintro e w' ⟨rfl, rfl⟩) | (go_at_call 16; refine (neg_any _ _ (by first | omega | exact V_lo _) (by first | omega | exact V_64 _)).mono ?_; rintro e w' ⟨rfl, rfl⟩) | (go_at_call 15; refine (mul_any _ _ _ (by first | omega | exact V_lo _) (by first | omega | exact V_64 _) (by first | omega | exact V_lo _) (by first | omega | exact V_64 _)).mono ?_; rintro e w' ⟨rfl, rfl⟩) | (go_at_call 10; refine (pow_b hb _ _ (by first | omega | exact V_lo _) (by first | omega | exact V_64 _) (by omega) (by omega)).mono ?_; clear hb; rintro e w' ⟨rfl, hb⟩) | (go_at_call 19; refine (inv_b hb _ (by first | omega | exact V_lo _) (by first | omega | exact V_64 _)).mono ?_; clear hb; rintro e w' ⟨rfl, hb⟩) | (go_at_call 13; refine (lives_b hb).mono ?_; clear hb; rintro e w' ⟨rfl, hb⟩))
    go_ret
    exact ⟨rfl, hb⟩

/-! ### Squares -/
def hlf : Int := 1152921504606846975
theorem fpow_one (x : F) : fpow x 1 = x := pow_one' x
theorem half_two (x : F) (h : x ≠ 0) : fpow x 1152921504606846975 = 1 ∨ fpow x 1152921504606846975 = -1 := by
  have e : fpow x 1152921504606846975 * fpow x 1152921504606846975 = 1 := by rw [fpow_add _ _ _ (by omega) (by omega)]; exact fpow_M x h
  have e2 : (fpow x 1152921504606846975 - 1) * (fpow x 1152921504606846975 + 1) = 0 := by grind
  rcases (mul_eq_zero' _ _).1 e2 with h | h
  · left; grind
  · right; grind
theorem root_square (x : F) : fpow x 576460752303423488 * fpow x 576460752303423488 = x * fpow x 1152921504606846975 := by
  rw [fpow_add _ _ _ (by omega) (by omega), show (576460752303423488 + 576460752303423488 : Int) = 1 + 1152921504606846975 by omega, ← fpow_add _ _ _ (by omega) (by omega), fpow_one]
theorem mul_neg_one' (x : F) : x * -1 = -x := by grind
theorem mul_one' (x : F) : x * 1 = x := by grind
theorem twice_zero (x : F) (h : -x = x) : x * 2 = 0 := by grind
theorem V_neg_one : V (-1) = 2305843009213693950 := by decide +kernel
theorem one_ne_neg : (1 : F) ≠ -1 := by decide +kernel
theorem half_0 : fpow 0 1152921504606846975 = 0 := zero_pow' _ (by decide)

set_option maxRecDepth 100000 in
theorem squares_zero (a b : Int) (ha0 : 0 ≤ a) (ha1 : a < 18446744073709551616) (hb0 : 0 ≤ b) (hb1 : b < 18446744073709551616) (w : World) (hz : T a = 0 ∨ T b = 0) :
    Calls Try.prog 6 #[.int .u64 a, .int .u64 b] w fun e w' => e = .returned (.bool true) ∧ Below w.heap.size w w' := by
  have hb := Below.refl w.heap.size w
  have h1 : (V (fpow (T 0) 1152921504606846975) == 0) = true := eqC (by rw [T_zero, half_0]; rfl)
  by_cases hza : T a = 0
  · have h4 : (V (T a) == 0) = true := eqC ((V_eq_zero _).2 hza)
    clear hz hza
    go_enter Try.func6, Try.ntmps6
    go_wp2_with (first | (go_at_call 14; refine (num_any _ _ (by first | omega | exact V_lo _) (by first | omega | exact V_64 _)).mono ?_; rintro e w' ⟨rfl, rfl⟩) | (go_at_call 17; refine (add_any _ _ _ (by first | omega | exact V_lo _) (by first | omega | exact V_64 _) (by first | omega | exact V_lo _) (by first | omega | exact V_64 _)).mono ?_; rintro e w' ⟨rfl, rfl⟩) | (go_at_call 18; refine (sub_any _ _ _ (by first | omega | exact V_lo _) (by first | omega | exact V_64 _) (by first | omega | exact V_lo _) (by first | omega | exact V_64 _)).mono ?_; rintro e w' ⟨rfl, rfl⟩) | (go_at_call 16; refine (neg_any _ _ (by first | omega | exact V_lo _) (by first | omega | exact V_64 _)).mono ?_; rintro e w' ⟨rfl, rfl⟩) | (go_at_call 15; refine (mul_any _ _ _ (by first | omega | exact V_lo _) (by first | omega | exact V_64 _) (by first | omega | exact V_lo _) (by first | omega | exact V_64 _)).mono ?_; rintro e w' ⟨rfl, rfl⟩) | (go_at_call 10; refine (pow_b hb _ _ (by first | omega | exact V_lo _) (by first | omega | exact V_64 _) (by omega) (by omega)).mono ?_; clear hb; rintro e w' ⟨rfl, hb⟩) | (go_at_call 19; refine (inv_b hb _ (by first | omega | exact V_lo _) (by first | omega | exact V_64 _)).mono ?_; clear hb; rintro e w' ⟨rfl, hb⟩) | (go_at_call 13; refine (lives_b hb).mono ?_; clear hb; rintro e w' ⟨rfl, hb⟩))
    go_ret
    exact ⟨rfl, hb⟩
  · have h4 : (V (T a) == 0) = false := eqC_no (by rw [Ne, V_eq_zero]; exact hza)
    have hzb : T b = 0 := hz.resolve_left hza
    have h5 : (V (T b) == 0) = true := eqC ((V_eq_zero _).2 hzb)
    clear hz hza hzb
    go_enter Try.func6, Try.ntmps6
    go_wp2_with (first | (go_at_call 14; refine (num_any _ _ (by first | omega | exact V_lo _) (by first | omega | exact V_64 _)).mono ?_; rintro e w' ⟨rfl, rfl⟩) | (go_at_call 17; refine (add_any _ _ _ (by first | omega | exact V_lo _) (by first | omega | exact V_64 _) (by first | omega | exact V_lo _) (by first | omega | exact V_64 _)).mono ?_; rintro e w' ⟨rfl, rfl⟩) | (go_at_call 18; refine (sub_any _ _ _ (by first | omega | exact V_lo _) (by first | omega | exact V_64 _) (by first | omega | exact V_lo _) (by first | omega | exact V_64 _)).mono ?_; rintro e w' ⟨rfl, rfl⟩) | (go_at_call 16; refine (neg_any _ _ (by first | omega | exact V_lo _) (by first | omega | exact V_64 _)).mono ?_; rintro e w' ⟨rfl, rfl⟩) | (go_at_call 15; refine (mul_any _ _ _ (by first | omega | exact V_lo _) (by first | omega | exact V_64 _) (by first | omega | exact V_lo _) (by first | omega | exact V_64 _)).mono ?_; rintro e w' ⟨rfl, rfl⟩) | (go_at_call 10; refine (pow_b hb _ _ (by first | omega | exact V_lo _) (by first | omega | exact V_64 _) (by omega) (by omega)).mono ?_; clear hb; rintro e w' ⟨rfl, hb⟩) | (go_at_call 19; refine (inv_b hb _ (by first | omega | exact V_lo _) (by first | omega | exact V_64 _)).mono ?_; clear hb; rintro e w' ⟨rfl, hb⟩) | (go_at_call 13; refine (lives_b hb).mono ?_; clear hb; rintro e w' ⟨rfl, hb⟩))
    go_ret
    exact ⟨rfl, hb⟩

set_option maxRecDepth 100000 in
theorem squares_walk (a b : Int) (ha0 : 0 ≤ a) (ha1 : a < 18446744073709551616) (hb0 : 0 ≤ b) (hb1 : b < 18446744073709551616) (w : World) :
    Calls Try.prog 6 #[.int .u64 a, .int .u64 b] w fun e w' => e = .returned (.bool true) ∧ Below w.heap.size w w' := by
  by_cases hz : T a = 0 ∨ T b = 0
  · exact squares_zero a b ha0 ha1 hb0 hb1 w hz
  have hb := Below.refl w.heap.size w
  have hza : T a ≠ 0 := fun h => hz (.inl h)
  have hzb : T b ≠ 0 := fun h => hz (.inr h)
  have h1 : (V (T a) == 0) = false := eqC_no (by rw [Ne, V_eq_zero]; exact hza)
  have h2 : (V (T b) == 0) = false := eqC_no (by rw [Ne, V_eq_zero]; exact hzb)
  have h3 : (V (fpow (T a * T a) 1152921504606846975) == 1) = true := eqC (by
    rw [fpow_prod, fpow_add _ _ _ (by omega) (by omega)]
    show V (fpow (T a) 2305843009213693950) = 1
    rw [fpow_M _ hza]; rfl)
  have h4 : (V (fpow (T a * T b) 1152921504606846975) == V (fpow (T a) 1152921504606846975 * fpow (T b) 1152921504606846975)) = true := eqV (fpow_prod _ _ _)
  have hr := root_square (T a)
  have hy := half_two (T b) hzb
  rcases half_two (T a) hza with hx | hx
  · have h5 : (V (fpow (T a) 1152921504606846975) == 1) = true := eqC (by rw [hx]; rfl)
    have h6 : (V (fpow (T a) 1152921504606846975) != 1) = false := neC (by rw [hx]; rfl)
    have h7 : (V (fpow (T a) 576460752303423488 * fpow (T a) 576460752303423488) == V (T a)) = true := eqV (by rw [hr, hx, mul_one'])
    clear hr hx hz hza hzb
    rcases hy with hy | hy
    · have h8 : (V (fpow (T b) 1152921504606846975) != 1) = false := neC (by rw [hy]; rfl)
      clear hy
      go_enter Try.func6, Try.ntmps6
      go_wp2_with (first | (go_at_call 14; refine (num_any _ _ (by first | omega | exact V_lo _) (by first | omega | exact V_64 _)).mono ?_; rintro e w' ⟨rfl, rfl⟩) | (go_at_call 17; refine (add_any _ _ _ (by first | omega | exact V_lo _) (by first | omega | exact V_64 _) (by first | omega | exact V_lo _) (by first | omega | exact V_64 _)).mono ?_; rintro e w' ⟨rfl, rfl⟩) | (go_at_call 18; refine (sub_any _ _ _ (by first | omega | exact V_lo _) (by first | omega | exact V_64 _) (by first | omega | exact V_lo _) (by first | omega | exact V_64 _)).mono ?_; rintro e w' ⟨rfl, rfl⟩) | (go_at_call 16; refine (neg_any _ _ (by first | omega | exact V_lo _) (by first | omega | exact V_64 _)).mono ?_; rintro e w' ⟨rfl, rfl⟩) | (go_at_call 15; refine (mul_any _ _ _ (by first | omega | exact V_lo _) (by first | omega | exact V_64 _) (by first | omega | exact V_lo _) (by first | omega | exact V_64 _)).mono ?_; rintro e w' ⟨rfl, rfl⟩) | (go_at_call 10; refine (pow_b hb _ _ (by first | omega | exact V_lo _) (by first | omega | exact V_64 _) (by omega) (by omega)).mono ?_; clear hb; rintro e w' ⟨rfl, hb⟩) | (go_at_call 19; refine (inv_b hb _ (by first | omega | exact V_lo _) (by first | omega | exact V_64 _)).mono ?_; clear hb; rintro e w' ⟨rfl, hb⟩) | (go_at_call 13; refine (lives_b hb).mono ?_; clear hb; rintro e w' ⟨rfl, hb⟩))
      go_ret
      exact ⟨rfl, hb⟩
    · have h8 : (V (fpow (T b) 1152921504606846975) != 1) = true := neC_yes (by rw [hy, V_neg_one]; decide)
      have h9 : (V (fpow (T b) 1152921504606846975) != 2305843009213693950) = false := neC (by rw [hy, V_neg_one])
      clear hy
      go_enter Try.func6, Try.ntmps6
      go_wp2_with (first | (go_at_call 14; refine (num_any _ _ (by first | omega | exact V_lo _) (by first | omega | exact V_64 _)).mono ?_; rintro e w' ⟨rfl, rfl⟩) | (go_at_call 17; refine (add_any _ _ _ (by first | omega | exact V_lo _) (by first | omega | exact V_64 _) (by first | omega | exact V_lo _) (by first | omega | exact V_64 _)).mono ?_; rintro e w' ⟨rfl, rfl⟩) | (go_at_call 18; refine (sub_any _ _ _ (by first | omega | exact V_lo _) (by first | omega | exact V_64 _) (by first | omega | exact V_lo _) (by first | omega | exact V_64 _)).mono ?_; rintro e w' ⟨rfl, rfl⟩) | (go_at_call 16; refine (neg_any _ _ (by first | omega | exact V_lo _) (by first | omega | exact V_64 _)).mono ?_; rintro e w' ⟨rfl, rfl⟩) | (go_at_call 15; refine (mul_any _ _ _ (by first | omega | exact V_lo _) (by first | omega | exact V_64 _) (by first | omega | exact V_lo _) (by first | omega | exact V_64 _)).mono ?_; rintro e w' ⟨rfl, rfl⟩) | (go_at_call 10; refine (pow_b hb _ _ (by first | omega | exact V_lo _) (by first | omega | exact V_64 _) (by omega) (by omega)).mono ?_; clear hb; rintro e w' ⟨rfl, hb⟩) | (go_at_call 19; refine (inv_b hb _ (by first | omega | exact V_lo _) (by first | omega | exact V_64 _)).mono ?_; clear hb; rintro e w' ⟨rfl, hb⟩) | (go_at_call 13; refine (lives_b hb).mono ?_; clear hb; rintro e w' ⟨rfl, hb⟩))
      go_ret
      exact ⟨rfl, hb⟩
  · have h5 : (V (fpow (T a) 1152921504606846975) == 1) = false := eqC_no (by rw [hx, V_neg_one]; decide)
    have h6 : (V (fpow (T a) 1152921504606846975) != 1) = true := neC_yes (by rw [hx, V_neg_one]; decide)
    have h6' : (V (fpow (T a) 1152921504606846975) != 2305843009213693950) = false := neC (by rw [hx, V_neg_one])
    have h7 : (V (fpow (T a) 576460752303423488 * fpow (T a) 576460752303423488) == V (T a)) = false := eqV_no (by
      rw [hr, hx]; intro h
      rw [mul_neg_one'] at h
      have := twice_zero _ h
      rcases (mul_eq_zero' _ _).1 this with h | h
      · exact hza h
      · exact absurd h (by decide +kernel))
    have h7' : (V (fpow (T a) 576460752303423488 * fpow (T a) 576460752303423488) == V (-T a)) = true := eqV (by rw [hr, hx, mul_neg_one'])
    clear hr hx hz hza hzb
    rcases hy with hy | hy
    · have h8 : (V (fpow (T b) 1152921504606846975) != 1) = false := neC (by rw [hy]; rfl)
      clear hy
      go_enter Try.func6, Try.ntmps6
      go_wp2_with (first | (go_at_call 14; refine (num_any _ _ (by first | omega | exact V_lo _) (by first | omega | exact V_64 _)).mono ?_; rintro e w' ⟨rfl, rfl⟩) | (go_at_call 17; refine (add_any _ _ _ (by first | omega | exact V_lo _) (by first | omega | exact V_64 _) (by first | omega | exact V_lo _) (by first | omega | exact V_64 _)).mono ?_; rintro e w' ⟨rfl, rfl⟩) | (go_at_call 18; refine (sub_any _ _ _ (by first | omega | exact V_lo _) (by first | omega | exact V_64 _) (by first | omega | exact V_lo _) (by first | omega | exact V_64 _)).mono ?_; rintro e w' ⟨rfl, rfl⟩) | (go_at_call 16; refine (neg_any _ _ (by first | omega | exact V_lo _) (by first | omega | exact V_64 _)).mono ?_; rintro e w' ⟨rfl, rfl⟩) | (go_at_call 15; refine (mul_any _ _ _ (by first | omega | exact V_lo _) (by first | omega | exact V_64 _) (by first | omega | exact V_lo _) (by first | omega | exact V_64 _)).mono ?_; rintro e w' ⟨rfl, rfl⟩) | (go_at_call 10; refine (pow_b hb _ _ (by first | omega | exact V_lo _) (by first | omega | exact V_64 _) (by omega) (by omega)).mono ?_; clear hb; rintro e w' ⟨rfl, hb⟩) | (go_at_call 19; refine (inv_b hb _ (by first | omega | exact V_lo _) (by first | omega | exact V_64 _)).mono ?_; clear hb; rintro e w' ⟨rfl, hb⟩) | (go_at_call 13; refine (lives_b hb).mono ?_; clear hb; rintro e w' ⟨rfl, hb⟩))
      go_ret
      exact ⟨rfl, hb⟩
    · have h8 : (V (fpow (T b) 1152921504606846975) != 1) = true := neC_yes (by rw [hy, V_neg_one]; decide)
      have h9 : (V (fpow (T b) 1152921504606846975) != 2305843009213693950) = false := neC (by rw [hy, V_neg_one])
      clear hy
      go_enter Try.func6, Try.ntmps6
      go_wp2_with (first | (go_at_call 14; refine (num_any _ _ (by first | omega | exact V_lo _) (by first | omega | exact V_64 _)).mono ?_; rintro e w' ⟨rfl, rfl⟩) | (go_at_call 17; refine (add_any _ _ _ (by first | omega | exact V_lo _) (by first | omega | exact V_64 _) (by first | omega | exact V_lo _) (by first | omega | exact V_64 _)).mono ?_; rintro e w' ⟨rfl, rfl⟩) | (go_at_call 18; refine (sub_any _ _ _ (by first | omega | exact V_lo _) (by first | omega | exact V_64 _) (by first | omega | exact V_lo _) (by first | omega | exact V_64 _)).mono ?_; rintro e w' ⟨rfl, rfl⟩) | (go_at_call 16; refine (neg_any _ _ (by first | omega | exact V_lo _) (by first | omega | exact V_64 _)).mono ?_; rintro e w' ⟨rfl, rfl⟩) | (go_at_call 15; refine (mul_any _ _ _ (by first | omega | exact V_lo _) (by first | omega | exact V_64 _) (by first | omega | exact V_lo _) (by first | omega | exact V_64 _)).mono ?_; rintro e w' ⟨rfl, rfl⟩) | (go_at_call 10; refine (pow_b hb _ _ (by first | omega | exact V_lo _) (by first | omega | exact V_64 _) (by omega) (by omega)).mono ?_; clear hb; rintro e w' ⟨rfl, hb⟩) | (go_at_call 19; refine (inv_b hb _ (by first | omega | exact V_lo _) (by first | omega | exact V_64 _)).mono ?_; clear hb; rintro e w' ⟨rfl, hb⟩) | (go_at_call 13; refine (lives_b hb).mono ?_; clear hb; rintro e w' ⟨rfl, hb⟩))
      go_ret
      exact ⟨rfl, hb⟩

set_option maxRecDepth 100000 in
theorem powers_walk (a n : Int) (ha0 : 0 ≤ a) (ha1 : a < 18446744073709551616) (hn0 : 0 ≤ n) (hn1 : n < 18446744073709551616) (w : World) :
    Calls Try.prog 3 #[.int .u64 a, .int .u64 n] w fun e w' => e = .returned (.bool true) ∧ Below w.heap.size w w' := by
  have hb := Below.refl w.heap.size w
  go_enter Try.func3, Try.ntmps3
  go_wp2
  go_loopw [5, 6] (fun p k wr => ∃ kk : Nat, kk ≤ 40 ∧ k = .int .u64 kk ∧ p = .int .u64 (V (fpow (T a) kk)) ∧ Below w.heap.size w wr)
    (fun _ k _ => 40 - (intOf k).toNat)
  case atStart => exact ⟨0, by omega, rfl, by rw [show fpow (T a) (0 : Nat) = 1 from pow_zero' _]; rfl, hb⟩
  case round =>
    clear hb
    obtain ⟨k, hk, rfl, rfl, hb⟩ := hrel
    by_cases hlt : k < 40
    · have hs : Hid (fpow (T a) k * T a = fpow (T a) (k + 1 : Nat)) := Lib.hid (by
        have := fpow_add (T a) k 1 (by omega) (by omega)
        rw [fpow_one] at this
        exact this)
      go_wp2_with (first | (go_at_call 14; refine (num_any _ _ (by first | omega | exact V_lo _) (by first | omega | exact V_64 _)).mono ?_; rintro e w' ⟨rfl, rfl⟩) | (go_at_call 17; refine (add_any _ _ _ (by first | omega | exact V_lo _) (by first | omega | exact V_64 _) (by first | omega | exact V_lo _) (by first | omega | exact V_64 _)).mono ?_; rintro e w' ⟨rfl, rfl⟩) | (go_at_call 18; refine (sub_any _ _ _ (by first | omega | exact V_lo _) (by first | omega | exact V_64 _) (by first | omega | exact V_lo _) (by first | omega | exact V_64 _)).mono ?_; rintro e w' ⟨rfl, rfl⟩) | (go_at_call 16; refine (neg_any _ _ (by first | omega | exact V_lo _) (by first | omega | exact V_64 _)).mono ?_; rintro e w' ⟨rfl, rfl⟩) | (go_at_call 15; refine (mul_any _ _ _ (by first | omega | exact V_lo _) (by first | omega | exact V_64 _) (by first | omega | exact V_lo _) (by first | omega | exact V_64 _)).mono ?_; rintro e w' ⟨rfl, rfl⟩) | (go_at_call 10; refine (pow_b hb _ _ (by first | omega | exact V_lo _) (by first | omega | exact V_64 _) (by omega) (by omega)).mono ?_; clear hb; rintro e w' ⟨rfl, hb⟩) | (go_at_call 19; refine (inv_b hb _ (by first | omega | exact V_lo _) (by first | omega | exact V_64 _)).mono ?_; clear hb; rintro e w' ⟨rfl, hb⟩) | (go_at_call 13; refine (lives_b hb).mono ?_; clear hb; rintro e w' ⟨rfl, hb⟩) | (go_at_call 21; refine (rnum_any _ _ (by first | omega | exact V_lo _) (by first | omega | exact V_64 _)).mono ?_; rintro e w' ⟨rfl, rfl⟩) | (go_at_call 22; refine (radd_any _ _ _ (by first | omega | exact V_lo _) (by first | omega | exact V_64 _) (by first | omega | exact V_lo _) (by first | omega | exact V_64 _)).mono ?_; rintro e w' ⟨rfl, rfl⟩) | (go_at_call 23; refine (rsub_any _ _ _ (by first | omega | exact V_lo _) (by first | omega | exact V_64 _) (by first | omega | exact V_lo _) (by first | omega | exact V_64 _)).mono ?_; rintro e w' ⟨rfl, rfl⟩) | (go_at_call 11; refine (rmul_b hb _ _ (by first | omega | exact V_lo _) (by first | omega | exact V_64 _) (by first | omega | exact V_lo _) (by first | omega | exact V_64 _)).mono ?_; clear hb; rintro e w' ⟨rfl, hb⟩) | (go_at_call 12; refine (rpow_b hb _ _ (by first | omega | exact V_lo _) (by first | omega | exact V_64 _) (by omega) (by omega)).mono ?_; clear hb; rintro e w' ⟨rfl, hb⟩) | (go_at_call 24; refine (rinv_b hb _ (by first | omega | exact V_lo _) (by first | omega | exact V_64 _)).mono ?_; clear hb; rintro e w' ⟨rfl, hb⟩))
      go_roundw
      case rel => exact ⟨k + 1, by omega, by go_num, by rw [hs.out], hb⟩
      case measure => simp [intOf]; omega
    · go_wp2_with (first | (go_at_call 14; refine (num_any _ _ (by first | omega | exact V_lo _) (by first | omega | exact V_64 _)).mono ?_; rintro e w' ⟨rfl, rfl⟩) | (go_at_call 17; refine (add_any _ _ _ (by first | omega | exact V_lo _) (by first | omega | exact V_64 _) (by first | omega | exact V_lo _) (by first | omega | exact V_64 _)).mono ?_; rintro e w' ⟨rfl, rfl⟩) | (go_at_call 18; refine (sub_any _ _ _ (by first | omega | exact V_lo _) (by first | omega | exact V_64 _) (by first | omega | exact V_lo _) (by first | omega | exact V_64 _)).mono ?_; rintro e w' ⟨rfl, rfl⟩) | (go_at_call 16; refine (neg_any _ _ (by first | omega | exact V_lo _) (by first | omega | exact V_64 _)).mono ?_; rintro e w' ⟨rfl, rfl⟩) | (go_at_call 15; refine (mul_any _ _ _ (by first | omega | exact V_lo _) (by first | omega | exact V_64 _) (by first | omega | exact V_lo _) (by first | omega | exact V_64 _)).mono ?_; rintro e w' ⟨rfl, rfl⟩) | (go_at_call 10; refine (pow_b hb _ _ (by first | omega | exact V_lo _) (by first | omega | exact V_64 _) (by omega) (by omega)).mono ?_; clear hb; rintro e w' ⟨rfl, hb⟩) | (go_at_call 19; refine (inv_b hb _ (by first | omega | exact V_lo _) (by first | omega | exact V_64 _)).mono ?_; clear hb; rintro e w' ⟨rfl, hb⟩) | (go_at_call 13; refine (lives_b hb).mono ?_; clear hb; rintro e w' ⟨rfl, hb⟩) | (go_at_call 21; refine (rnum_any _ _ (by first | omega | exact V_lo _) (by first | omega | exact V_64 _)).mono ?_; rintro e w' ⟨rfl, rfl⟩) | (go_at_call 22; refine (radd_any _ _ _ (by first | omega | exact V_lo _) (by first | omega | exact V_64 _) (by first | omega | exact V_lo _) (by first | omega | exact V_64 _)).mono ?_; rintro e w' ⟨rfl, rfl⟩) | (go_at_call 23; refine (rsub_any _ _ _ (by first | omega | exact V_lo _) (by first | omega | exact V_64 _) (by first | omega | exact V_lo _) (by first | omega | exact V_64 _)).mono ?_; rintro e w' ⟨rfl, rfl⟩) | (go_at_call 11; refine (rmul_b hb _ _ (by first | omega | exact V_lo _) (by first | omega | exact V_64 _) (by first | omega | exact V_lo _) (by first | omega | exact V_64 _)).mono ?_; clear hb; rintro e w' ⟨rfl, hb⟩) | (go_at_call 12; refine (rpow_b hb _ _ (by first | omega | exact V_lo _) (by first | omega | exact V_64 _) (by omega) (by omega)).mono ?_; clear hb; rintro e w' ⟨rfl, hb⟩) | (go_at_call 24; refine (rinv_b hb _ (by first | omega | exact V_lo _) (by first | omega | exact V_64 _)).mono ?_; clear hb; rintro e w' ⟨rfl, hb⟩))
      go_ret
      exact ⟨rfl, hb⟩
end Go.Proofs.Ytkjokledkpmhbaa
