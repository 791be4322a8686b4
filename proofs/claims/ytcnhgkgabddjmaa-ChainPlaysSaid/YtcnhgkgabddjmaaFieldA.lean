/-
  The contracts of the field's functions that only compute: each returns the field's number and leaves the world alone.
-/
import Derived.Test.YtcnhgkgabddjmaaProg
import Derived.Test.YtcnhgkgabddjmaaPlain
import Derived.WalkKit
import Derived.LoopTactic
import Derived.Deep.QuietTactic
import Derived.BigQuiet
import Derived.IntWalk
import Derived.Laws.BitsLemmas
import Derived.Lib.Hide
namespace Go.Proofs.Ytcnhgkgabddjmaa
open Go.RowKit

theorem wraps64 (n : Int) (h₀ : 0 ≤ n) (h₁ : n < 2 ^ 64) : IntKind.u64.wrap n = n := by rw [IntKind.wrap_u64]; omega
theorem mask61 (n : Int) (h0 : 0 ≤ n) (h1 : n < 18446744073709551616) : bits .and .u64 n 2305843009213693951 = n % 2305843009213693952 :=
  bits_mask .u64 64 (by decide) wraps64 61 (by decide) n h0 (by omega)
theorem mask32 (n : Int) (h0 : 0 ≤ n) (h1 : n < 18446744073709551616) : bits .and .u64 n 4294967295 = n % 4294967296 :=
  bits_mask .u64 64 (by decide) wraps64 32 (by decide) n h0 (by omega)
theorem mask1 (n : Int) (h0 : 0 ≤ n) (h1 : n < 18446744073709551616) : bits .and .u64 n 1 = n % 2 :=
  bits_mask .u64 64 (by decide) wraps64 1 (by decide) n h0 (by omega)
theorem ret_int {k : IntKind} {a b : Int} (h : a = b) : Ending.returned (.int k a) = .returned (.int k b) := by rw [h]

theorem ret_int2 {k l : IntKind} {a b c d : Int} (h : a = b) (h2 : c = d) : Ending.returned (.tuple #[.int k a, .int l c]) = .returned (.tuple #[.int k b, .int l d]) := by rw [h, h2]

set_option maxRecDepth 100000 in
theorem num_any (n : Int) (w : World) (h0 : 0 ≤ n) (h1 : n < 18446744073709551616) :
    Calls Try.prog 62 #[.int .u64 n] w fun e w' => e = .returned (.int .u64 (V (T n))) ∧ w = w' := by
  go_enter Try.func62, Try.ntmps62
  go_wp2
  all_goals
    have hlt := by assumption
    rw [mask61 n h0 h1, IntWalk.u64_in _ (by omega)] at hlt
    go_ret
    refine ⟨ret_int ?_, rfl⟩
    rw [V_T, mask61 n h0 h1]
    simp (disch := omega) only [IntWalk.u64_in]
    omega

/-- The halves' product, put together: the high word. -/
theorem mul64_hi (x0 x1 y0 y1 : Int) :
    x1 * y1 + (x1 * y0 + x0 * y0 / 4294967296) / 4294967296 + ((x1 * y0 + x0 * y0 / 4294967296) % 4294967296 + x0 * y1) / 4294967296
      = (x1 * 4294967296 + x0) * (y1 * 4294967296 + y0) / 18446744073709551616 := by
  have e : (x1 * 4294967296 + x0) * (y1 * 4294967296 + y0) = x1 * y1 * 18446744073709551616 + x1 * y0 * 4294967296 + x0 * y1 * 4294967296 + x0 * y0 := by grind
  rw [e]
  generalize x1 * y1 = a
  generalize x1 * y0 = b
  generalize x0 * y1 = c
  generalize x0 * y0 = d
  omega

theorem prod_bd (a b : Int) (m : Int) (ha : 0 ≤ a) (ha' : a ≤ m) (hb : 0 ≤ b) (hb' : b ≤ m) : 0 ≤ a * b ∧ a * b ≤ m * m :=
  ⟨Int.mul_nonneg ha hb, Int.mul_le_mul ha' hb' hb (by omega)⟩

set_option maxRecDepth 100000 in
theorem mul64_any (x y : Int) (w : World) (hx0 : 0 ≤ x) (hx1 : x < 18446744073709551616) (hy0 : 0 ≤ y) (hy1 : y < 18446744073709551616) :
    Calls Try.prog 89 #[.int .u64 x, .int .u64 y] w fun e w' => e = .returned (.tuple #[.int .u64 (x * y / 18446744073709551616), .int .u64 (x * y % 18446744073709551616)]) ∧ w = w' := by
  go_enter Try.func89, Try.ntmps89
  go_wp2
  go_ret2
  refine ⟨ret_int2 ?_ (IntKind.wrap_u64 _), rfl⟩
  rw [mask32 x hx0 hx1, mask32 y hy0 hy1]
  have e := mul64_hi (x % 4294967296) (x / 4294967296) (y % 4294967296) (y / 4294967296)
  rw [show x / 4294967296 * 4294967296 + x % 4294967296 = x by omega, show y / 4294967296 * 4294967296 + y % 4294967296 = y by omega] at e
  rw [← e]
  have b1 := prod_bd (x / 4294967296) (y / 4294967296) 4294967295 (by omega) (by omega) (by omega) (by omega)
  have b2 := prod_bd (x / 4294967296) (y % 4294967296) 4294967295 (by omega) (by omega) (by omega) (by omega)
  have b3 := prod_bd (x % 4294967296) (y / 4294967296) 4294967295 (by omega) (by omega) (by omega) (by omega)
  have b4 := prod_bd (x % 4294967296) (y % 4294967296) 4294967295 (by omega) (by omega) (by omega) (by omega)
  generalize x / 4294967296 * (y / 4294967296) = p11 at *
  generalize x / 4294967296 * (y % 4294967296) = p10 at *
  generalize x % 4294967296 * (y / 4294967296) = p01 at *
  generalize x % 4294967296 * (y % 4294967296) = p00 at *
  simp (disch := omega) only [IntWalk.u64_in, mask32]

theorem T_mul64 (p : Int) : T (V (T (p % 18446744073709551616)) + p / 18446744073709551616 * 8) = T p := by rw [T_eq, V_T]; omega
theorem T_P : T 2305843009213693951 = 0 := rfl
theorem T_pow61 : T 2305843009213693952 = 1 := rfl

set_option maxRecDepth 100000 in
theorem add_any (x y : Int) (w : World) (hx0 : 0 ≤ x) (hx1 : x < 18446744073709551616) (hy0 : 0 ≤ y) (hy1 : y < 18446744073709551616) :
    Calls Try.prog 70 #[.int .u64 x, .int .u64 y] w fun e w' => e = .returned (.int .u64 (V (T x + T y))) ∧ w = w' := by
  have a1 := V_lo (T x)
  have a2 := V_hi (T x)
  have b1 := V_lo (T y)
  have b2 := V_hi (T y)
  go_enter Try.func70, Try.ntmps70
  go_wp2_with fail
  refine (num_any x _ hx0 hx1).mono ?_; rintro e w' ⟨rfl, rfl⟩
  go_wp2_with fail
  refine (num_any y _ hy0 hy1).mono ?_; rintro e w' ⟨rfl, rfl⟩
  go_wp2_with fail
  refine (num_any _ _ (by omega) (by omega)).mono ?_; rintro e w' ⟨rfl, rfl⟩
  go_wp2_with fail
  go_ret
  exact ⟨ret_int (by rw [T_add, T_V, T_V]), rfl⟩



set_option maxRecDepth 100000 in
theorem mul_any (x y : Int) (w : World) (hx0 : 0 ≤ x) (hx1 : x < 18446744073709551616) (hy0 : 0 ≤ y) (hy1 : y < 18446744073709551616) :
    Calls Try.prog 71 #[.int .u64 x, .int .u64 y] w fun e w' => e = .returned (.int .u64 (V (T x * T y))) ∧ w = w' := by
  have a1 := V_lo (T x)
  have a2 := V_hi (T x)
  have b1 := V_lo (T y)
  have b2 := V_hi (T y)
  have pb := prod_bd (V (T x)) (V (T y)) 2305843009213693950 a1 (by omega) b1 (by omega)
  have c1 := V_lo (T (V (T x) * V (T y) % 18446744073709551616))
  have c2 := V_hi (T (V (T x) * V (T y) % 18446744073709551616))
  go_enter Try.func71, Try.ntmps71
  go_wp2_with fail
  refine (num_any x _ hx0 hx1).mono ?_; rintro e w' ⟨rfl, rfl⟩
  go_wp2_with fail
  refine (num_any y _ hy0 hy1).mono ?_; rintro e w' ⟨rfl, rfl⟩
  go_wp2_with fail
  refine (mul64_any _ _ _ (by omega) (by omega) (by omega) (by omega)).mono ?_; rintro e w' ⟨rfl, rfl⟩
  go_wp2_with fail
  refine (num_any _ _ (by omega) (by omega)).mono ?_; rintro e w' ⟨rfl, rfl⟩
  go_wp2_with fail
  refine (num_any _ _ (by omega) (by omega)).mono ?_; rintro e w' ⟨rfl, rfl⟩
  go_wp2_with fail
  go_ret
  exact ⟨ret_int (by rw [T_mul64, T_mul, T_V, T_V]), rfl⟩

/-! ### The references' -/

set_option maxRecDepth 100000 in
theorem radd_any (x y : Int) (w : World) (hx0 : 0 ≤ x) (hx1 : x < 18446744073709551616) (hy0 : 0 ≤ y) (hy1 : y < 18446744073709551616) :
    Calls Try.prog 84 #[.int .u64 x, .int .u64 y] w fun e w' => e = .returned (.int .u64 (V (T x + T y))) ∧ w = w' := by
  go_enter Try.func84, Try.ntmps84
  go_wp2
  go_ret
  exact ⟨ret_int (by rw [V_add, V_T, V_T]), rfl⟩


/-- The halves' product, modulo P. -/
theorem rmul_sum (a0 a1 b0 b1 : Int) :
    (a0 * b0 % 2305843009213693951 + (a1 * b0 + a0 * b1) % 536870912 * 4294967296 + (a1 * b0 + a0 * b1) / 536870912 + 8 * (a1 * b1)) % 2305843009213693951
      = (a1 * 4294967296 + a0) * (b1 * 4294967296 + b0) % 2305843009213693951 := by
  have e : (a1 * 4294967296 + a0) * (b1 * 4294967296 + b0) = a1 * b1 * 18446744073709551616 + (a1 * b0 + a0 * b1) * 4294967296 + a0 * b0 := by grind
  rw [e]
  generalize a1 * b1 = p11
  generalize a1 * b0 + a0 * b1 = m
  generalize a0 * b0 = p00
  omega

theorem prod_bd2 (a b m k : Int) (ha : 0 ≤ a) (ha' : a ≤ m) (hb : 0 ≤ b) (hb' : b ≤ k) : 0 ≤ a * b ∧ a * b ≤ m * k :=
  ⟨Int.mul_nonneg ha hb, Int.mul_le_mul ha' hb' hb (by omega)⟩

set_option maxRecDepth 100000 in
theorem rmul_any (x y : Int) (w : World) (hx0 : 0 ≤ x) (hx1 : x < 18446744073709551616) (hy0 : 0 ≤ y) (hy1 : y < 18446744073709551616) :
    Calls Try.prog 85 #[.int .u64 x, .int .u64 y] w fun e w' => e = .returned (.int .u64 (V (T x * T y))) ∧ ∃ n, w' = w.drewN n := by
  have b1 := prod_bd2 (x % 2305843009213693951 / 4294967296) (y % 2305843009213693951 / 4294967296) 536870911 536870911 (by omega) (by omega) (by omega) (by omega)
  have b2 := prod_bd2 (x % 2305843009213693951 / 4294967296) (y % 2305843009213693951 % 4294967296) 536870911 4294967295 (by omega) (by omega) (by omega) (by omega)
  have b3 := prod_bd2 (x % 2305843009213693951 % 4294967296) (y % 2305843009213693951 / 4294967296) 4294967295 536870911 (by omega) (by omega) (by omega) (by omega)
  have b4 := prod_bd2 (x % 2305843009213693951 % 4294967296) (y % 2305843009213693951 % 4294967296) 4294967295 4294967295 (by omega) (by omega) (by omega) (by omega)
  have e := rmul_sum (x % 2305843009213693951 % 4294967296) (x % 2305843009213693951 / 4294967296) (y % 2305843009213693951 % 4294967296) (y % 2305843009213693951 / 4294967296)
  rw [show x % 2305843009213693951 / 4294967296 * 4294967296 + x % 2305843009213693951 % 4294967296 = x % 2305843009213693951 by omega, show y % 2305843009213693951 / 4294967296 * 4294967296 + y % 2305843009213693951 % 4294967296 = y % 2305843009213693951 by omega] at e
  have E := Lib.hid e
  clear e
  go_enter Try.func85, Try.ntmps85
  go_wp2
  go_quiet (fail)
  go_wp2
  go_quiet (fail)
  go_wp2
  go_quiet (fail)
  go_wp2
  go_quiet (fail)
  go_wp2
  go_ret
  refine ⟨ret_int ?_, ?_⟩
  · rw [V_mul, V_T, V_T, ← E.out]
  · exact ⟨_, by rw [World.drewN_drewN, World.drewN_drewN, World.drewN_drewN]⟩

theorem pow_step_odd (o b : F) (k : Nat) (h : k % 2 = 1) : o * b * (b * b) ^ (k / 2) = o * b ^ k := by
  have e : k = 1 + 2 * (k / 2) := by omega
  have e2 : b ^ k = b * (b * b) ^ (k / 2) := by
    conv => lhs; rw [e]
    rw [pow_add', pow_one', pow_mul', show b ^ 2 = b * b by grind]
  rw [e2]; grind
theorem pow_step_even (o b : F) (k : Nat) (h : k % 2 = 0) : o * (b * b) ^ (k / 2) = o * b ^ k := by
  have e : k = 2 * (k / 2) := by omega
  have e2 : b ^ k = (b * b) ^ (k / 2) := by
    conv => lhs; rw [e]
    rw [pow_mul', show b ^ 2 = b * b by grind]
  rw [e2]

set_option maxRecDepth 100000 in
theorem rpow_any (x n : Int) (w : World) (hx0 : 0 ≤ x) (hx1 : x < 18446744073709551616) (hn0 : 0 ≤ n) (hn1 : n < 18446744073709551616) :
    Calls Try.prog 86 #[.int .u64 x, .int .u64 n] w fun e w' => e = .returned (.int .u64 (V (T x ^ n.toNat))) ∧ ∃ n, w' = w.drewN n := by
  go_enter Try.func86, Try.ntmps86
  go_wp2
  go_loopw [5, 6, 7] (fun o b k wr => ∃ (kk : Nat) (oo bb : F), kk < 18446744073709551616 ∧ o = .int .u64 (V oo) ∧ b = .int .u64 (V bb) ∧ k = .int .u64 kk ∧ Hid (oo * bb ^ kk = T x ^ n.toNat) ∧ ∃ m, wr = w.drewN m)
    (fun _ _ k _ => (intOf k).toNat)
  case atStart =>
    refine ⟨n.toNat, 1, T x, by omega, by rw [V_one], by rw [V_T], by rw [Int.toNat_of_nonneg hn0], Lib.hid (by grind), 0, rfl⟩
  case round =>
    obtain ⟨k, o, b, hk, rfl, rfl, rfl, HR, m, rfl⟩ := hrel
    have o1 := V_lo o
    have o2 := V_hi o
    have b1 := V_lo b
    have b2 := V_hi b
    by_cases hk0 : 0 < k
    · by_cases hodd : k % 2 = 1
      · have t1 : ((k : Int) % 2 == 1) = true := by rw [beq_iff_eq]; omega
        have hs := Lib.hid ((pow_step_odd o b k hodd).trans HR.out)
        clear HR hodd
        go_wp2_with fail
        refine (rmul_any _ _ _ (by omega) (by omega) (by omega) (by omega)).mono ?_; rintro e w' ⟨rfl, m', rfl⟩
        go_wp2_with fail
        refine (rmul_any _ _ _ (by omega) (by omega) (by omega) (by omega)).mono ?_; rintro e w' ⟨rfl, m'', rfl⟩
        go_wp2_with fail
        go_roundw
        case rel => exact ⟨k / 2, o * b, b * b, by omega, by rw [T_V, T_V], by rw [T_V], by go_num, hs, _, rfl⟩
        case measure => simp [intOf]; omega
      · have t1 : ((k : Int) % 2 == 1) = false := by rw [beq_eq_false_iff_ne]; omega
        have hs := Lib.hid ((pow_step_even o b k (by omega)).trans HR.out)
        clear HR hodd
        go_wp2_with fail
        refine (rmul_any _ _ _ (by omega) (by omega) (by omega) (by omega)).mono ?_; rintro e w' ⟨rfl, m'', rfl⟩
        go_wp2_with fail
        go_roundw
        case rel => exact ⟨k / 2, o, b * b, by omega, rfl, by rw [T_V], by go_num, hs, _, rfl⟩
        case measure => simp [intOf]; omega
    · obtain rfl : k = 0 := by omega
      have hs : o = T x ^ n.toNat := by rw [← HR.out]; grind
      have hs := Lib.hid hs
      clear HR
      go_wp2
      go_ret
      exact ⟨ret_int (by rw [hs.out]), _, rfl⟩
end Go.Proofs.Ytcnhgkgabddjmaa
