/-
  The contracts of the field's functions in the form that the laws use: what is returned, and that nothing that was there has turned.
-/
import Derived.Test.YtkjokledkpmhbaaFieldB
namespace Go.Proofs.Ytkjokledkpmhbaa
open Go.RowKit
attribute [local go_sem] T_V

theorem V_64 (x : F) : V x < 18446744073709551616 := by have := V_hi x; omega
theorem below_then {w0 w w' : World} (hb : Below w0.heap.size w0 w) (h : Below w.heap.size w w') : Below w0.heap.size w0 w' := hb.trans (h.mono hb.size)
theorem below_drewN {w0 w : World} (hb : Below w0.heap.size w0 w) (n : Nat) : Below w0.heap.size w0 (w.drewN n) := ⟨hb.os, hb.tape, hb.output, hb.size, hb.block⟩

/-- A power, kept from the walk. -/
def fpow (x : F) (n : Int) : F := x ^ n.toNat

theorem pow_b {w0 w : World} (hb : Below w0.heap.size w0 w) (x n : Int) (hx0 : 0 ≤ x) (hx1 : x < 18446744073709551616) (hn0 : 0 ≤ n) (hn1 : n < 18446744073709551616) :
    Calls Try.prog 10 #[.int .u64 x, .int .u64 n] w fun e w' => e = .returned (.int .u64 (V (fpow (T x) n))) ∧ Below w0.heap.size w0 w' :=
  (pow_any x n w hx0 hx1 hn0 hn1).mono fun _ _ ⟨he, h⟩ => ⟨he, below_then hb h⟩
theorem rmul_b {w0 w : World} (hb : Below w0.heap.size w0 w) (x y : Int) (hx0 : 0 ≤ x) (hx1 : x < 18446744073709551616) (hy0 : 0 ≤ y) (hy1 : y < 18446744073709551616) :
    Calls Try.prog 11 #[.int .u64 x, .int .u64 y] w fun e w' => e = .returned (.int .u64 (V (T x * T y))) ∧ Below w0.heap.size w0 w' :=
  (rmul_any x y w hx0 hx1 hy0 hy1).mono fun _ _ ⟨he, n, h⟩ => ⟨he, h ▸ below_drewN hb n⟩
theorem rpow_b {w0 w : World} (hb : Below w0.heap.size w0 w) (x n : Int) (hx0 : 0 ≤ x) (hx1 : x < 18446744073709551616) (hn0 : 0 ≤ n) (hn1 : n < 18446744073709551616) :
    Calls Try.prog 12 #[.int .u64 x, .int .u64 n] w fun e w' => e = .returned (.int .u64 (V (fpow (T x) n))) ∧ Below w0.heap.size w0 w' :=
  (rpow_any x n w hx0 hx1 hn0 hn1).mono fun _ _ ⟨he, n, h⟩ => ⟨he, h ▸ below_drewN hb n⟩

theorem inv_of_pow (x : F) : fpow x 2305843009213693949 = inv x := rfl

set_option maxRecDepth 100000 in
theorem inv_b {w0 w : World} (hb : Below w0.heap.size w0 w) (x : Int) (hx0 : 0 ≤ x) (hx1 : x < 18446744073709551616) :
    Calls Try.prog 19 #[.int .u64 x] w fun e w' => e = .returned (.int .u64 (V (inv (T x)))) ∧ Below w0.heap.size w0 w' := by
  go_enter Try.func19, Try.ntmps19
  go_wp2_with fail
  refine (pow_b hb _ _ hx0 hx1 (by omega) (by omega)).mono ?_; clear hb; rintro e w' ⟨rfl, hb⟩
  rw [inv_of_pow]
  go_wp2_with fail
  go_ret
  exact ⟨rfl, hb⟩
set_option maxRecDepth 100000 in
theorem rinv_b {w0 w : World} (hb : Below w0.heap.size w0 w) (x : Int) (hx0 : 0 ≤ x) (hx1 : x < 18446744073709551616) :
    Calls Try.prog 24 #[.int .u64 x] w fun e w' => e = .returned (.int .u64 (V (inv (T x)))) ∧ Below w0.heap.size w0 w' := by
  go_enter Try.func24, Try.ntmps24
  go_wp2_with fail
  refine (rpow_b hb _ _ hx0 hx1 (by omega) (by omega)).mono ?_; clear hb; rintro e w' ⟨rfl, hb⟩
  rw [inv_of_pow]
  go_wp2_with fail
  go_ret
  exact ⟨rfl, hb⟩

set_option maxRecDepth 100000 in
theorem ok_any (x : Int) (w : World) : Calls Try.prog 20 #[.int .u64 x] w fun e w' => e = .returned (.bool (decide (x < 2305843009213693951))) ∧ w = w' := by
  go_enter Try.func20, Try.ntmps20
  go_wp2
  go_ret
  exact ⟨rfl, rfl⟩

theorem lives1 : (V (T 1152921504606846976 * T 2) == 1) = true := by decide +kernel
theorem lives2 : (V (inv (T 2)) == 1152921504606846976) = true := by
  rw [inv_unique (T 2) (T 1152921504606846976) (by decide +kernel)]
  decide +kernel
theorem lives3 : (V (- T 1) == 2305843009213693950) = true := by decide +kernel
theorem lives4 : (V (fpow (T 3) 4) == 81) = true := by decide +kernel

set_option maxRecDepth 100000 in
theorem lives_b {w0 w : World} (hb : Below w0.heap.size w0 w) :
    Calls Try.prog 13 #[] w fun e w' => e = .returned (.bool true) ∧ Below w0.heap.size w0 w' := by
  have h1 := lives1
  have h2 := lives2
  have h3 := lives3
  have h4 := lives4
  go_enter Try.func13, Try.ntmps13
  go_wp2_with (first | (go_at_call 14; refine (num_any _ _ (by first | omega | exact V_lo _) (by first | omega | exact V_64 _)).mono ?_; rintro e w' ⟨rfl, rfl⟩) | (go_at_call 17; refine (add_any _ _ _ (by first | omega | exact V_lo _) (by first | omega | exact V_64 _) (by first | omega | exact V_lo _) (by first | omega | exact V_64 _)).mono ?_; rintro e w' ⟨rfl, rfl⟩) | (go_at_call 18; refine (sub_any _ _ _ (by first | omega | exact V_lo _) (by first | omega | exact V_64 _) (by first | omega | exact V_lo _) (by first | omega | exact V_64 _)).mono ?_; rintro e w' ⟨rfl, rfl⟩) | (go_at_call 16; refine (neg_any _ _ (by first | omega | exact V_lo _) (by first | omega | exact V_64 _)).mono ?_; rintro e w' ⟨rfl, rfl⟩) | (go_at_call 15; refine (mul_any _ _ _ (by first | omega | exact V_lo _) (by first | omega | exact V_64 _) (by first | omega | exact V_lo _) (by first | omega | exact V_64 _)).mono ?_; rintro e w' ⟨rfl, rfl⟩) | (go_at_call 10; refine (pow_b hb _ _ (by first | omega | exact V_lo _) (by first | omega | exact V_64 _) (by omega) (by omega)).mono ?_; clear hb; rintro e w' ⟨rfl, hb⟩) | (go_at_call 19; refine (inv_b hb _ (by first | omega | exact V_lo _) (by first | omega | exact V_64 _)).mono ?_; clear hb; rintro e w' ⟨rfl, hb⟩) | (go_at_call 13; refine (lives_b hb).mono ?_; clear hb; rintro e w' ⟨rfl, hb⟩))
  go_ret
  exact ⟨rfl, hb⟩
end Go.Proofs.Ytkjokledkpmhbaa
