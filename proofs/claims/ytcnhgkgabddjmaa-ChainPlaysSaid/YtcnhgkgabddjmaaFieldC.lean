/-
  The contracts of the field's functions in the form that the laws use: what is returned, and that nothing that was there has turned.
-/
import Derived.Test.YtcnhgkgabddjmaaFieldB
namespace Go.Proofs.Ytcnhgkgabddjmaa
open Go.RowKit
attribute [local go_sem] T_V

theorem V_64 (x : F) : V x < 18446744073709551616 := by have := V_hi x; omega
theorem below_then {w0 w w' : World} (hb : Below w0.heap.size w0 w) (h : Below w.heap.size w w') : Below w0.heap.size w0 w' := hb.trans (h.mono hb.size)
theorem below_drewN {w0 w : World} (hb : Below w0.heap.size w0 w) (n : Nat) : Below w0.heap.size w0 (w.drewN n) := ⟨hb.os, hb.tape, hb.output, hb.size, hb.block⟩

/-- A power, kept from the walk. -/
def fpow (x : F) (n : Int) : F := x ^ n.toNat

theorem pow_b {w0 w : World} (hb : Below w0.heap.size w0 w) (x n : Int) (hx0 : 0 ≤ x) (hx1 : x < 18446744073709551616) (hn0 : 0 ≤ n) (hn1 : n < 18446744073709551616) :
    Calls Try.prog 69 #[.int .u64 x, .int .u64 n] w fun e w' => e = .returned (.int .u64 (V (fpow (T x) n))) ∧ Below w0.heap.size w0 w' :=
  (pow_any x n w hx0 hx1 hn0 hn1).mono fun _ _ ⟨he, h⟩ => ⟨he, below_then hb h⟩
theorem rmul_b {w0 w : World} (hb : Below w0.heap.size w0 w) (x y : Int) (hx0 : 0 ≤ x) (hx1 : x < 18446744073709551616) (hy0 : 0 ≤ y) (hy1 : y < 18446744073709551616) :
    Calls Try.prog 85 #[.int .u64 x, .int .u64 y] w fun e w' => e = .returned (.int .u64 (V (T x * T y))) ∧ Below w0.heap.size w0 w' :=
  (rmul_any x y w hx0 hx1 hy0 hy1).mono fun _ _ ⟨he, n, h⟩ => ⟨he, h ▸ below_drewN hb n⟩
theorem rpow_b {w0 w : World} (hb : Below w0.heap.size w0 w) (x n : Int) (hx0 : 0 ≤ x) (hx1 : x < 18446744073709551616) (hn0 : 0 ≤ n) (hn1 : n < 18446744073709551616) :
    Calls Try.prog 86 #[.int .u64 x, .int .u64 n] w fun e w' => e = .returned (.int .u64 (V (fpow (T x) n))) ∧ Below w0.heap.size w0 w' :=
  (rpow_any x n w hx0 hx1 hn0 hn1).mono fun _ _ ⟨he, n, h⟩ => ⟨he, h ▸ below_drewN hb n⟩

theorem inv_of_pow (x : F) : fpow x 2305843009213693949 = inv x := rfl



theorem lives1 : (V (T 1152921504606846976 * T 2) == 1) = true := by decide +kernel
theorem lives2 : (V (inv (T 2)) == 1152921504606846976) = true := by
  rw [inv_unique (T 2) (T 1152921504606846976) (by decide +kernel)]
  decide +kernel
theorem lives3 : (V (- T 1) == 2305843009213693950) = true := by decide +kernel
theorem lives4 : (V (fpow (T 3) 4) == 81) = true := by decide +kernel

end Go.Proofs.Ytcnhgkgabddjmaa
