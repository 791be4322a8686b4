/-
  A slice of bytes as an argument, opened.
-/
import Derived.Test.YtcnhgkgabddjmaaOpen
import Derived.Test.YtcnhgkgabddjmaaHsA
namespace Go.Proofs.Ytcnhgkgabddjmaa
open Go.ChangeShapes Go.WideShapes Go.ChangeAt Go.RowKit

theorem wf_u8 {n : Int} (h : (Lit.int .u8 n).wf = true) : 0 ≤ n ∧ n < 256 := by
  simp [Lit.wf, IntKind.min, IntKind.max, IntKind.bits, IntKind.signed] at h
  omega
set_option maxRecDepth 100000 in
theorem open_B {H : Type} {enc : TypeId × Value → H} {W : World} {base : Nat} {v : Value} {d : DataW H} {ps : List MemPlace} (hok : Value.okWide Try.prog W .any base 37 v) (h : DataW.Trod enc Try.prog W 0 (fun _ => true) true 37 v d ps) :
    ∃ p n c xs, v = .slice p n c ∧ B8 W p n xs ∧ n ≤ c ∧ n ≤ 9223372036854775807 ∧ (p = none → c = 0) := by
  obtain ⟨p, n, c, zs, rfl, hl, hr, hw, hnc, hcm, hp⟩ := open_nums Try.underlying37 Try.underlying5 (by kernel_rfl) hok h
  refine ⟨p, n, c, zs, rfl, ⟨hl, hr, fun z hz => wf_u8 (hw z hz)⟩, hnc, ?_, hp⟩
  unfold maxLen at hcm
  omega
end Go.Proofs.Ytcnhgkgabddjmaa
