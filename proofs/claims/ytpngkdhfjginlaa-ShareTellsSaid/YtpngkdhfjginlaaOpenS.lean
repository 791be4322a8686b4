/-
  A share as an argument, opened.
-/
import Derived.Test.YtpngkdhfjginlaaOpen
import Derived.Test.YtpngkdhfjginlaaShG
import Derived.Lib.SmallJoins
namespace Go.Proofs.Ytpngkdhfjginlaa
open Go.ChangeShapes Go.WideShapes Go.ChangeAt Go.RowKit Go.Joins

theorem open_s {H : Type} {enc : TypeId × Value → H} {W : World} {base : Nat} {v : Value} {d : DataW H} {ps : List MemPlace} (hok : Value.okWide Try.prog W .any base 33 v) (h : DataW.Trod enc Try.prog W 0 (fun _ => true) true 33 v d ps) :
    ∃ y z, v = .agg #[.int .u64 y, .int .u64 z] ∧ bdS (y, z) := by
  obtain ⟨v0, v1, y0, y1, n, rfl, _, _, h0, h1⟩ := open_agg2 Try.underlying33 (by kernel_rfl) (by kernel_rfl) hok h
  obtain ⟨a, ha, _, wa⟩ := DataW.trod_int Try.underlying22 h0
  obtain ⟨b, hb, _, wb⟩ := DataW.trod_int Try.underlying22 h1
  simp only [List.cons.injEq, and_true] at ha hb
  subst ha
  subst hb
  have e1 := wf_u64 wa
  have e2 := wf_u64 wb
  exact ⟨a, b, rfl, by unfold bdS; refine ⟨⟨?_, ?_⟩, ?_, ?_⟩ <;> (simp only; omega)⟩
end Go.Proofs.Ytpngkdhfjginlaa
