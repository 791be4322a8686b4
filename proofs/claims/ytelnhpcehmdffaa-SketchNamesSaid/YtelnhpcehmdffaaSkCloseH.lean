/-
  A statement on sketches (H), for every input: the law returns true and leaves its arguments as they were.
-/
import Derived.Test.YtelnhpcehmdffaaOpen
import Derived.Test.YtelnhpcehmdffaaOpenK
import Derived.Test.YtelnhpcehmdffaaUI
import Derived.Test.YtelnhpcehmdffaaSkLawH
namespace Go.Proofs.Ytelnhpcehmdffaa
open Go.ChangeShapes Go.WideShapes Go.ChangeAt Go.RowKit

set_option maxRecDepth 100000 in
theorem sketchNames_lifted (os : Os) (started : os.Started) (H : Type) (enc : TypeId × Value → H) :
    ReturnsInHanded {} Try.checked os 10 .any (Rows.sketchNamesSpec.pre6 enc Try.prog Try.f10 Rows.sketchNamesRow.domain false) (Rows.sketchNamesSpec.post enc Try.prog Try.f10 false true false false) := by
  refine returnsInHanded_of_change (C := Try.checked) own started (by kernel_rfl) Try.func10
    (ChangeSpec.witness6 (enc := enc) (C := Try.checked) false ⟨#[], #[.slice none 0 0, .slice none 0 0], []⟩ 8 (by kernel_rfl) (by kernel_rfl) (by kernel_rfl) (by kernel_rfl)) ?_
  intro W base args ds gs before hval0 hW _ _
  have hval : ∀ (j : Nat) t v, Try.f10.params[j]? = some t → args[j]? = some v → Value.okWide Try.prog W .any base t v := hval0
  have hW' := hW
  have hlt := hW.lt
  obtain ⟨p, q, hA0, hV, rfl, _, _⟩ := hW
  have hA : DataW.TrodAll enc Try.prog W 0 (fun _ => true) true Try.f10.params.toList args.toList ds p := hA0
  have hB : ∀ W', Below W.heap.size W W' → DataW.TrodAll enc Try.prog W' 0 (fun b => decide (b < W.heap.size)) true Try.f10.params.toList args.toList ds p := fun W' hb => trodAll_below laidOut hb (by rw [Try.params10]; decide +kernel) hA (fun x hx => hlt x (List.mem_append_left _ hx))
  rw [Try.params10] at hA hval
  obtain ⟨v0, vs0, d0, ds0, p0, q0, hargs, rfl, rfl, h0, r0⟩ := trodAll_cons hA
  obtain ⟨v1, vs1, d1, ds1, p1, q1, rfl, rfl, rfl, h1, r1⟩ := trodAll_cons r0
  obtain ⟨rfl, rfl, rfl⟩ := trodAll_nil r1
  obtain rfl : args = #[v0, v1] := by cases args; simp_all
  obtain ⟨rfl, rfl⟩ := trodVars_none hV
  obtain ⟨p0', n0, c0, f0, rfl, hU0, hc0, hn0, hp0⟩ := open_K (hval 0 47 v0 rfl rfl) h0
  obtain ⟨p1', n1, c1, xs1, rfl, hU1, hc1, hn1, hp1⟩ := open_I (hval 1 48 v1 rfl rfl) h1
  simp only [List.append_nil] at hW'
  refine (names_walk p0' n0 f0 c0 p1' n1 xs1 c1 W hU0 hc0 hn0 hp0 hU1 hc1 hn1 hp1).mono fun e W' ⟨he, hg⟩ => ?_
  subst he
  exact ⟨_, rfl, law_post hW' (trodAll_cons_mk (shut_bool Try.underlying4 _) trodAll_mk0) (hB W' hg) hg⟩

/-- The statement SketchNames. -/
theorem sketchNames_holds : Rows.SketchNamesSaid :=
  OpenClaim.holds_of_wide 10 Try.f10 rfl rfl rfl rfl rfl rfl rfl ⟨rfl, rfl, rfl, rfl, rfl⟩ rfl rfl rfl rfl rfl (by kernel_rfl) Try.func10 (by kernel_rfl)
    (of_decide_eq_true (by kernel_rfl)) (by unfold Func.isWrapper; first | (rw [if_pos (by decide +kernel)]; kernel_rfl) | (rw [if_neg (by decide +kernel)]; exact ⟨rfl, rfl⟩))
    (fun os started H enc _ => sketchNames_lifted os started H enc)

end Go.Proofs.Ytelnhpcehmdffaa
