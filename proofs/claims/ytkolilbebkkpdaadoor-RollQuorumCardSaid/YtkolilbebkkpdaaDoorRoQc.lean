/-
  The statement RollQuorum, for every input: the law returns true and leaves its arguments as they were, where the listed table holds what the program's text lays.
-/
import Derived.Test.YtkolilbebkkpdaaDoorRoCl
import Derived.Test.YtkolilbebkkpdaaDoorRoQu
import Derived.Test.YtkolilbebkkpdaaDoorCards
namespace Go.Proofs.YtkolilbebkkpdaaDoor
open Go.ChangeShapes Go.WideShapes Go.ChangeAt Go.RowKit

set_option maxRecDepth 100000 in
theorem rollQuorum_lifted (os : Os) (started : os.Started) (H : Type) (enc : TypeId × Value → H) :
    ReturnsInHanded {} Tryd.checked os 3 .any (fun w args => (Rows.rollQuorumSpec.pre enc Tryd.prog Tryd.f3 Rows.rollQuorumRow.domain false w args ∧ laidMetH Tryd.prog Rows.rollQuorumRow.laid w) ∧ sizedMet enc Tryd.prog Tryd.f3 (OpenSpec.ofChange Rows.rollQuorumSpec) false w args)
      (Rows.rollQuorumSpec.post enc Tryd.prog Tryd.f3 false true false false) := by
  refine returnsInHanded_of_change_and (C := Tryd.checked) (X := fun w _ => laidMetH Tryd.prog [("huddle/roll.asks", Rows.laid_huddle_roll_asks)] w) (fun _ _ _ hh h => h.of_heap hh) own started (by kernel_rfl) Tryd.func3
    (ChangeSpec.witness_shaped (enc := enc) (C := Tryd.checked) (os := os) (X := fun w _ => laidMetH Tryd.prog [("huddle/roll.asks", Rows.laid_huddle_roll_asks)] w) false (World.doorLaid Tryd.prog 900 os) #[.int .i64 0, .int .i64 0, .slice none 0 0, .bool false, .int .i64 0, .int .i64 0] 8 rfl (World.shaped_of_RefB (by kernel_rfl) (by kernel_rfl)) (by kernel_rfl) (by kernel_rfl) (by kernel_rfl) (door_asks os _)) ?_
  intro W base args ds gs before hval0 hW _ _ hL _
  have hval : ∀ (j : Nat) t v, Tryd.f3.params[j]? = some t → args[j]? = some v → Value.okWide Tryd.prog W .any base t v := hval0
  have hW' := hW
  have hlt := hW.lt
  obtain ⟨p, q, hA0, hV, rfl, _, _⟩ := hW
  have hA : DataW.TrodAll enc Tryd.prog W 0 (fun _ => true) true Tryd.f3.params.toList args.toList ds p := hA0
  have hB : ∀ W', Below W.heap.size W W' → DataW.TrodAll enc Tryd.prog W' 0 (fun b => decide (b < W.heap.size)) true Tryd.f3.params.toList args.toList ds p := fun W' hb => trodAll_below laidOut hb (by rw [Tryd.params3]; decide +kernel) hA (fun x hx => hlt x (List.mem_append_left _ hx))
  rw [Tryd.params3] at hA hval
  obtain ⟨v0, vs0, d0, ds0, p0, q0, hargs, rfl, rfl, h0, r0⟩ := trodAll_cons hA
  obtain ⟨v1, vs1, d1, ds1, p1, q1, rfl, rfl, rfl, h1, r1⟩ := trodAll_cons r0
  obtain ⟨v2, vs2, d2, ds2, p2, q2, rfl, rfl, rfl, h2, r2⟩ := trodAll_cons r1
  obtain ⟨v3, vs3, d3, ds3, p3, q3, rfl, rfl, rfl, h3, r3⟩ := trodAll_cons r2
  obtain ⟨v4, vs4, d4, ds4, p4, q4, rfl, rfl, rfl, h4, r4⟩ := trodAll_cons r3
  obtain ⟨v5, vs5, d5, ds5, p5, q5, rfl, rfl, rfl, h5, r5⟩ := trodAll_cons r4
  obtain ⟨rfl, rfl, rfl⟩ := trodAll_nil r5
  obtain rfl : args = #[v0, v1, v2, v3, v4, v5] := by cases args; simp_all
  obtain ⟨rfl, rfl⟩ := trodVars_none hV
  obtain ⟨a0, rfl, e0, e0', w0⟩ := open_int Tryd.underlying3 (hval 0 3 v0 rfl rfl) h0
  have b0 := wf_i64 w0
  obtain ⟨a1, rfl, e1, e1', w1⟩ := open_int Tryd.underlying3 (hval 1 3 v1 rfl rfl) h1
  have b1 := wf_i64 w1
  obtain ⟨p2', n2, c2, xs2, rfl, hU2, hc2, hn2, hp2⟩ := open_I (hval 2 22 v2 rfl rfl) h2
  obtain ⟨a3, rfl, e3, e3'⟩ := open_bool Tryd.underlying4 (hval 3 4 v3 rfl rfl) h3
  obtain ⟨a4, rfl, e4, e4', w4⟩ := open_int Tryd.underlying3 (hval 4 3 v4 rfl rfl) h4
  have b4 := wf_i64 w4
  obtain ⟨a5, rfl, e5, e5', w5⟩ := open_int Tryd.underlying3 (hval 5 3 v5 rfl rfl) h5
  have b5 := wf_i64 w5
  simp only [List.append_nil] at hW'
  refine (quorum_any W (asks_of_laid (List.mem_singleton.2 rfl) hL) a0 a1 a4 a5 b0 b1 b4 b5 p2' n2 xs2 c2 hU2 a3).mono fun e W' ⟨he, hg⟩ => ?_
  subst he
  exact ⟨_, rfl, law_post hW' (trodAll_cons_mk (shut_bool Tryd.underlying4 _) trodAll_mk0) (hB W' hg) hg⟩
theorem rollQuorum_said : Rows.RollQuorumSaid :=
  OpenClaim.holds_of_wide 3 Tryd.f3 rfl rfl rfl rfl rfl rfl rfl ⟨rfl, rfl, rfl, rfl, rfl⟩ rfl rfl rfl rfl rfl (by kernel_rfl) Tryd.func3 (by kernel_rfl)
    (of_decide_eq_true (by kernel_rfl)) (by unfold Func.isWrapper; first | (rw [if_pos (by decide +kernel)]; kernel_rfl) | (rw [if_neg (by decide +kernel)]; exact ⟨rfl, rfl⟩))
    (fun os started H enc _ => rollQuorum_lifted os started H enc)
/-- The statement. -/
theorem rollQuorum_holds : Rows.RollQuorumCardSaid :=
  Claim7.holds_tied_plain_at .later [] [.funcs] true (true, "4b1f993ca50e3b1ffc2bb52cd0fd1af28b47ff8ce4e264e25b7a2897d97b9bf0") true
    rollQuorum_said (fun _ h => by cases h) (by kernel_rfl) (fun _ h => by cases h) rollQuorum_row_tie rfl ⟨rfl, rfl⟩ (by kernel_rfl) rfl
    (fun f fn hf hfn => by
      obtain rfl : f = 3 := Option.some.inj ((show Tryd.prog.funcNamed "huddle/huddlelaw15.RollQuorum" = some 3 by kernel_rfl).symm.trans hf) |>.symm
      obtain rfl : fn = Tryd.f3 := (Option.some.inj (Tryd.func3.symm.trans hfn)).symm
      exact ⟨by kernel_rfl, fun j t ht => by
        rw [Tryd.params3] at ht
        have hall : (Tryd.f3.params.toList.all fun u => !Tryd.prog.wantsStandIn u) = true := by kernel_rfl
        rw [Tryd.params3] at hall
        have hm := Array.mem_of_getElem? ht
        exact (show Tryd.prog.wantsStandIn t = false by simpa using List.all_eq_true.1 hall t (by simpa using hm))⟩)
    (by kernel_rfl)
end Go.Proofs.YtkolilbebkkpdaaDoor
