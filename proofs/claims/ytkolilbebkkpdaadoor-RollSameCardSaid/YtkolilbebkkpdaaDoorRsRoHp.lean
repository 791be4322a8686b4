/-
  The statement RollSame, for every input: the law returns true and leaves its arguments as they were, where the listed tables hold what the program's text lays.
-/
import Derived.Test.YtkolilbebkkpdaaDoorRmF
import Derived.Test.YtkolilbebkkpdaaDoorRsRoHo
import Derived.Test.YtkolilbebkkpdaaDoorCards
namespace Go.Proofs.YtkolilbebkkpdaaDoor
open Go.ChangeShapes Go.WideShapes Go.ChangeAt Go.RowKit

set_option maxRecDepth 100000 in
theorem rollSame_lifted (os : Os) (started : os.Started) (H : Type) (enc : TypeId × Value → H) :
  ReturnsInHanded {} Tryd.checked os 9 .any (fun w args => (Rows.rollSameSpec.pre enc Tryd.prog Tryd.f9 Rows.rollSameRow.domain false w args ∧ laidMetH Tryd.prog Rows.rollSameRow.laid w) ∧ sizedMet enc Tryd.prog Tryd.f9 (OpenSpec.ofChange Rows.rollSameSpec) false w args)
   (Rows.rollSameSpec.post enc Tryd.prog Tryd.f9 false true false false) := by
 refine returnsInHanded_of_change_and (C := Tryd.checked) (X := (fun w _ => laidMetH Tryd.prog [("huddle/roll.asks", Rows.laid_huddle_roll_asks)] w)) (fun _ _ _ hh h => h.of_heap hh) own started (by kernel_rfl) Tryd.func9
  (ChangeSpec.witness_shaped (enc := enc) (C := Tryd.checked) (os := os) (X := (fun w _ => laidMetH Tryd.prog [("huddle/roll.asks", Rows.laid_huddle_roll_asks)] w)) false (World.doorLaid Tryd.prog 900 os) #[.slice none 0 0, .slice none 0 0, .bool false] 8 rfl (World.shaped_of_RefB (by kernel_rfl) (by kernel_rfl)) (by kernel_rfl) (by kernel_rfl) (by kernel_rfl) (door_asks os _)) ?_
 intro W base args ds gs before hval0 hW _ _ hL _
 have hval : ∀ (j : Nat) t v, Tryd.f9.params[j]? = some t → args[j]? = some v → Value.okWide Tryd.prog W .any base t v := hval0
 have hW' := hW
 have hlt := hW.lt
 obtain ⟨p, q, hA0, hV, rfl, _, _⟩ := hW
 have hA : DataW.TrodAll enc Tryd.prog W 0 (fun _ => true) true Tryd.f9.params.toList args.toList ds p := hA0
 have hB : ∀ W', Below W.heap.size W W' → DataW.TrodAll enc Tryd.prog W' 0 (fun b => decide (b < W.heap.size)) true Tryd.f9.params.toList args.toList ds p := fun W' hb => trodAll_below laidOut hb (by rw [Tryd.params9]; decide +kernel) hA (fun x hx => hlt x (List.mem_append_left _ hx))
 rw [Tryd.params9] at hA hval
 obtain ⟨v0, vs0, d0, ds0, p0, q0, hargs, rfl, rfl, h0, r0⟩ := trodAll_cons hA
 obtain ⟨v1, vs1, d1, ds1, p1, q1, rfl, rfl, rfl, h1, r1⟩ := trodAll_cons r0
 obtain ⟨v2, vs2, d2, ds2, p2, q2, rfl, rfl, rfl, h2, r2⟩ := trodAll_cons r1
 obtain ⟨rfl, rfl, rfl⟩ := trodAll_nil r2
 obtain rfl : args = #[v0, v1, v2] := by cases args; simp_all
 obtain ⟨rfl, rfl⟩ := trodVars_none hV
 obtain ⟨p0', n0, c0, xs0, rfl, hU0, hc0, hn0, hp0⟩ := open_I (hval 0 22 v0 rfl rfl) h0
 obtain ⟨p1', n1, c1, xs1, rfl, hU1, hc1, hn1, hp1⟩ := open_I (hval 1 22 v1 rfl rfl) h1
 obtain ⟨a2, rfl, e2, e2'⟩ := open_bool Tryd.underlying4 (hval 2 4 v2 rfl rfl) h2
 simp only [List.append_nil] at hW'
 refine (sameLaw_any W (asks_of_laid (by exact List.mem_cons_self ..) hL) p0' n0 xs0 c0 hU0 hc0 p1' n1 xs1 c1 hU1 hc1 hn1 a2).mono fun e W' ⟨he, hg⟩ => ?_
 subst he
 exact ⟨_, rfl, law_post hW' (trodAll_cons_mk (shut_bool Tryd.underlying4 _) trodAll_mk0) (hB W' hg) hg⟩
theorem rollSame_said : Rows.RollSameSaid :=
 OpenClaim.holds_of_wide 9 Tryd.f9 rfl rfl rfl rfl rfl rfl rfl ⟨rfl, rfl, rfl, rfl, rfl⟩ rfl rfl rfl rfl rfl (by kernel_rfl) Tryd.func9 (by kernel_rfl)
  (of_decide_eq_true (by kernel_rfl)) (by unfold Func.isWrapper; first | (rw [if_pos (by decide +kernel)]; kernel_rfl) | (rw [if_neg (by decide +kernel)]; exact ⟨rfl, rfl⟩))
  (fun os started H enc _ => rollSame_lifted os started H enc)
/-- The statement. -/
theorem rollSame_holds : Rows.RollSameCardSaid :=
 Claim7.holds_tied_plain_at .later [] [.funcs] true (true, "4b1f993ca50e3b1ffc2bb52cd0fd1af28b47ff8ce4e264e25b7a2897d97b9bf0") true
  rollSame_said (fun _ h => by cases h) (by kernel_rfl) (fun _ h => by cases h) rollSame_row_tie rfl ⟨rfl, rfl⟩ (by kernel_rfl) rfl
  (fun f fn hf hfn => by
   obtain rfl : f = 9 := Option.some.inj ((show Tryd.prog.funcNamed "huddle/huddlelaw15.RollSame" = some 9 by kernel_rfl).symm.trans hf) |>.symm
   obtain rfl : fn = Tryd.f9 := (Option.some.inj (Tryd.func9.symm.trans hfn)).symm
   exact ⟨by kernel_rfl, fun j t ht => by
    rw [Tryd.params9] at ht
    have hall : (Tryd.f9.params.toList.all fun u => !Tryd.prog.wantsStandIn u) = true := by kernel_rfl
    rw [Tryd.params9] at hall
    have hm := Array.mem_of_getElem? ht
    exact (show Tryd.prog.wantsStandIn t = false by simpa using List.all_eq_true.1 hall t (by simpa using hm))⟩)
  (by kernel_rfl)
end Go.Proofs.YtkolilbebkkpdaaDoor

