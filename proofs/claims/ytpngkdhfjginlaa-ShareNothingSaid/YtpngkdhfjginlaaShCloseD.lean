/-
  Statements on shares (4), for every input: each law returns true and leaves its arguments as they were.
-/
import Derived.Test.YtpngkdhfjginlaaOpenI
import Derived.Test.YtpngkdhfjginlaaOpenL
import Derived.Test.YtpngkdhfjginlaaShLawF
namespace Go.Proofs.Ytpngkdhfjginlaa
open Go.ChangeShapes Go.WideShapes Go.ChangeAt Go.RowKit

theorem nothing_walk2 (s o : Int) (p : Option Addr) (m : Nat) (xs : List Int) (c : Nat) (q : Option Addr) (g : Nat) (ats : List Int) (d : Nat) (w : World) (hs0 : 0 ≤ s) (hs1 : s < 18446744073709551616) (ho0 : 0 ≤ o) (ho1 : o < 18446744073709551616) (hU : U w p m xs) (hc : m ≤ c) (hm : m ≤ 9223372036854775807) (hp : p = none → c = 0)
    (hI : UI w q g ats) (_ : g ≤ d) (hg : g ≤ 9223372036854775807) (_ : q = none → d = 0) :
    Calls Try.prog 6 #[.int .u64 s, .int .u64 o, .slice p m c, .slice q g d] w fun e w' => e = .returned (.bool true) ∧ Below w.heap.size w w' :=
  nothing_walk s o p m xs c q g ats d w hs0 hs1 ho0 ho1 hU hc hm hp hI hg
theorem tells_walk2 (p : Option Addr) (n : Nat) (l : List (Int × Int)) (c : Nat) (x : Int) (q : Option Addr) (g : Nat) (ps : List Int) (d : Nat) (r : Option Addr) (hh : Nat) (vs : List Int) (f : Nat) (w : World) (hL : Sh w p n l) (hnc : n ≤ c) (hn : n ≤ 9223372036854775807) (hp : p = none → c = 0) (hx0 : 0 ≤ x) (hx1 : x < 18446744073709551616)
    (hI : UI w q g ps) (_ : g ≤ d) (hg : g ≤ 9223372036854775807) (_ : q = none → d = 0) (hV : U w r hh vs) (_ : hh ≤ f) (hhm : hh ≤ 9223372036854775807) (_ : r = none → f = 0) :
    Calls Try.prog 4 #[.slice p n c, .int .u64 x, .slice q g d, .slice r hh f] w fun e w' => e = .returned (.bool true) ∧ Below w.heap.size w w' :=
  tells_walk p n l c x q g ps d r hh vs f w hL hp hn hnc hx0 hx1 hI hg hV hhm

set_option maxRecDepth 100000 in
theorem shareNothing_lifted (os : Os) (started : os.Started) (H : Type) (enc : TypeId × Value → H) :
    ReturnsInHanded {} Try.checked os 6 .any (Rows.shareNothingSpec.pre6 enc Try.prog Try.f6 Rows.shareNothingRow.domain false) (Rows.shareNothingSpec.post enc Try.prog Try.f6 false true false false) := by
  refine returnsInHanded_of_change (C := Try.checked) own started (by kernel_rfl) Try.func6
    (ChangeSpec.witness6 (enc := enc) (C := Try.checked) false ⟨#[], #[.int .u64 0, .int .u64 0, .slice none 0 0, .slice none 0 0], []⟩ 8 (by kernel_rfl) (by kernel_rfl) (by kernel_rfl) (by kernel_rfl)) ?_
  intro W base args ds gs before hval0 hW _ _
  have hval : ∀ (j : Nat) t v, Try.f6.params[j]? = some t → args[j]? = some v → Value.okWide Try.prog W .any base t v := hval0
  have hW' := hW
  have hlt := hW.lt
  obtain ⟨p, q, hA0, hV, rfl, _, _⟩ := hW
  have hA : DataW.TrodAll enc Try.prog W 0 (fun _ => true) true Try.f6.params.toList args.toList ds p := hA0
  have hB : ∀ W', Below W.heap.size W W' → DataW.TrodAll enc Try.prog W' 0 (fun b => decide (b < W.heap.size)) true Try.f6.params.toList args.toList ds p := fun W' hb => trodAll_below laidOut hb (by rw [Try.params6]; decide +kernel) hA (fun x hx => hlt x (List.mem_append_left _ hx))
  rw [Try.params6] at hA hval
  obtain ⟨v0, vs0, d0, ds0, p0, q0, hargs, rfl, rfl, h0, r0⟩ := trodAll_cons hA
  obtain ⟨v1, vs1, d1, ds1, p1, q1, rfl, rfl, rfl, h1, r1⟩ := trodAll_cons r0
  obtain ⟨v2, vs2, d2, ds2, p2, q2, rfl, rfl, rfl, h2, r2⟩ := trodAll_cons r1
  obtain ⟨v3, vs3, d3, ds3, p3, q3, rfl, rfl, rfl, h3, r3⟩ := trodAll_cons r2
  obtain ⟨rfl, rfl, rfl⟩ := trodAll_nil r3
  obtain rfl : args = #[v0, v1, v2, v3] := by cases args; simp_all
  obtain ⟨rfl, rfl⟩ := trodVars_none hV
  obtain ⟨a0, rfl, e0, e0', w0⟩ := open_int Try.underlying22 (hval 0 22 v0 rfl rfl) h0
  have b0 := wf_u64 w0
  obtain ⟨a1, rfl, e1, e1', w1⟩ := open_int Try.underlying22 (hval 1 22 v1 rfl rfl) h1
  have b1 := wf_u64 w1
  obtain ⟨p2', n2, c2, xs2, rfl, hU2, hc2, hn2, hp2⟩ := open_U (hval 2 23 v2 rfl rfl) h2
  obtain ⟨p3', n3, c3, xs3, rfl, hU3, hc3, hn3, hp3⟩ := open_I (hval 3 31 v3 rfl rfl) h3
  simp only [List.append_nil] at hW'
  refine (nothing_walk2 a0 a1 p2' n2 xs2 c2 p3' n3 xs3 c3 W b0.1 b0.2 b1.1 b1.2 hU2 hc2 hn2 hp2 hU3 hc3 hn3 hp3).mono fun e W' ⟨he, hg⟩ => ?_
  subst he
  exact ⟨_, rfl, law_post hW' (trodAll_cons_mk (shut_bool Try.underlying4 _) trodAll_mk0) (hB W' hg) hg⟩

/-- The statement ShareNothing. -/
theorem shareNothing_holds : Rows.ShareNothingSaid :=
  OpenClaim.holds_of_wide 6 Try.f6 rfl rfl rfl rfl rfl rfl rfl ⟨rfl, rfl, rfl, rfl, rfl⟩ rfl rfl rfl rfl rfl (by kernel_rfl) Try.func6 (by kernel_rfl)
    (of_decide_eq_true (by kernel_rfl)) (by unfold Func.isWrapper; first | (rw [if_pos (by decide +kernel)]; kernel_rfl) | (rw [if_neg (by decide +kernel)]; exact ⟨rfl, rfl⟩))
    (fun os started H enc _ => shareNothing_lifted os started H enc)

set_option maxRecDepth 100000 in
theorem shareTells_lifted (os : Os) (started : os.Started) (H : Type) (enc : TypeId × Value → H) :
    ReturnsInHanded {} Try.checked os 4 .any (Rows.shareTellsSpec.pre6 enc Try.prog Try.f4 Rows.shareTellsRow.domain false) (Rows.shareTellsSpec.post enc Try.prog Try.f4 false true false false) := by
  refine returnsInHanded_of_change (C := Try.checked) own started (by kernel_rfl) Try.func4
    (ChangeSpec.witness6 (enc := enc) (C := Try.checked) false ⟨#[], #[.slice none 0 0, .int .u64 0, .slice none 0 0, .slice none 0 0], []⟩ 8 (by kernel_rfl) (by kernel_rfl) (by kernel_rfl) (by kernel_rfl)) ?_
  intro W base args ds gs before hval0 hW _ _
  have hval : ∀ (j : Nat) t v, Try.f4.params[j]? = some t → args[j]? = some v → Value.okWide Try.prog W .any base t v := hval0
  have hW' := hW
  have hlt := hW.lt
  obtain ⟨p, q, hA0, hV, rfl, _, _⟩ := hW
  have hA : DataW.TrodAll enc Try.prog W 0 (fun _ => true) true Try.f4.params.toList args.toList ds p := hA0
  have hB : ∀ W', Below W.heap.size W W' → DataW.TrodAll enc Try.prog W' 0 (fun b => decide (b < W.heap.size)) true Try.f4.params.toList args.toList ds p := fun W' hb => trodAll_below laidOut hb (by rw [Try.params4]; decide +kernel) hA (fun x hx => hlt x (List.mem_append_left _ hx))
  rw [Try.params4] at hA hval
  obtain ⟨v0, vs0, d0, ds0, p0, q0, hargs, rfl, rfl, h0, r0⟩ := trodAll_cons hA
  obtain ⟨v1, vs1, d1, ds1, p1, q1, rfl, rfl, rfl, h1, r1⟩ := trodAll_cons r0
  obtain ⟨v2, vs2, d2, ds2, p2, q2, rfl, rfl, rfl, h2, r2⟩ := trodAll_cons r1
  obtain ⟨v3, vs3, d3, ds3, p3, q3, rfl, rfl, rfl, h3, r3⟩ := trodAll_cons r2
  obtain ⟨rfl, rfl, rfl⟩ := trodAll_nil r3
  obtain rfl : args = #[v0, v1, v2, v3] := by cases args; simp_all
  obtain ⟨rfl, rfl⟩ := trodVars_none hV
  obtain ⟨p0', n0, c0, xs0, rfl, hU0, hc0, hn0, hp0⟩ := open_S (hval 0 27 v0 rfl rfl) h0
  obtain ⟨a1, rfl, e1, e1', w1⟩ := open_int Try.underlying22 (hval 1 22 v1 rfl rfl) h1
  have b1 := wf_u64 w1
  obtain ⟨p2', n2, c2, xs2, rfl, hU2, hc2, hn2, hp2⟩ := open_I (hval 2 31 v2 rfl rfl) h2
  obtain ⟨p3', n3, c3, xs3, rfl, hU3, hc3, hn3, hp3⟩ := open_U (hval 3 23 v3 rfl rfl) h3
  simp only [List.append_nil] at hW'
  refine (tells_walk2 p0' n0 xs0 c0 a1 p2' n2 xs2 c2 p3' n3 xs3 c3 W hU0 hc0 hn0 hp0 b1.1 b1.2 hU2 hc2 hn2 hp2 hU3 hc3 hn3 hp3).mono fun e W' ⟨he, hg⟩ => ?_
  subst he
  exact ⟨_, rfl, law_post hW' (trodAll_cons_mk (shut_bool Try.underlying4 _) trodAll_mk0) (hB W' hg) hg⟩

/-- The statement ShareTells. -/
theorem shareTells_holds : Rows.ShareTellsSaid :=
  OpenClaim.holds_of_wide 4 Try.f4 rfl rfl rfl rfl rfl rfl rfl ⟨rfl, rfl, rfl, rfl, rfl⟩ rfl rfl rfl rfl rfl (by kernel_rfl) Try.func4 (by kernel_rfl)
    (of_decide_eq_true (by kernel_rfl)) (by unfold Func.isWrapper; first | (rw [if_pos (by decide +kernel)]; kernel_rfl) | (rw [if_neg (by decide +kernel)]; exact ⟨rfl, rfl⟩))
    (fun os started H enc _ => shareTells_lifted os started H enc)

end Go.Proofs.Ytpngkdhfjginlaa
