/-
  Statements on shares (3), for every input: each law returns true and leaves its arguments as they were.
-/
import Derived.Test.YtpngkdhfjginlaaOpenI
import Derived.Test.YtpngkdhfjginlaaShLawD
namespace Go.Proofs.Ytpngkdhfjginlaa
open Go.ChangeShapes Go.WideShapes Go.ChangeAt Go.RowKit

theorem enough_walk2 (s : Int) (p : Option Addr) (m : Nat) (xs : List Int) (c : Nat) (q : Option Addr) (g : Nat) (ats : List Int) (d : Nat) (more : Int) (w : World) (hs0 : 0 ≤ s) (hs1 : s < 18446744073709551616) (hU : U w p m xs) (hc : m ≤ c) (hm : m ≤ 9223372036854775807) (hp : p = none → c = 0)
    (hI : UI w q g ats) (_ : g ≤ d) (hg : g ≤ 9223372036854775807) (_ : q = none → d = 0) (hn0 : -9223372036854775808 ≤ more) (hn1 : more ≤ 9223372036854775807) :
    Calls Try.prog 5 #[.int .u64 s, .slice p m c, .slice q g d, .int .i64 more] w fun e w' => e = .returned (.bool true) ∧ Below w.heap.size w w' :=
  enough_walk s p m xs c q g ats d more w hs0 hs1 hU hc hm hp hI hg hn0 hn1
theorem row_walk2 (s : Int) (p : Option Addr) (m : Nat) (xs : List Int) (c : Nat) (q : Option Addr) (g : Nat) (ats : List Int) (d : Nat) (x : Int) (w : World) (hs0 : 0 ≤ s) (hs1 : s < 18446744073709551616) (hU : U w p m xs) (hc : m ≤ c) (hm : m ≤ 9223372036854775807) (hp : p = none → c = 0)
    (hI : UI w q g ats) (_ : g ≤ d) (hg : g ≤ 9223372036854775807) (_ : q = none → d = 0) (hx0 : 0 ≤ x) (hx1 : x < 18446744073709551616) :
    Calls Try.prog 7 #[.int .u64 s, .slice p m c, .slice q g d, .int .u64 x] w fun e w' => e = .returned (.bool true) ∧ Below w.heap.size w w' :=
  row_walk s p m xs c q g ats d x w hs0 hs1 hU hc hm hp hI hg hx0 hx1

set_option maxRecDepth 100000 in
theorem shareEnough_lifted (os : Os) (started : os.Started) (H : Type) (enc : TypeId × Value → H) :
    ReturnsInHanded {} Try.checked os 5 .any (Rows.shareEnoughSpec.pre6 enc Try.prog Try.f5 Rows.shareEnoughRow.domain false) (Rows.shareEnoughSpec.post enc Try.prog Try.f5 false true false false) := by
  refine returnsInHanded_of_change (C := Try.checked) own started (by kernel_rfl) Try.func5
    (ChangeSpec.witness6 (enc := enc) (C := Try.checked) false ⟨#[], #[.int .u64 0, .slice none 0 0, .slice none 0 0, .int .i64 0], []⟩ 8 (by kernel_rfl) (by kernel_rfl) (by kernel_rfl) (by kernel_rfl)) ?_
  intro W base args ds gs before hval0 hW _ _
  have hval : ∀ (j : Nat) t v, Try.f5.params[j]? = some t → args[j]? = some v → Value.okWide Try.prog W .any base t v := hval0
  have hW' := hW
  have hlt := hW.lt
  obtain ⟨p, q, hA0, hV, rfl, _, _⟩ := hW
  have hA : DataW.TrodAll enc Try.prog W 0 (fun _ => true) true Try.f5.params.toList args.toList ds p := hA0
  have hB : ∀ W', Below W.heap.size W W' → DataW.TrodAll enc Try.prog W' 0 (fun b => decide (b < W.heap.size)) true Try.f5.params.toList args.toList ds p := fun W' hb => trodAll_below laidOut hb (by rw [Try.params5]; decide +kernel) hA (fun x hx => hlt x (List.mem_append_left _ hx))
  rw [Try.params5] at hA hval
  obtain ⟨v0, vs0, d0, ds0, p0, q0, hargs, rfl, rfl, h0, r0⟩ := trodAll_cons hA
  obtain ⟨v1, vs1, d1, ds1, p1, q1, rfl, rfl, rfl, h1, r1⟩ := trodAll_cons r0
  obtain ⟨v2, vs2, d2, ds2, p2, q2, rfl, rfl, rfl, h2, r2⟩ := trodAll_cons r1
  obtain ⟨v3, vs3, d3, ds3, p3, q3, rfl, rfl, rfl, h3, r3⟩ := trodAll_cons r2
  obtain ⟨rfl, rfl, rfl⟩ := trodAll_nil r3
  obtain rfl : args = #[v0, v1, v2, v3] := by cases args; simp_all
  obtain ⟨rfl, rfl⟩ := trodVars_none hV
  obtain ⟨a0, rfl, e0, e0', w0⟩ := open_int Try.underlying22 (hval 0 22 v0 rfl rfl) h0
  have b0 := wf_u64 w0
  obtain ⟨p1', n1, c1, xs1, rfl, hU1, hc1, hn1, hp1⟩ := open_U (hval 1 23 v1 rfl rfl) h1
  obtain ⟨p2', n2, c2, xs2, rfl, hU2, hc2, hn2, hp2⟩ := open_I (hval 2 31 v2 rfl rfl) h2
  obtain ⟨a3, rfl, e3, e3', w3⟩ := open_int Try.underlying3 (hval 3 3 v3 rfl rfl) h3
  have b3 := wf_i64 w3
  simp only [List.append_nil] at hW'
  refine (enough_walk2 a0 p1' n1 xs1 c1 p2' n2 xs2 c2 a3 W b0.1 b0.2 hU1 hc1 hn1 hp1 hU2 hc2 hn2 hp2 b3.1 b3.2).mono fun e W' ⟨he, hg⟩ => ?_
  subst he
  exact ⟨_, rfl, law_post hW' (trodAll_cons_mk (shut_bool Try.underlying4 _) trodAll_mk0) (hB W' hg) hg⟩

/-- The statement ShareEnough. -/
theorem shareEnough_holds : Rows.ShareEnoughSaid :=
  OpenClaim.holds_of_wide 5 Try.f5 rfl rfl rfl rfl rfl rfl rfl ⟨rfl, rfl, rfl, rfl, rfl⟩ rfl rfl rfl rfl rfl (by kernel_rfl) Try.func5 (by kernel_rfl)
    (of_decide_eq_true (by kernel_rfl)) (by unfold Func.isWrapper; first | (rw [if_pos (by decide +kernel)]; kernel_rfl) | (rw [if_neg (by decide +kernel)]; exact ⟨rfl, rfl⟩))
    (fun os started H enc _ => shareEnough_lifted os started H enc)

set_option maxRecDepth 100000 in
theorem shareRow_lifted (os : Os) (started : os.Started) (H : Type) (enc : TypeId × Value → H) :
    ReturnsInHanded {} Try.checked os 7 .any (Rows.shareRowSpec.pre6 enc Try.prog Try.f7 Rows.shareRowRow.domain false) (Rows.shareRowSpec.post enc Try.prog Try.f7 false true false false) := by
  refine returnsInHanded_of_change (C := Try.checked) own started (by kernel_rfl) Try.func7
    (ChangeSpec.witness6 (enc := enc) (C := Try.checked) false ⟨#[], #[.int .u64 0, .slice none 0 0, .slice none 0 0, .int .u64 0], []⟩ 8 (by kernel_rfl) (by kernel_rfl) (by kernel_rfl) (by kernel_rfl)) ?_
  intro W base args ds gs before hval0 hW _ _
  have hval : ∀ (j : Nat) t v, Try.f7.params[j]? = some t → args[j]? = some v → Value.okWide Try.prog W .any base t v := hval0
  have hW' := hW
  have hlt := hW.lt
  obtain ⟨p, q, hA0, hV, rfl, _, _⟩ := hW
  have hA : DataW.TrodAll enc Try.prog W 0 (fun _ => true) true Try.f7.params.toList args.toList ds p := hA0
  have hB : ∀ W', Below W.heap.size W W' → DataW.TrodAll enc Try.prog W' 0 (fun b => decide (b < W.heap.size)) true Try.f7.params.toList args.toList ds p := fun W' hb => trodAll_below laidOut hb (by rw [Try.params7]; decide +kernel) hA (fun x hx => hlt x (List.mem_append_left _ hx))
  rw [Try.params7] at hA hval
  obtain ⟨v0, vs0, d0, ds0, p0, q0, hargs, rfl, rfl, h0, r0⟩ := trodAll_cons hA
  obtain ⟨v1, vs1, d1, ds1, p1, q1, rfl, rfl, rfl, h1, r1⟩ := trodAll_cons r0
  obtain ⟨v2, vs2, d2, ds2, p2, q2, rfl, rfl, rfl, h2, r2⟩ := trodAll_cons r1
  obtain ⟨v3, vs3, d3, ds3, p3, q3, rfl, rfl, rfl, h3, r3⟩ := trodAll_cons r2
  obtain ⟨rfl, rfl, rfl⟩ := trodAll_nil r3
  obtain rfl : args = #[v0, v1, v2, v3] := by cases args; simp_all
  obtain ⟨rfl, rfl⟩ := trodVars_none hV
  obtain ⟨a0, rfl, e0, e0', w0⟩ := open_int Try.underlying22 (hval 0 22 v0 rfl rfl) h0
  have b0 := wf_u64 w0
  obtain ⟨p1', n1, c1, xs1, rfl, hU1, hc1, hn1, hp1⟩ := open_U (hval 1 23 v1 rfl rfl) h1
  obtain ⟨p2', n2, c2, xs2, rfl, hU2, hc2, hn2, hp2⟩ := open_I (hval 2 31 v2 rfl rfl) h2
  obtain ⟨a3, rfl, e3, e3', w3⟩ := open_int Try.underlying22 (hval 3 22 v3 rfl rfl) h3
  have b3 := wf_u64 w3
  simp only [List.append_nil] at hW'
  refine (row_walk2 a0 p1' n1 xs1 c1 p2' n2 xs2 c2 a3 W b0.1 b0.2 hU1 hc1 hn1 hp1 hU2 hc2 hn2 hp2 b3.1 b3.2).mono fun e W' ⟨he, hg⟩ => ?_
  subst he
  exact ⟨_, rfl, law_post hW' (trodAll_cons_mk (shut_bool Try.underlying4 _) trodAll_mk0) (hB W' hg) hg⟩

/-- The statement ShareRow. -/
theorem shareRow_holds : Rows.ShareRowSaid :=
  OpenClaim.holds_of_wide 7 Try.f7 rfl rfl rfl rfl rfl rfl rfl ⟨rfl, rfl, rfl, rfl, rfl⟩ rfl rfl rfl rfl rfl (by kernel_rfl) Try.func7 (by kernel_rfl)
    (of_decide_eq_true (by kernel_rfl)) (by unfold Func.isWrapper; first | (rw [if_pos (by decide +kernel)]; kernel_rfl) | (rw [if_neg (by decide +kernel)]; exact ⟨rfl, rfl⟩))
    (fun os started H enc _ => shareRow_lifted os started H enc)

end Go.Proofs.Ytpngkdhfjginlaa
