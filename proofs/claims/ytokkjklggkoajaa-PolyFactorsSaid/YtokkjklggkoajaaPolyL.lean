/-
  The document's examples of layer 5.
-/
import Derived.Test.YtokkjklggkoajaaPolyK
import Derived.Test.YtokkjklggkoajaaNums
namespace Go.Proofs.Ytokkjklggkoajaa
open Go.RowKit
attribute [local go_sem] T_V

def lifeP : Pol := Pol.prodL ([1, 2].map T)
theorem lifeP_l : lifeP.l.map V = [2, 2305843009213693948, 1] := by decide +kernel
theorem lifeP_len : lifeP.len = 3 := by decide +kernel
theorem lifeP_ne : lifeP ≠ 0 := Pol.prodL_ne _
theorem life_roots {rs : List F} (h : RootsOk lifeP rs) : rs.map V = [1, 2] := by
  have e : rs = [T 1, T 2] := h.1.same (by unfold Rise; decide +kernel) fun x => by
    rw [h.2.2 lifeP_ne]
    exact Pol.at_prodL x _
  rw [e]; decide +kernel
theorem life_from {fs : List F} (h : FromOk ([0, 1].map T) ([5, 7].map T) fs) : fs.map V = [5, 2] := by
  have e : fs = [T 5, T 2] := h.same ⟨fun h => absurd (by decide +kernel) h, fun _ => by decide +kernel, fun _ => by decide +kernel, fun _ i hi => by
    have : i = 0 ∨ i = 1 := by simp at hi; omega
    rcases this with rfl | rfl <;> decide +kernel⟩
  rw [e]; decide +kernel
theorem life_ev : V (ev ([2, 2305843009213693948, 1].map T) (T 5)) = 12 := by decide +kernel
theorem U_lit (w : World) (t : TypeId) (xs : List Int) (vs : Array Value) (n : Nat) (hv : vs = (xs.map (Value.int .u64)).toArray) (hn : xs.length = n) (hx : ∀ x ∈ xs, 0 ≤ x ∧ x < 18446744073709551616) : U (w.alloc (.cells vs t)) (some ⟨w.heap.size, 0, none⟩) n xs :=
  ⟨hn, by rw [hv]; exact (Arr.new w t _).rd, hx⟩
theorem Below.lit (w : World) (o : Obj) : Below w.heap.size w (w.alloc o) := (Below.refl _ _).alloc (Nat.le_refl _) _

set_option maxRecDepth 100000 in
set_option maxHeartbeats 1000000 in
theorem lives5 (w : World) : Calls Try.prog 22 #[] w fun e w' => e = .returned (.bool true) ∧ Below w.heap.size w w' := by
  have hS0 := U_lit w 23 [1, 2] #[.int .u64 1, .int .u64 2] 2 rfl rfl (by decide)
  have hb0 := Below.lit w (.cells #[.int .u64 1, .int .u64 2] 23)
  go_enter Try.func22, Try.ntmps22
  go_wp2_with fail
  refine (Of_any _ 2 [1, 2] 2 _ hS0 (by omega)).mono ?_
  rintro e w1 ⟨v, rfl, hv, hb1⟩
  change Ps w1 v lifeP at hv
  obtain ⟨p1, c1, rfl, hc1, hU1⟩ := hv
  rw [lifeP_l] at hU1
  rw [lifeP_len] at hU1 hc1 ⊢
  have hb01 := hb0.trans (hb1.mono hb0.size)
  clear hS0 hb0 hb1
  have hS1 := U_lit w1 23 [2, 2305843009213693948, 1] #[.int .u64 2, .int .u64 2305843009213693948, .int .u64 1] 3 rfl rfl (by decide)
  have hl1 := Below.lit w1 (.cells #[.int .u64 2, .int .u64 2305843009213693948, .int .u64 1] 23)
  go_wp2_with fail
  refine (SameNums_yes _ _ 3 _ c1 3 _ (hU1.below hl1) hS1 (by omega)).mono ?_
  rintro e w2 ⟨rfl, hb2⟩
  have hb12 := hl1.trans (hb2.mono hl1.size)
  have hU2 := hU1.below hb12
  clear hS1 hl1 hb2
  go_wp2_with fail
  refine (Roots_any p1 3 _ c1 _ hU2 (by omega)).mono ?_
  rintro e w3 ⟨v, rs, rfl, ⟨p3, n3, c3, rfl, hc3, hU3⟩, ⟨hrs, _⟩, hb3⟩
  have hr : Hid (rs.map V = [1, 2]) := Lib.hid (life_roots (by rw [← pol_V lifeP, lifeP_l]; exact hrs))
  clear hrs
  have hn3 : n3 = 2 := by have := hU3.len; rw [hr.out] at this; simpa using this.symm
  subst hn3
  rw [hr.out] at hU3
  have hS3 := U_lit w3 23 [1, 2] #[.int .u64 1, .int .u64 2] 2 rfl rfl (by decide)
  have hl3 := Below.lit w3 (.cells #[.int .u64 1, .int .u64 2] 23)
  go_wp2_with fail
  refine (SameNums_yes _ _ 2 _ c3 2 _ (hU3.below hl3) hS3 (by omega)).mono ?_
  rintro e w4 ⟨rfl, hb4⟩
  have hb34 := hl3.trans (hb4.mono hl3.size)
  have hb14 := hb12.trans ((hb3.trans (hb34.mono hb3.size)).mono hb12.size)
  have hU4 := hU1.below hb14
  clear hS3 hl3 hb4 hU3 hU2
  have hx1 := U_lit w4 23 [0, 1] #[.int .u64 0, .int .u64 1] 2 rfl rfl (by decide)
  have hx2 := U_lit (w4.alloc (.cells #[.int .u64 0, .int .u64 1] 23)) 23 [5, 7] #[.int .u64 5, .int .u64 7] 2 rfl rfl (by decide)
  have hl4 := Below.lit w4 (.cells #[.int .u64 0, .int .u64 1] 23)
  have hl5 := Below.lit (w4.alloc (.cells #[.int .u64 0, .int .u64 1] 23)) (.cells #[.int .u64 5, .int .u64 7] 23)
  have hl45 := hl4.trans (hl5.mono hl4.size)
  have hx1' := hx1.below hl5
  have hs5 : (w4.alloc (.cells #[.int .u64 0, .int .u64 1] 23)).heap.size = w4.heap.size + 1 := by simp
  rw [hs5] at hx2
  clear hs5 hx1 hl4 hl5
  go_wp2_with fail
  refine (From_any _ _ 2 [0, 1] [5, 7] 2 2 _ hx1' hx2 (by omega)).mono ?_
  rintro e w6 ⟨v, rfl, ⟨fs, ⟨p6, n6, c6, rfl, hc6, hU6⟩, hok⟩, hb6⟩
  have hr6 : Hid (fs.map V = [5, 2]) := Lib.hid (life_from hok)
  clear hok
  have hn6 : n6 = 2 := by have := hU6.len; rw [hr6.out] at this; simpa using this.symm
  subst hn6
  rw [hr6.out] at hU6
  have hb46 := hl45.trans (hb6.mono hl45.size)
  have hS6 := U_lit w6 23 [5, 2] #[.int .u64 5, .int .u64 2] 2 rfl rfl (by decide)
  have hl6 := Below.lit w6 (.cells #[.int .u64 5, .int .u64 2] 23)
  clear hx1' hx2 hl45 hb6
  go_wp2_with fail
  refine (SameNums_yes _ _ 2 _ c6 2 _ (hU6.below hl6) hS6 (by omega)).mono ?_
  rintro e w7 ⟨rfl, hb7⟩
  have hb67 := hl6.trans (hb7.mono hl6.size)
  have hb17 := hb14.trans ((hb46.trans (hb67.mono hb46.size)).mono hb14.size)
  have hU7 := hU1.below hb17
  clear hS6 hl6 hb7 hU6
  go_wp2_with fail
  refine (Eval_any p1 3 _ c1 5 _ hU7 (by omega) (by omega) (by omega)).mono ?_
  rintro e w8 ⟨rfl, hb8⟩
  rw [life_ev]
  go_wp2_with fail
  go_ret
  exact ⟨rfl, hb01.trans ((hb17.trans (hb8.mono hb17.size)).mono hb01.size)⟩
end Go.Proofs.Ytokkjklggkoajaa
