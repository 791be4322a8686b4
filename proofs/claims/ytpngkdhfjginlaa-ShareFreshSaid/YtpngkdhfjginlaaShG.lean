/-
  Shares (7): two shares together.
-/
import Derived.Test.YtpngkdhfjginlaaShF
import Derived.StillTail
import Derived.Laws.ResultCell
namespace Go.Proofs.Ytpngkdhfjginlaa
open Go.RowKit
attribute [local go_sem] T_V

/-- A share as a value. -/
abbrev shV (s : Int × Int) : Value := .agg #[.int .u64 s.1, .int .u64 s.2]
/-- What two shares together are. -/
def addS (s t : Int × Int) : Int × Int := if T s.1 = T t.1 then (V (T s.1), V (T s.2 + T t.2)) else (0, 0)
def addE (s t : Int × Int) : Int := if T s.1 = T t.1 then 0 else 29
def bdS (s : Int × Int) : Prop := (0 ≤ s.1 ∧ s.1 < 18446744073709551616) ∧ 0 ≤ s.2 ∧ s.2 < 18446744073709551616

theorem three (w : World) (t : TypeId) (a b c d e f : Value) : ∃ W : World, ((w.alloc (.cells #[a, b] t)).alloc (.cells #[c, d] t)).alloc (.cells #[e, f] t) = W ∧
    W.cell? ⟨w.heap.size, 0, none⟩ = some a ∧ W.cell? ⟨w.heap.size, 1, none⟩ = some b ∧ W.cell? ⟨w.heap.size + 1, 0, none⟩ = some c ∧ W.cell? ⟨w.heap.size + 1, 1, none⟩ = some d ∧
    Arr W (w.heap.size + 1 + 1) t [e, f] ∧ Below w.heap.size w W := by
  have b1 : Below w.heap.size w (w.alloc (.cells #[a, b] t)) := (Below.refl _ _).alloc (Nat.le_refl _) _
  have s1 : (w.alloc (.cells #[a, b] t)).heap.size = w.heap.size + 1 := by simp
  have b2 : Below (w.heap.size + 1) (w.alloc (.cells #[a, b] t)) ((w.alloc (.cells #[a, b] t)).alloc (.cells #[c, d] t)) := (Below.refl _ _).alloc (by rw [s1]; exact Nat.le_refl _) _
  have s2 : ((w.alloc (.cells #[a, b] t)).alloc (.cells #[c, d] t)).heap.size = w.heap.size + 1 + 1 := by simp
  have b3 : Below (w.heap.size + 1 + 1) ((w.alloc (.cells #[a, b] t)).alloc (.cells #[c, d] t)) (((w.alloc (.cells #[a, b] t)).alloc (.cells #[c, d] t)).alloc (.cells #[e, f] t)) := (Below.refl _ _).alloc (by rw [s2]; exact Nat.le_refl _) _
  have a1 := ((Arr.new w t [a, b]).below b2 (by omega)).below b3 (by omega)
  have a2 := Arr.new (w.alloc (.cells #[a, b] t)) t [c, d]
  rw [s1] at a2
  have a3 := a2.below b3 (by omega)
  have a4 := Arr.new ((w.alloc (.cells #[a, b] t)).alloc (.cells #[c, d] t)) t [e, f]
  rw [s2] at a4
  exact ⟨_, rfl, a1.cell (i := 0) (by simp), a1.cell (i := 1) (by simp), a3.cell (i := 0) (by simp), a3.cell (i := 1) (by simp), a4, (b1.trans (b2.mono (by omega))).trans (b3.mono (by omega))⟩

/-- A block of two cells of the call's own, stored. -/
theorem two_cells {w W : World} {b : Nat} {t : TypeId} {e f : Value} (h : Arr W b t [e, f]) (hb : Below w.heap.size w W) (hle : w.heap.size ≤ b := by omega) :
    W.cell? ⟨b, 0, none⟩ = some e ∧ W.cell? ⟨b, 1, none⟩ = some f ∧ W.frozen? ⟨b, 0, none⟩ = false ∧ W.frozen? ⟨b, 1, none⟩ = false ∧
    (∀ v, (W.setCell ⟨b, 0, none⟩ v).cell? ⟨b, 1, none⟩ = some f) ∧ (∀ v, (W.setCell ⟨b, 0, none⟩ v).frozen? ⟨b, 1, none⟩ = false) ∧
    (∀ v v', ((W.setCell ⟨b, 0, none⟩ v).setCell ⟨b, 1, none⟩ v').cell? ⟨b, 0, none⟩ = some v) ∧ (∀ v v', ((W.setCell ⟨b, 0, none⟩ v).setCell ⟨b, 1, none⟩ v').cell? ⟨b, 1, none⟩ = some v') ∧
    (∀ v v', Below w.heap.size w ((W.setCell ⟨b, 0, none⟩ v).setCell ⟨b, 1, none⟩ v')) := by
  refine ⟨h.cell (i := 0) (by simp), h.cell (i := 1) (by simp), h.free 0, h.free 1, fun v => ?_, fun v => ?_, fun v v' => ?_, fun v v' => ?_, fun v v' => ?_⟩
  · exact (h.set 0 v).cell (i := 1) (by simp)
  · exact (h.set 0 v).free 1
  · exact ((h.set 0 v).set 1 v').cell (i := 0) (by simp)
  · exact ((h.set 0 v).set 1 v').cell (i := 1) (by simp)
  · exact (hb.setCell hle v).setCell hle v'

set_option maxRecDepth 100000 in
set_option maxHeartbeats 1000000 in
theorem Add_share (s t : Int × Int) (w : World) (hs : bdS s) (ht : bdS t) :
    Calls Try.prog 23 #[shV s, shV t] w fun e w' => e = .returned (.tuple #[shV (addS s t), .int .i64 (addE s t)]) ∧ Below w.heap.size w w' := by
  obtain ⟨x, y⟩ := s
  obtain ⟨u, z⟩ := t
  obtain ⟨⟨hx0, hx1⟩, hy0, hy1⟩ := hs
  obtain ⟨⟨hu0, hu1⟩, hz0, hz1⟩ := ht
  go_enter Try.func23, Try.ntmps23
  go_wp2
  obtain ⟨W, hW, k1, k2, k3, k4, hr, hb⟩ := three w 33 (.int .u64 x) (.int .u64 y) (.int .u64 u) (.int .u64 z) (.int .u64 0) (.int .u64 0)
  rw [hW]
  clear hW
  refine wp_region_still_lit (by kernel_rfl) (by kernel_rfl) ?_
  repeat (first
    | still_step
    | (still_call (still_of (num_any _ _ hx0 hx1)))
    | (still_call (still_of (num_any _ _ hu0 hu1))))
  refine wpStill_nil ?_
  change Exit.then _ _ _ _ W.drew
  obtain ⟨W2, hW2⟩ : ∃ W2, W.drew = W2 := ⟨_, rfl⟩
  have k1 : W2.cell? ⟨w.heap.size, 0, none⟩ = some (.int .u64 x) := by rw [← hW2]; exact k1
  have k2 : W2.cell? ⟨w.heap.size, 1, none⟩ = some (.int .u64 y) := by rw [← hW2]; exact k2
  have k3 : W2.cell? ⟨w.heap.size + 1, 0, none⟩ = some (.int .u64 u) := by rw [← hW2]; exact k3
  have k4 : W2.cell? ⟨w.heap.size + 1, 1, none⟩ = some (.int .u64 z) := by rw [← hW2]; exact k4
  have hr : Arr W2 (w.heap.size + 1 + 1) 33 [.int .u64 0, .int .u64 0] := by rw [← hW2]; exact hr
  have hb : Below w.heap.size w W2 := by rw [← hW2]; exact hb.drew
  rw [hW2]
  clear hW2
  obtain ⟨r0, r1, f0, f1, q1, g1, e0, e1, bb⟩ := two_cells hr hb
  clear hr
  by_cases he : T x = T u
  · have he' : (V (T x) != V (T u)) = false := by rw [he]; exact bne_self_eq_false _
    have h1 : Hid (addS (x, y) (u, z) = (V (T x), V (T y + T z)) ∧ addE (x, y) (u, z) = 0) := Lib.hid ⟨if_pos he, if_pos he⟩
    clear he
    go_simp
    go_wp2
    refine wp_region_still_tail 9 (by kernel_rfl) (by kernel_rfl) ?_
    simp only [List.take_succ_cons, List.take_zero, List.drop_succ_cons, List.drop_zero]
    repeat (first
      | still_step
      | (still_call (still_of (num_any _ _ hx0 hx1)))
      | (still_call (still_of (add_any _ _ _ hy0 hy1 hz0 hz1))))
    refine wpStill_nil ?_
    change wpList _ _ _ _ _ W2.drew
    go_wp2
    (try simp only [Exit.inBlock, Exit.then])
    refine bodyPost_ret (v := .tuple #[shV (V (T x), V (T y + T z)), .int .i64 0]) ?_ rfl ?_
    · rw [results_cell_tmp rfl]; go_simp
    · rw [h1.out.1, h1.out.2]
      exact ⟨rfl, (bb _ _).drew⟩
  · have he' : (V (T x) != V (T u)) = true := bne_iff_ne.2 fun h => he (V_inj h)
    have h1 : Hid (addS (x, y) (u, z) = (0, 0) ∧ addE (x, y) (u, z) = 29) := Lib.hid ⟨if_neg he, if_neg he⟩
    clear he
    go_simp
    go_wp2
    (try simp only [Exit.inBlock, Exit.then])
    refine bodyPost_ret (v := .tuple #[shV (0, 0), .int .i64 29]) ?_ rfl ?_
    · rw [results_cell_tmp rfl]; go_simp
    · rw [h1.out.1, h1.out.2]
      exact ⟨rfl, bb _ _⟩

set_option maxRecDepth 100000 in
set_option maxHeartbeats 1000000 in
theorem rAdd_share (s t : Int × Int) (w : World) (hs : bdS s) (ht : bdS t) :
    Calls Try.prog 24 #[shV s, shV t] w fun e w' => e = .returned (.tuple #[shV (addS s t), .int .i64 (addE s t)]) ∧ Below w.heap.size w w' := by
  obtain ⟨x, y⟩ := s
  obtain ⟨u, z⟩ := t
  obtain ⟨⟨hx0, hx1⟩, hy0, hy1⟩ := hs
  obtain ⟨⟨hu0, hu1⟩, hz0, hz1⟩ := ht
  go_enter Try.func24, Try.ntmps24
  go_wp2
  obtain ⟨W, hW, k1, k2, k3, k4, hr, hb⟩ := three w 33 (.int .u64 x) (.int .u64 y) (.int .u64 u) (.int .u64 z) (.int .u64 0) (.int .u64 0)
  rw [hW]
  clear hW
  refine wp_region_still_lit (by kernel_rfl) (by kernel_rfl) ?_
  repeat (first
    | still_step
    | (still_call (still_of (rnum_any _ _ hx0 hx1)))
    | (still_call (still_of (rnum_any _ _ hu0 hu1))))
  refine wpStill_nil ?_
  change Exit.then _ _ _ _ W.drew
  obtain ⟨W2, hW2⟩ : ∃ W2, W.drew = W2 := ⟨_, rfl⟩
  have k1 : W2.cell? ⟨w.heap.size, 0, none⟩ = some (.int .u64 x) := by rw [← hW2]; exact k1
  have k2 : W2.cell? ⟨w.heap.size, 1, none⟩ = some (.int .u64 y) := by rw [← hW2]; exact k2
  have k3 : W2.cell? ⟨w.heap.size + 1, 0, none⟩ = some (.int .u64 u) := by rw [← hW2]; exact k3
  have k4 : W2.cell? ⟨w.heap.size + 1, 1, none⟩ = some (.int .u64 z) := by rw [← hW2]; exact k4
  have hr : Arr W2 (w.heap.size + 1 + 1) 33 [.int .u64 0, .int .u64 0] := by rw [← hW2]; exact hr
  have hb : Below w.heap.size w W2 := by rw [← hW2]; exact hb.drew
  rw [hW2]
  clear hW2
  obtain ⟨r0, r1, f0, f1, q1, g1, e0, e1, bb⟩ := two_cells hr hb
  clear hr
  by_cases he : T x = T u
  · have he' : (V (T x) != V (T u)) = false := by rw [he]; exact bne_self_eq_false _
    have h1 : Hid (addS (x, y) (u, z) = (V (T x), V (T y + T z)) ∧ addE (x, y) (u, z) = 0) := Lib.hid ⟨if_pos he, if_pos he⟩
    clear he
    go_simp
    go_wp2
    refine wp_region_still_tail 9 (by kernel_rfl) (by kernel_rfl) ?_
    simp only [List.take_succ_cons, List.take_zero, List.drop_succ_cons, List.drop_zero]
    repeat (first
      | still_step
      | (still_call (still_of (rnum_any _ _ hx0 hx1)))
      | (still_call (still_of (radd_any _ _ _ hy0 hy1 hz0 hz1))))
    refine wpStill_nil ?_
    change wpList _ _ _ _ _ W2.drew
    go_wp2
    (try simp only [Exit.inBlock, Exit.then])
    refine bodyPost_ret (v := .tuple #[shV (V (T x), V (T y + T z)), .int .i64 0]) ?_ rfl ?_
    · rw [results_cell_tmp rfl]; go_simp
    · rw [h1.out.1, h1.out.2]
      exact ⟨rfl, (bb _ _).drew⟩
  · have he' : (V (T x) != V (T u)) = true := bne_iff_ne.2 fun h => he (V_inj h)
    have h1 : Hid (addS (x, y) (u, z) = (0, 0) ∧ addE (x, y) (u, z) = 29) := Lib.hid ⟨if_neg he, if_neg he⟩
    clear he
    go_simp
    go_wp2
    (try simp only [Exit.inBlock, Exit.then])
    refine bodyPost_ret (v := .tuple #[shV (0, 0), .int .i64 29]) ?_ rfl ?_
    · rw [results_cell_tmp rfl]; go_simp
    · rw [h1.out.1, h1.out.2]
      exact ⟨rfl, bb _ _⟩

end Go.Proofs.Ytpngkdhfjginlaa
