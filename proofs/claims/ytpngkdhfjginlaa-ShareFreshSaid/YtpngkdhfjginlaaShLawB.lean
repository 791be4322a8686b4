/-
  The walks of the statements on shares (2): two shares together.
-/
import Derived.Test.YtpngkdhfjginlaaShG
import Derived.Deep.RegionLaw
import Derived.Handy
import Derived.Deep.CutRange
namespace Go.Proofs.Ytpngkdhfjginlaa
open Go.RowKit
attribute [local go_sem] T_V

theorem below_cell {w w' : World} {a : Addr} {v : Value} (h : Below w.heap.size w w') (hc : w.cell? a = some v) : w'.cell? a = some v := (h.cell (cell_lt hc)).trans hc

theorem five (w : World) (x y u z r : Int) (hx0 : 0 ≤ x) (hx1 : x < 18446744073709551616) (hu0 : 0 ≤ u) (hu1 : u < 18446744073709551616) (hz0 : 0 ≤ z) (hz1 : z < 18446744073709551616) (hr0 : 0 ≤ r) (hr1 : r < 18446744073709551616) :
    ∃ W : World, ((((w.alloc (.cells #[.int .u64 x, .int .u64 y] 33)).alloc (.cells #[.int .u64 u, .int .u64 z] 33)).alloc (.cells #[.int .u64 x, .int .u64 z] 33)).alloc (.cells #[.int .u64 r, .int .u64 z] 33)).alloc (.cells #[.int .u64 u, .int .u64 z, .int .u64 x, .int .u64 z, .int .u64 r, .int .u64 z] 33) = W ∧
    W.cell? ⟨w.heap.size, 0, none⟩ = some (.int .u64 x) ∧ W.cell? ⟨w.heap.size, 1, none⟩ = some (.int .u64 y) ∧ Sh W (some ⟨w.heap.size + 1 + 1 + 1 + 1, 0, none⟩) 3 [(u, z), (x, z), (r, z)] ∧ Below w.heap.size w W := by
  have b1 : Below w.heap.size w (w.alloc (.cells #[.int .u64 x, .int .u64 y] 33)) := (Below.refl _ _).alloc (Nat.le_refl _) _
  have a1 := Arr.new w 33 [.int .u64 x, .int .u64 y]
  have s1 : (w.alloc (.cells #[.int .u64 x, .int .u64 y] 33)).heap.size = w.heap.size + 1 := by simp
  obtain ⟨w1, e1⟩ : ∃ w1, w.alloc (.cells #[.int .u64 x, .int .u64 y] 33) = w1 := ⟨_, rfl⟩
  have a1 : Arr w1 w.heap.size 33 [.int .u64 x, .int .u64 y] := by rw [← e1]; exact a1
  rw [e1] at b1 s1 ⊢
  have b2 : Below w1.heap.size w1 (((w1.alloc (.cells #[.int .u64 u, .int .u64 z] 33)).alloc (.cells #[.int .u64 x, .int .u64 z] 33)).alloc (.cells #[.int .u64 r, .int .u64 z] 33)) :=
    (((Below.refl _ _).alloc (Nat.le_refl _) _).alloc (by simp) _).alloc (by simp; omega) _
  have s4 : (((w1.alloc (.cells #[.int .u64 u, .int .u64 z] 33)).alloc (.cells #[.int .u64 x, .int .u64 z] 33)).alloc (.cells #[.int .u64 r, .int .u64 z] 33)).heap.size = w.heap.size + 1 + 1 + 1 + 1 := by simp; omega
  obtain ⟨w4, e4⟩ : ∃ w4, ((w1.alloc (.cells #[.int .u64 u, .int .u64 z] 33)).alloc (.cells #[.int .u64 x, .int .u64 z] 33)).alloc (.cells #[.int .u64 r, .int .u64 z] 33) = w4 := ⟨_, rfl⟩
  rw [e4] at b2 s4 ⊢
  have b5 : Below w4.heap.size w4 (w4.alloc (.cells #[.int .u64 u, .int .u64 z, .int .u64 x, .int .u64 z, .int .u64 r, .int .u64 z] 33)) := (Below.refl _ _).alloc (Nat.le_refl _) _
  have a5 := (Arr.new w4 33 [.int .u64 u, .int .u64 z, .int .u64 x, .int .u64 z, .int .u64 r, .int .u64 z]).rd
  rw [s4] at a5
  have a1' := (a1.below b2 (by omega)).below b5 (by omega)
  refine ⟨_, rfl, a1'.cell (i := 0) (by simp), a1'.cell (i := 1) (by simp), ⟨rfl, a5, ?_⟩, (b1.trans (b2.mono (by omega))).trans (b5.mono (by omega))⟩
  intro t ht
  simp only [List.mem_cons, List.not_mem_nil, or_false] at ht
  rcases ht with rfl | rfl | rfl <;> exact ⟨⟨by assumption, by assumption⟩, hz0, hz1⟩

set_option maxRecDepth 100000 in
set_option maxHeartbeats 1000000 in
theorem adds_walk (s t : Int × Int) (w : World) (hs : bdS s) (ht : bdS t) :
    Calls Try.prog 8 #[shV s, shV t] w fun e w' => e = .returned (.bool true) ∧ Below w.heap.size w w' := by
  obtain ⟨x, y⟩ := s
  obtain ⟨u, z⟩ := t
  obtain ⟨⟨hx0, hx1⟩, hy0, hy1⟩ := hs
  obtain ⟨⟨hu0, hu1⟩, hz0, hz1⟩ := ht
  have hm0 := Int.emod_nonneg x (b := 2305843009213693951) (by omega)
  have hm1 := Int.emod_lt_of_pos x (b := 2305843009213693951) (by omega)
  go_enter Try.func8, Try.ntmps8
  go_wp2
  obtain ⟨W, hW, k1, k2, hS, hb⟩ := five w x y u z (x % 2305843009213693951 + 2305843009213693951) hx0 hx1 hu0 hu1 hz0 hz1 (by omega) (by omega)
  rw [hW]
  clear hW
  go_loopw [8] (fun i wr => ∃ k : Nat, k ≤ 3 ∧ i = .int .i64 k ∧ Below W.heap.size W wr)
    (fun i _ => 3 - (intOf i).toNat)
  case atStart => exact ⟨0, by omega, rfl, Below.refl _ _⟩
  case round =>
    obtain ⟨k, hk, rfl, hbr⟩ := hrel
    by_cases hlt : k < 3
    · have hS' := hS.below hbr
      obtain ⟨c1, c2⟩ := hS'.cell hlt
      rw [Nat.zero_add] at c1 c2
      obtain ⟨⟨hp0, hp1⟩, hq0, hq1⟩ := hS.look_bd hlt
      have j1 := below_cell hbr k1
      have j2 := below_cell hbr k2
      obtain ⟨q, hq⟩ : ∃ q, sh [(u, z), (x, z), (x % 2305843009213693951 + 2305843009213693951, z)] k = q := ⟨_, rfl⟩
      rw [hq] at c1 c2 hp0 hp1 hq0 hq1
      clear hq
      have c1a : ∀ o, (wr.alloc o).cell? _ = _ := fun o => below_cell ((Below.refl _ _).alloc (Nat.le_refl _) o) c1
      have c2a : ∀ o, (wr.alloc o).cell? _ = _ := fun o => below_cell ((Below.refl _ _).alloc (Nat.le_refl _) o) c2
      have j1a : ∀ o, (wr.alloc o).cell? _ = _ := fun o => below_cell ((Below.refl _ _).alloc (Nat.le_refl _) o) j1
      have j2a : ∀ o, (wr.alloc o).cell? _ = _ := fun o => below_cell ((Below.refl _ _).alloc (Nat.le_refl _) o) j2
      have hi1 : (0 : Int) ≤ (k : Int) := by omega
      have hi2 : (k : Int) < 3 := by omega
      go_upto_region 9 with fail
      go_cut [9, 10] from 27 to 56 (fun v9 v10 wx => ∃ g, v9 = .pointer (some ⟨g, 0, none⟩) ∧ v10 = .int .i64 (addE (x, y) q) ∧ wr.heap.size ≤ g ∧ wx.cell? ⟨g, 0, none⟩ = some (.int .u64 (addS (x, y) q).1) ∧ wx.cell? ⟨g, 1, none⟩ = some (.int .u64 (addS (x, y) q).2) ∧ Below wr.heap.size wr wx)
      case first =>
        go_region_with (go_at_call 23; refine (Add_share (x, y) q _ ⟨⟨hx0, hx1⟩, hy0, hy1⟩ ⟨⟨hp0, hp1⟩, hq0, hq1⟩).mono ?_; rintro e w' ⟨rfl, hbA⟩
                        try (obtain ⟨r0, r1, f0, f1, q1, g1, e0, e1, bb⟩ := two_cells (w := wr) (W := w') (b := wr.heap.size) (t := 33) (e := .int .u64 0) (f := .int .u64 0) ((hbA.block wr.heap.size (by simp)).trans (Arr.new wr 33 [.int .u64 0, .int .u64 0])) ((((Below.refl wr.heap.size wr).alloc (Nat.le_refl _) _).drew).trans (hbA.mono (by simp))) (Nat.le_refl _)))
        all_goals (go_wp2_with fail; go_meet)
        all_goals first
          | exact ⟨_, rfl, rfl, Nat.le_refl _, e0 _ _, e1 _ _, bb _ _⟩
          | exact ⟨_, rfl, rfl, hbA.size, (Arr.new w' 33 [.int .u64 (addS (x, y) q).1, .int .u64 (addS (x, y) q).2]).cell (i := 0) (by simp), (Arr.new w' 33 [.int .u64 (addS (x, y) q).1, .int .u64 (addS (x, y) q).2]).cell (i := 1) (by simp), (((Below.refl wr.heap.size wr).drew).trans hbA).alloc hbA.size _⟩
      case rest =>
      obtain ⟨g, rfl, rfl, hgl, d1, d2, hbt⟩ := hcut
      obtain ⟨wt, rfl⟩ : ∃ wt : World, wt = wc := ⟨_, rfl⟩
      have c1 := below_cell hbt c1
      have c2 := below_cell hbt c2
      have j1 := below_cell hbt j1
      have j2 := below_cell hbt j2
      have c1a : ∀ o, (wt.alloc o).cell? _ = _ := fun o => below_cell ((Below.refl _ _).alloc (Nat.le_refl _) o) c1
      have c2a : ∀ o, (wt.alloc o).cell? _ = _ := fun o => below_cell ((Below.refl _ _).alloc (Nat.le_refl _) o) c2
      have j1a : ∀ o, (wt.alloc o).cell? _ = _ := fun o => below_cell ((Below.refl _ _).alloc (Nat.le_refl _) o) j1
      have j2a : ∀ o, (wt.alloc o).cell? _ = _ := fun o => below_cell ((Below.refl _ _).alloc (Nat.le_refl _) o) j2
      go_upto_region 10 with fail
      go_cut [11, 12] from 27 to 56 (fun v9 v10 wx => ∃ g, v9 = .pointer (some ⟨g, 0, none⟩) ∧ v10 = .int .i64 (addE (x, y) q) ∧ wt.heap.size ≤ g ∧ wx.cell? ⟨g, 0, none⟩ = some (.int .u64 (addS (x, y) q).1) ∧ wx.cell? ⟨g, 1, none⟩ = some (.int .u64 (addS (x, y) q).2) ∧ Below wt.heap.size wt wx)
      case first =>
        go_region_with (go_at_call 24; refine (rAdd_share (x, y) q _ ⟨⟨hx0, hx1⟩, hy0, hy1⟩ ⟨⟨hp0, hp1⟩, hq0, hq1⟩).mono ?_; rintro e w' ⟨rfl, hbA⟩
                        try (obtain ⟨r0, r1, f0, f1, q1, g1, e0, e1, bb⟩ := two_cells (w := wt) (W := w') (b := wt.heap.size) (t := 33) (e := .int .u64 0) (f := .int .u64 0) ((hbA.block wt.heap.size (by simp)).trans (Arr.new wt 33 [.int .u64 0, .int .u64 0])) ((((Below.refl wt.heap.size wt).alloc (Nat.le_refl _) _).drew).trans (hbA.mono (by simp))) (Nat.le_refl _)))
        all_goals (go_wp2_with fail; go_meet)
        all_goals first
          | exact ⟨_, rfl, rfl, Nat.le_refl _, e0 _ _, e1 _ _, bb _ _⟩
          | exact ⟨_, rfl, rfl, hbA.size, (Arr.new w' 33 [.int .u64 (addS (x, y) q).1, .int .u64 (addS (x, y) q).2]).cell (i := 0) (by simp), (Arr.new w' 33 [.int .u64 (addS (x, y) q).1, .int .u64 (addS (x, y) q).2]).cell (i := 1) (by simp), (((Below.refl wt.heap.size wt).drew).trans hbA).alloc hbA.size _⟩
      case rest =>
      obtain ⟨g', rfl, rfl, hgl', d3, d4, hbu⟩ := hcut
      have d1 := below_cell hbu d1
      have d2 := below_cell hbu d2
      have hbf : Below W.heap.size W wc := (hbr.trans (hbt.mono hbr.size)).trans (hbu.mono (Nat.le_trans hbr.size hbt.size))
      clear c1 c2 j1 j2 c1a c2a j1a j2a
      go_wp2
      go_roundw
      case rel => exact ⟨k + 1, by omega, by go_num, hbf⟩
      case measure => simp [intOf]; omega
    · obtain rfl : k = 3 := by omega
      go_wp2_with fail
      refine (lives9 _).mono ?_
      rintro e w2 ⟨rfl, hb2⟩
      go_wp2
      go_ret
      exact ⟨rfl, (hb.trans (hbr.mono hb.size)).trans (hb2.mono (Nat.le_trans hb.size hbr.size))⟩
end Go.Proofs.Ytpngkdhfjginlaa
