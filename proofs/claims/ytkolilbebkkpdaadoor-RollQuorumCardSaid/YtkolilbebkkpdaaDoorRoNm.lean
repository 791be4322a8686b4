/-
  Names; numbers around; are two rows of numbers the same.
-/
import Derived.Test.YtkolilbebkkpdaaDoorRoNew
namespace Go.Proofs.YtkolilbebkkpdaaDoor
open Go.RowKit Go.Maps

/-- A number from 0 on, below most, of any. -/
def around (n most : Int) : Int := (if n < 0 then -(n + 1) else n) % most
theorem around_bd (n most : Int) (h : 0 < most) : 0 ≤ around n most ∧ around n most < most := by
  unfold around
  exact ⟨Int.emod_nonneg _ (by omega), Int.emod_lt_of_pos _ h⟩

set_option maxRecDepth 100000 in
theorem Around_any (n most : Int) (w : World) (h0 : -9223372036854775808 ≤ n) (h1 : n ≤ 9223372036854775807) (hm : 0 < most) (hm1 : most ≤ 9223372036854775807) :
    Calls Tryd.prog 15 #[.int .i64 n, .int .i64 most] w fun e w' => e = .returned (.int .i64 (around n most)) ∧ w = w' := by
  have hz : (most == 0) = false := by rw [beq_eq_false_iff_ne]; omega
  by_cases hn : n < 0
  · have hnn : 0 ≤ -(n + 1) := by omega
    have e : Hid (around n most = -(n + 1) % most) := Lib.hid (by unfold around; rw [if_pos hn])
    go_enter Tryd.func15, Tryd.ntmps15
    go_wp2
    go_ret
    exact ⟨ret_int (by rw [e.out, ← Int.neg_tmod, Int.tmod_eq_emod_of_nonneg hnn]), rfl⟩
  · have hnn : 0 ≤ n := by omega
    have e : Hid (around n most = n % most) := Lib.hid (by unfold around; rw [if_neg hn])
    go_enter Tryd.func15, Tryd.ntmps15
    go_wp2
    go_ret
    exact ⟨ret_int e.out.symm, rfl⟩

set_option maxRecDepth 100000 in
theorem SameInts_yes (p q : Option Addr) (n : Nat) (xs : List Int) (c d : Nat) (w : World) (hX : UI w p n xs) (hY : UI w q n xs) (hn : n ≤ 9223372036854775806) :
    Calls Tryd.prog 24 #[.slice p n c, .slice q n d] w fun e w' => e = .returned (.bool true) ∧ Below w.heap.size w w' := by
  have hne : ((n : Int) != n) = false := bne_self_eq_false _
  go_enter Tryd.func24, Tryd.ntmps24
  go_wp2
  go_loopw [5] (fun i wr => ∃ k : Nat, k ≤ n ∧ i = .int .i64 k ∧ Below w.heap.size w wr)
    (fun i _ => n - (intOf i).toNat)
  case atStart => exact ⟨0, Nat.zero_le _, rfl, Below.refl _ _⟩
  case round =>
    obtain ⟨k, hk, rfl, hb⟩ := hrel
    by_cases hlt : k < n
    · obtain ⟨b, off, rfl, _, hc1, _⟩ := (hX.below hb).look hlt
      obtain ⟨b', off', rfl, _, hc2, _⟩ := (hY.below hb).look hlt
      have t1 : (nth xs k != nth xs k) = false := bne_self_eq_false _
      have hix1 : (0 : Int) ≤ (k : Int) := by omega
      have hix2 : (k : Int) < (n : Int) := by omega
      go_wp2_with fail
      refine wp_region_still_lit (by kernel_rfl) (by kernel_rfl) ?_
      repeat still_step
      refine wpStill_nil ?_
      change Exit.then _ _ _ _ wr.drew
      clear hix1 hix2
      go_wp2
      go_roundw
      case rel => exact ⟨k + 1, by omega, by go_num, hb.drew⟩
      case measure => simp [intOf]; omega
    · go_wp2
      go_ret
      exact ⟨rfl, hb⟩
set_option maxRecDepth 100000 in
theorem Name_any (o : OpI) (gp : Option Addr) (gc : Nat) (n : Int) (w : World) (hk : 0 ≤ o.k ∧ o.k ≤ 1000000) (hn : 0 ≤ n ∧ n ≤ 1000000) :
    Calls Tryd.prog 14 #[.agg (opC o gp gc), .int .i64 n] w fun e w' => e = .returned (.agg #[.int .i64 o.b, .int .i64 (n + 1), .int .u64 o.k]) ∧ Below w.heap.size w w' := by
  have hO := OpAt.made w o gp gc
  have hb1 := Below.lit w (.cells (opC o gp gc) 42)
  obtain ⟨w1, hw1, hO⟩ := nameW (p := fun W => OpAt W w.heap.size o gp gc) hO
  rw [hw1.out] at hb1
  have hlt : w.heap.size < w1.heap.size := cell_lt hO.cb
  have hb2 : Below w1.heap.size w1 (w1.alloc (.cells #[.int .i64 0, .int .i64 0, .int .u64 0] 34)) := Below.lit w1 _
  have kb := (hO.below hb2 hlt).cb
  have kk := (hO.below hb2 hlt).ck
  obtain ⟨hk0, hk1⟩ := hk
  obtain ⟨hn0, hn1⟩ := hn
  have hz1 : w1.heap.size = w.heap.size + 1 := by rw [← hw1.out]; simp
  go_enter Tryd.func14, Tryd.ntmps14
  go_wp2_with (first | (rw [hw1.out]) | fail)
  have hbw := Below.lit w1 (.cells #[.int .i64 o.b, .int .i64 (n + 1), .int .u64 o.k] 34)
  have hgw := World.alloc_heap_new w1 (.cells #[.int .i64 o.b, .int .i64 (n + 1), .int .u64 o.k] 34)
  rw [hz1] at hgw
  refine bodyPost_ret (v := .agg #[.int .i64 o.b, .int .i64 (n + 1), .int .u64 o.k]) ?_ rfl ?_
  · exact results_cell_row rfl _ _ (w.heap.size + 1) 34 _ (0, 0) _ rfl hgw Tryd.underlying34 rfl (by kernel_rfl)
  · exact ⟨rfl, hb1.trans (hbw.mono hb1.size)⟩
end Go.Proofs.YtkolilbebkkpdaaDoor
