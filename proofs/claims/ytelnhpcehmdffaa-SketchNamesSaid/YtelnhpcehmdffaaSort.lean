/-
  The sort of the library at a short list of numbers: it falls to the sort by insertion.
-/
import Derived.Test.YtelnhpcehmdffaaPolyJ
import Derived.Lib.Strings
import Derived.Lib.Slices
import Derived.Lib.Small
import Derived.Lib.Walk
import Derived.Lib.BitFns
namespace Go.Proofs.Ytelnhpcehmdffaa
open Go.RowKit

set_option maxRecDepth 100000 in
theorem nan_any (x : Int) (w : World) : Calls Try.prog 93 #[.int .u64 x] w fun e w' => e = .returned (.bool false) ∧ w = w' := by
  have h : (x != x) = false := bne_self_eq_false _
  go_enter Try.func93, Try.ntmps93
  go_wp2
  go_ret
  exact ⟨rfl, rfl⟩
set_option maxRecDepth 100000 in
theorem less_any (x y : Int) (w : World) : Calls Try.prog 83 #[.int .u64 x, .int .u64 y] w fun e w' => e = .returned (.bool (decide (x < y))) ∧ w = w' := by
  go_enter Try.func83, Try.ntmps83
  go_wp2_with (go_at_call 93; refine (nan_any _ _).mono ?_; rintro e w' ⟨rfl, rfl⟩)
  go_ret
  exact ⟨rfl, rfl⟩
set_option maxRecDepth 100000 in
theorem len64_small (x : Int) (h0 : 0 ≤ x) (h1 : x ≤ 12) (w : World) : Calls Try.prog 87 #[.int .u64 x] w fun e w' => (∃ k : Int, e = .returned (.int .i64 k)) ∧ w = w' := by
  have hsz : Lib.len8tab.size = 256 := Lib.len8tab_size
  go_enter Try.func87, Try.ntmps87
  go_wp2
  all_goals
    go_ret
    exact ⟨⟨_, rfl⟩, rfl⟩
set_option maxRecDepth 100000 in
theorem len_small (n : Nat) (hn : n ≤ 12) (w : World) : Calls Try.prog 74 #[.int .u64 n] w fun e w' => (∃ k : Int, e = .returned (.int .i64 k)) ∧ w = w' := by
  go_enter Try.func74, Try.ntmps74
  go_wp2_with fail
  refine (len64_small n (by omega) (by omega) w).mono ?_
  rintro e w' ⟨⟨k, rfl⟩, rfl⟩
  go_wp2_with fail
  go_ret
  exact ⟨⟨k, rfl⟩, rfl⟩

/-! ### A list of the call's own, one number stored -/
theorem Own.put {w : World} {base g n cap : Nat} {xs : List Int} (h : Own w base (.slice (some ⟨g, 0, none⟩) n cap) n xs) {k : Nat} (_ : k < n) {y : Int} (hy : 0 ≤ y ∧ y < 18446744073709551616) :
    Own (w.setCell ⟨g, k, none⟩ (.int .u64 y)) base (.slice (some ⟨g, 0, none⟩) n cap) n (xs.set k y) := by
  have hlen := h.len
  refine ⟨by rw [List.length_set]; exact hlen, ⟨by rw [List.length_map, List.length_set, hlen]; omega, ?_⟩, fun x hx => ?_⟩
  · rcases h.row.2 with ⟨hv, _⟩ | ⟨g', cap', cur, hv, hb, hg, hnc, hcm, hcs, htake⟩
    · injection hv with h1; cases h1
    · injection hv with h1 h2 h3
      injection h1 with h1
      injection h1 with h1 _ _
      subst h1
      subst h3
      refine .inr ⟨g, cap, cur.set! k (.int .u64 y), rfl, hb, ?_, hnc, hcm, by simpa using hcs, ?_⟩
      · show (w.heap.modify g _)[g]? = _
        rw [Array.getElem?_modify, if_pos rfl, hg]
        simp
      · rw [List.map_set, ← htake]
        simp [List.take_set]
  · rcases List.mem_or_eq_of_mem_set hx with hx | rfl
    · exact h.bd x hx
    · exact hy
theorem Own.free {w : World} {base g n cap : Nat} {xs : List Int} (h : Own w base (.slice (some ⟨g, 0, none⟩) n cap) n xs) (k : Nat) : w.frozen? ⟨g, k, none⟩ = false := by
  rcases h.row.2 with ⟨hv, _⟩ | ⟨g', cap', cur, hv, hb, hg, _⟩
  · injection hv with h1; cases h1
  · injection hv with h1 h2 h3
    injection h1 with h1
    injection h1 with h1 _ _
    subst h1
    simp [World.frozen?, hg]
theorem Own.at_ {w : World} {base g n cap : Nat} {xs : List Int} (h : Own w base (.slice (some ⟨g, 0, none⟩) n cap) n xs) {k : Nat} (hk : k < n) : w.cell? ⟨g, k, none⟩ = some (.int .u64 (nth xs k)) ∧ 0 ≤ nth xs k ∧ nth xs k < 18446744073709551616 := by
  obtain ⟨p, c, hv, _, hU⟩ := h.u
  injection hv with h1
  subst h1
  have h2 := hU.cell hk
  rw [Nat.zero_add] at h2
  exact ⟨h2, hU.look_bd hk⟩
end Go.Proofs.Ytelnhpcehmdffaa
