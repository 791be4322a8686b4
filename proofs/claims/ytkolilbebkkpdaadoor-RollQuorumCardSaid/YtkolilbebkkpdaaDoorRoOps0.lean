/-
  The first operations.
-/
import Derived.Test.YtkolilbebkkpdaaDoorRoOp
import Derived.Great.Walk
namespace Go.Proofs.YtkolilbebkkpdaaDoor
open Go.RowKit Go.Maps

def f1 : OpI := ⟨1, 2, 2, 0, 2, 0, 0, 3, ⟨0, 0, 0⟩, [], 0, 0⟩
def f2 : OpI := ⟨1, 3, 2, 0, 3, 0, 0, 2, ⟨0, 0, 0⟩, [], 0, 0⟩
def f0 : OpI := ⟨1, 1, 1, 0, 0, 0, 0, 0, ⟨0, 0, 0⟩, [], 3, 0⟩
def firstL : List (OpI × Option Addr × Nat) := [(f0, none, 0), (f1, none, 0), (f2, none, 0)]
theorem OwnE.fresh {α : Type} (E : El α) (w : World) (l : List α) (_h0 : l ≠ []) (hl : l.length ≤ 1000) : OwnE E (w.alloc (.cells (l.flatMap E.c).toArray E.t)) w.heap.size (.slice (some ⟨w.heap.size, 0, none⟩) l.length l.length) l := by
  refine ⟨by rw [flat_len], .inr ⟨w.heap.size, l.length, (l.flatMap E.c).toArray, rfl, Nat.le_refl _, World.alloc_heap_new w _, Nat.le_refl _, by unfold maxLen; omega, by show (l.flatMap E.c).toArray.size = _; rw [List.size_toArray, flat_len], ?_⟩⟩
  show (l.flatMap E.c).take _ = _
  exact List.take_of_length_le (by rw [flat_len]; exact Nat.le_refl _)
set_option maxRecDepth 100000 in
set_option maxHeartbeats 2000000 in
theorem Ops_nil (w : World) :
    Calls Tryd.prog 12 #[.slice none 0 0] w fun e w' => e = .returned (.slice (some ⟨w.heap.size, 0, none⟩) 3 3) ∧ OwnE opE w' w.heap.size (.slice (some ⟨w.heap.size, 0, none⟩) 3 3) firstL ∧ Below w.heap.size w w' := by
  have hown := OwnE.fresh opE w firstL (by simp [firstL]) (by decide)
  have hb := Below.lit w (.cells (firstL.flatMap opE.c).toArray 42)
  obtain ⟨w1, hw1, hown⟩ := nameW (p := fun W => OwnE opE W w.heap.size (.slice (some ⟨w.heap.size, 0, none⟩) 3 3) firstL) hown
  rw [show opE.t = 42 from rfl] at hw1
  rw [hw1.out] at hb
  go_enter Tryd.func12, Tryd.ntmps12
  go_wp2_with (first
    | (refine wpL_build rfl 42 #[(0, Operand.const (Value.int IntKind.i64 1)), (1, Operand.const (Value.int IntKind.i64 1)), (2, Operand.const (Value.int IntKind.i64 1)), (16, Operand.const (Value.int IntKind.i64 3))] rfl (opC f0 none 0) (by kernel_rfl) ?_; simp only [Act.put, List.setIfInBounds_toArray, List.set_cons_succ, List.set_cons_zero])
    | (refine wpL_build rfl 42 #[(0, Operand.const (Value.int IntKind.i64 1)), (1, Operand.const (Value.int IntKind.i64 2)), (2, Operand.const (Value.int IntKind.i64 2)), (5, Operand.const (Value.int IntKind.i64 2)), (8, Operand.const (Value.int IntKind.i64 3))] rfl (opC f1 none 0) (by kernel_rfl) ?_; simp only [Act.put, List.setIfInBounds_toArray, List.set_cons_succ, List.set_cons_zero])
    | (refine wpL_build rfl 42 #[(0, Operand.const (Value.int IntKind.i64 1)), (1, Operand.const (Value.int IntKind.i64 3)), (2, Operand.const (Value.int IntKind.i64 2)), (5, Operand.const (Value.int IntKind.i64 3)), (8, Operand.const (Value.int IntKind.i64 2))] rfl (opC f2 none 0) (by kernel_rfl) ?_; simp only [Act.put, List.setIfInBounds_toArray, List.set_cons_succ, List.set_cons_zero])
    | (refine Go.Great.wpList_buildSliceTo rfl 27 42 3 _ rfl w.heap.size rfl _ rfl Tryd.underlying27 (firstL.flatMap opE.c).toArray (by kernel_rfl) ?_; rw [hw1.out]; simp only [Act.put, List.setIfInBounds_toArray, List.set_cons_succ, List.set_cons_zero])
    | fail)
  go_loopw [3, 4] (fun v i wr => v = .slice (some ⟨w.heap.size, 0, none⟩) 3 3 ∧ i = .int .i64 0 ∧ w1 = wr) (fun _ _ _ => 0)
  case atStart => exact ⟨rfl, rfl, rfl⟩
  case round =>
    obtain ⟨rfl, rfl, rfl⟩ := hrel
    go_wp2_with fail
    go_ret
    exact ⟨rfl, hown, hb⟩
end Go.Proofs.YtkolilbebkkpdaaDoor
