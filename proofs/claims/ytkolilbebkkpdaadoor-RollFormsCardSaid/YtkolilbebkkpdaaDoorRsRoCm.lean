/-
  Does a kind give new secrets.
-/
import Derived.Test.YtkolilbebkkpdaaDoorRmC
namespace Go.Proofs.YtkolilbebkkpdaaDoor
open Go.RowKit Go.Maps

def kindsO : List Int := [0, 2064, 32793, 21, 16, 12, 480, 640, 512, 31744, 8704, 8705, 512, 33299]
/-- What op.kinds holds. -/
def KindsAt (w : World) : Prop := ∀ i, i < 14 → w.cell? ⟨1, i, none⟩ = some (.int .i64 (kindsO.getD i 0))
theorem KindsAt.below {w w' : World} (h : KindsAt w) (hb : Below w.heap.size w w') : KindsAt w' := fun i hi => (hb.cell (p := ⟨1, i, none⟩) (cell_lt (h i hi))).trans (h i hi)
def commitI (k : Int) : Bool := decide (k = 1 ∨ k = 2 ∨ k = 3 ∨ k = 4 ∨ k = 13)
set_option maxRecDepth 100000 in
set_option maxHeartbeats 4000000 in
theorem Commit_any (w : World) (h : KindsAt w) (k : Nat) (hk : 1 ≤ k ∧ k ≤ 13) :
    Calls Tryd.prog 25 #[.int .i64 k] w fun e w' => e = .returned (.bool (commitI k)) ∧ Below w.heap.size w w' := by
  obtain ⟨h1, h2⟩ := hk
  have hc := h k (by omega)
  have : k = 1 ∨ k = 2 ∨ k = 3 ∨ k = 4 ∨ k = 5 ∨ k = 6 ∨ k = 7 ∨ k = 8 ∨ k = 9 ∨ k = 10 ∨ k = 11 ∨ k = 12 ∨ k = 13 := by omega
  rcases this with rfl | rfl | rfl | rfl | rfl | rfl | rfl | rfl | rfl | rfl | rfl | rfl | rfl
  all_goals
    simp only [kindsO, List.getD_cons_succ, List.getD_cons_zero] at hc
    go_enter Tryd.func25, Tryd.ntmps25
    go_wp2_with fail
    go_ret
    exact ⟨rfl, Below.refl _ _⟩
end Go.Proofs.YtkolilbebkkpdaaDoor

