/-
  The document's examples of layer 5.
-/
import Derived.Test.YtelnhpcehmdffaaPolyK
import Derived.Test.YtelnhpcehmdffaaNums
namespace Go.Proofs.Ytelnhpcehmdffaa
open Go.RowKit
attribute [local go_sem] T_V

def lifeP : Pol := Pol.prodL ([1, 2].map T)
theorem lifeP_l : lifeP.l.map V = [2, 2305843009213693948, 1] := by decide +kernel
theorem lifeP_len : lifeP.len = 3 := by decide +kernel
theorem lifeP_ne : lifeP ≠ 0 := Pol.prodL_ne _
theorem life_roots {rs : List F} (h : RootsOk lifeP rs) : rs.map V = [1, 2] := by
  have e : rs = [T 1, T 2] := h.1.same (by unfold Rise; decide +kernel) fun x => by
    rw [h.2.2 lifeP_ne]
    exact Pol.at_prodL x _
  rw [e]; decide +kernel
theorem life_from {fs : List F} (h : FromOk ([0, 1].map T) ([5, 7].map T) fs) : fs.map V = [5, 2] := by
  have e : fs = [T 5, T 2] := h.same ⟨fun h => absurd (by decide +kernel) h, fun _ => by decide +kernel, fun _ => by decide +kernel, fun _ i hi => by
    have : i = 0 ∨ i = 1 := by simp at hi; omega
    rcases this with rfl | rfl <;> decide +kernel⟩
  rw [e]; decide +kernel
theorem life_ev : V (ev ([2, 2305843009213693948, 1].map T) (T 5)) = 12 := by decide +kernel
theorem U_lit (w : World) (t : TypeId) (xs : List Int) (vs : Array Value) (n : Nat) (hv : vs = (xs.map (Value.int .u64)).toArray) (hn : xs.length = n) (hx : ∀ x ∈ xs, 0 ≤ x ∧ x < 18446744073709551616) : U (w.alloc (.cells vs t)) (some ⟨w.heap.size, 0, none⟩) n xs :=
  ⟨hn, by rw [hv]; exact (Arr.new w t _).rd, hx⟩
theorem Below.lit (w : World) (o : Obj) : Below w.heap.size w (w.alloc o) := (Below.refl _ _).alloc (Nat.le_refl _) _

end Go.Proofs.Ytelnhpcehmdffaa
