/-
  The contracts of the references' polynomials (3): as polynomials; quotients.
-/
import Derived.Test.YtelnhpcehmdffaaRefB
import Derived.Test.YtelnhpcehmdffaaPolyH
import Derived.Test.YtelnhpcehmdffaaGa
namespace Go.Proofs.Ytelnhpcehmdffaa
open Go.RowKit
attribute [local go_sem] T_V

theorem Own.fresh {w : World} {base : Nat} {p : Option Addr} {n c m : Nat} {xs : List Int} (h : Own w base (.slice p n c) m xs) (j k : Nat) : Fresh (.slice p j k) base := fun a _ _ e => by
  injection e with e
  subst e
  exact (h.lt (g := a.block) rfl).1
theorem Apart_of_lt {w : World} {p : Option Addr} {n : Nat} {xs : List Int} (h : U w p n xs) (h0 : 0 < n) : ∀ a, p = some a → a.block < w.heap.size := fun a e => by
  obtain ⟨b, off, e', hb, _⟩ := h.look h0
  rw [e] at e'
  injection e' with e'
  rw [e']; exact hb


/-- A coefficient of what is left, one more round. -/
theorem less_snoc (L B : Pol) (c : F) (k i : Nat) : ((List.range (i + 1)).map (Pol.lessAt L B c k)).map V = ((List.range i).map (Pol.lessAt L B c k)).map V ++ [V (Pol.lessAt L B c k i)] := range_snoc _ _
theorem coef_cell {P : Pol} {w : World} {p : Option Addr} {n : Nat} (h : U w p n (P.l.map V)) {i : Nat} (hi : i < n) : nth (P.l.map V) i = V (coef P.l i) := by
  have := h.len
  rw [List.length_map] at this
  exact coef_nth (by omega)

theorem U.other {w : World} {b off n : Nat} {xs : List Int} (h : U w (some ⟨b, off, none⟩) n xs) {g : Nat} (hne : b ≠ g) (i : Nat) (v : Value) : U (w.setCell ⟨g, i, none⟩ v) (some ⟨b, off, none⟩) n xs := by
  refine ⟨h.len, ?_, h.bd⟩
  rcases h.rd with h1 | ⟨b', off', e, hc⟩
  · exact .inl h1
  · refine .inr ⟨b', off', e, fun j hj => ?_⟩
    injection e with e
    injection e with e1 e2
    subst e1
    rw [World.cell?_of_block (Below.heap_setCell _ _ _ _ hne)]
    exact hc j hj

end Go.Proofs.Ytelnhpcehmdffaa
