/-
  The contracts of the references' polynomials (4): what divides both; of roots; numbers rising, each once; what has no roots.
-/
import Derived.Test.YtelnhpcehmdffaaRefC
import Derived.Test.YtelnhpcehmdffaaSmall
namespace Go.Proofs.Ytelnhpcehmdffaa
open Go.RowKit
attribute [local go_sem] T_V





theorem U.drop {w : World} {b off n : Nat} {xs : List Int} (h : U w (some ⟨b, off, none⟩) n xs) (k : Nat) : U w (some ⟨b, off + k, none⟩) (n - k) (xs.drop k) := by
  refine ⟨by rw [List.length_drop, h.len], ?_, fun x hx => h.bd x (List.mem_of_mem_drop hx)⟩
  refine .inr ⟨b, off + k, rfl, fun i hi => ?_⟩
  rw [List.length_map, List.length_drop] at hi
  have hi2 : k + i < n := by rw [← h.len]; omega
  rw [List.getElem_map, List.getElem_drop, Nat.add_assoc]
  have := h.cell hi2
  rwa [nth_eq (by rw [h.len]; exact hi2)] at this
end Go.Proofs.Ytelnhpcehmdffaa
