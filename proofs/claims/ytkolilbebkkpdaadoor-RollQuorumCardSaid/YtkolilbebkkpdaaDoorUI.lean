/-
  Slices of signed numbers: what they read as; as an argument, opened.
-/
import Derived.Test.YtkolilbebkkpdaaDoorOpen
namespace Go.Proofs.YtkolilbebkkpdaaDoor
open Go.ChangeShapes Go.WideShapes Go.ChangeAt Go.RowKit

/-- A slice of n signed numbers. -/
structure UI (w : World) (p : Option Addr) (n : Nat) (xs : List Int) : Prop where
  len : xs.length = n
  rd : Rd w p (xs.map (Value.int .i64))
  bd : ∀ x ∈ xs, -9223372036854775808 ≤ x ∧ x ≤ 9223372036854775807
theorem UI.below {w w' : World} {p : Option Addr} {n : Nat} {xs : List Int} (h : UI w p n xs) (hb : Below w.heap.size w w') : UI w' p n xs := ⟨h.len, h.rd.below hb, h.bd⟩
theorem UI.look {w : World} {p : Option Addr} {n : Nat} {xs : List Int} (h : UI w p n xs) {i : Nat} (hi : i < n) :
    ∃ b off, p = some ⟨b, off, none⟩ ∧ b < w.heap.size ∧ w.cell? ⟨b, off + i, none⟩ = some (.int .i64 (nth xs i)) ∧ -9223372036854775808 ≤ nth xs i ∧ nth xs i ≤ 9223372036854775807 := by
  have hi' : i < xs.length := by rw [h.len]; exact hi
  obtain ⟨b, off, hp, hb, hc⟩ := h.rd.here (i := i) (by simpa using hi')
  have hx := h.bd _ (nth_mem hi')
  refine ⟨b, off, hp, hb, ?_, hx⟩
  have := hc i (by simpa using hi')
  rwa [List.getElem_map, ← nth_eq hi'] at this
theorem UI.cell {w : World} {b off n : Nat} {xs : List Int} (h : UI w (some ⟨b, off, none⟩) n xs) {i : Nat} (hi : i < n) : w.cell? ⟨b, off + i, none⟩ = some (.int .i64 (nth xs i)) := by
  obtain ⟨b', off', he, _, hc, _⟩ := h.look hi
  injection he with he
  injection he with h1 h2
  subst h1; subst h2
  exact hc

set_option maxRecDepth 100000 in
theorem open_I {H : Type} {enc : TypeId × Value → H} {W : World} {base : Nat} {v : Value} {d : DataW H} {ps : List MemPlace} (hok : Value.okWide Tryd.prog W .any base 22 v) (h : DataW.Trod enc Tryd.prog W 0 (fun _ => true) true 22 v d ps) :
    ∃ p n c xs, v = .slice p n c ∧ UI W p n xs ∧ n ≤ c ∧ n ≤ 9223372036854775807 ∧ (p = none → c = 0) := by
  obtain ⟨p, n, c, zs, rfl, hl, hr, hw, hnc, hcm, hp⟩ := open_nums Tryd.underlying22 Tryd.underlying3 (by kernel_rfl) hok h
  refine ⟨p, n, c, zs, rfl, ⟨hl, hr, fun z hz => wf_i64 (hw z hz)⟩, hnc, ?_, hp⟩
  unfold maxLen at hcm
  omega

end Go.Proofs.YtkolilbebkkpdaaDoor
