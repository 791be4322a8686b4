/-
  The arguments of a law, opened; that they read as they did.
-/
import Derived.Test.YtkolilbebkkpdaaDoorPost
import Derived.Test.YtkolilbebkkpdaaDoorMem
import Derived.Carry
namespace Go.Proofs.YtkolilbebkkpdaaDoor
open Go.ChangeShapes Go.WideShapes Go.ChangeAt Go.RowKit

section
variable {H : Type} {enc : TypeId × Value → H} {P : Program}

/-- What was read reads as it did. -/
theorem trodAll_below (hl : laidOutB P = true) {W W' : World} (hb : Below W.heap.size W W') : ∀ {ts : List TypeId} {vs : List Value} {ds : List (DataW H)} {ps : List MemPlace},
    (∀ t ∈ ts, P.readableRec t = true ∧ t < P.types.size) → DataW.TrodAll enc P W 0 (fun _ => true) true ts vs ds ps → (∀ x ∈ ps, x.block < W.heap.size) →
    DataW.TrodAll enc P W' 0 (fun b => decide (b < W.heap.size)) true ts vs ds ps := by
  intro ts
  induction ts with
  | nil =>
    intro vs ds ps _ h _
    cases vs <;> cases ds <;> first | exact h | exact h.elim
  | cons t ts ih =>
    intro vs ds ps ht h hlt
    cases vs with
    | nil => cases ds <;> exact h.elim
    | cons v vs =>
      cases ds with
      | nil => exact h.elim
      | cons d ds =>
        obtain ⟨p, q, h1, h2, rfl⟩ := h
        refine ⟨p, q, ?_, ih (fun t' h' => ht t' (List.mem_cons_of_mem _ h')) h2 (fun x hx => hlt x (List.mem_append_right _ hx)), rfl⟩
        obtain ⟨hr, hs⟩ := ht t (List.mem_cons_self ..)
        exact Below.trod hl hr hs h1 hb (fun x hx => hlt x (List.mem_append_left _ hx))

/-- A slice of numbers of one cell, opened. -/
theorem open_nums {t e : TypeId} {k : IntKind} {W : World} {base : Nat} {v : Value} {d : DataW H} {ps : List MemPlace} (ht : P.underlying t = some (.slice e)) (he : P.underlying e = some (.int k)) (hc : P.cellsOf e = 1)
    (hok : Value.okWide P W .any base t v) (h : DataW.Trod enc P W 0 (fun _ => true) true t v d ps) :
    ∃ (p : Option Addr) (n c : Nat) (zs : List Int), v = .slice p n c ∧ zs.length = n ∧ Rd W p (zs.map (Value.int k)) ∧ (∀ z ∈ zs, (Lit.int k z).wf = true) ∧ n ≤ c ∧ c ≤ maxLen ∧ (p = none → c = 0) := by
  obtain ⟨a0, len, cap, rfl⟩ := okWide_slice ht hok
  obtain ⟨fuel, hf⟩ := h
  rcases open_ints ht he hc hf with ⟨hcs, _⟩ | ⟨a, len', cap', zs, hcs, _, hl, hm, hz, _, hcell, hwz⟩
  · simp [Value.cells] at hcs
    obtain ⟨rfl, rfl, rfl⟩ := hcs
    exact ⟨none, 0, 0, [], rfl, rfl, .nil, fun z h => (by cases h), Nat.le_refl _, Nat.zero_le _, fun _ => rfl⟩
  · simp [Value.cells] at hcs
    obtain ⟨rfl, rfl, rfl⟩ := hcs
    simp only [if_true] at hz
    refine ⟨some a, len, cap, zs.take len, rfl, by rw [List.length_take, hz]; omega, ?_, fun z hz => hwz z (List.mem_of_mem_take hz), hl, hm, fun h => by cases h⟩
    by_cases h0 : len = 0
    · subst h0; exact .inl rfl
    · have h00 := hcell 0 (by omega)
      have hspot : a.spot = none := by
        cases hs : a.spot with
        | none => rfl
        | some s =>
          have : a.add 0 = a := rfl
          rw [this] at h00
          unfold World.cell? at h00
          rw [hs] at h00
          split at h00 <;> simp at h00
      refine .inr ⟨a.block, a.off, by cases a; simp_all, fun i hi => ?_⟩
      rw [List.length_map, List.length_take] at hi
      have hi2 : i < zs.length := by omega
      have hci := hcell i hi2
      rw [List.getElem_map, List.getElem_take]
      have e1 : a.add i = ⟨a.block, a.off + i, none⟩ := by
        unfold Addr.add
        by_cases hi0 : i = 0
        · subst hi0; rw [if_pos rfl]; cases a; simp_all
        · rw [if_neg hi0]
      rw [e1] at hci
      rw [hci]
      simp [List.getD, hi2]
end

theorem laidOut : laidOutB Tryd.prog = true := by kernel_rfl
theorem wf_i64 {n : Int} (h : (Lit.int .i64 n).wf = true) : -9223372036854775808 ≤ n ∧ n ≤ 9223372036854775807 := by
  simp [Lit.wf, IntKind.min, IntKind.max, IntKind.bits, IntKind.signed] at h
  omega
set_option maxRecDepth 100000 in
/-- A slice of unsigned numbers. -/
theorem open_U {H : Type} {enc : TypeId × Value → H} {W : World} {base : Nat} {v : Value} {d : DataW H} {ps : List MemPlace} (hok : Value.okWide Tryd.prog W .any base 36 v) (h : DataW.Trod enc Tryd.prog W 0 (fun _ => true) true 36 v d ps) :
    ∃ p n c xs, v = .slice p n c ∧ U W p n xs ∧ n ≤ c ∧ n ≤ 9223372036854775807 ∧ (p = none → c = 0) := by
  obtain ⟨p, n, c, zs, rfl, hl, hr, hw, hnc, hcm, hp⟩ := open_nums Tryd.underlying36 Tryd.underlying32 (by kernel_rfl) hok h
  refine ⟨p, n, c, zs, rfl, ⟨hl, hr, fun z hz => wf_u64 (hw z hz)⟩, hnc, ?_, hp⟩
  unfold maxLen at hcm
  omega
end Go.Proofs.YtkolilbebkkpdaaDoor
