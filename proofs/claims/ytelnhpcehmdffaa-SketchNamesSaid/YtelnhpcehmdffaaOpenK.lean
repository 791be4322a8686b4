/-
  Operations' names as arguments: one, and a slice of them, opened.
-/
import Derived.Test.YtelnhpcehmdffaaOpen
import Derived.Lib.SmallJoins
import Derived.Deep.SlicePairs
namespace Go.Proofs.Ytelnhpcehmdffaa
open Go.ChangeShapes Go.WideShapes Go.ChangeAt Go.RowKit Go.Joins

theorem ident_struct : ∃ f0 f1 f2 : Field, Try.prog.underlying 44 = some (.struct #[f0, f1, f2]) ∧ f0.offset = 0 ∧ f1.offset = 1 ∧ f2.offset = 2 ∧ f0.type = 3 ∧ f1.type = 3 ∧ f2.type = 40 := ⟨_, _, _, Try.underlying44, rfl, rfl, rfl, rfl, rfl, rfl⟩
set_option maxRecDepth 100000 in
theorem open_id {H : Type} {enc : TypeId × Value → H} {W : World} {base : Nat} {v : Value} {d : DataW H} {ps : List MemPlace} (hok : Value.okWide Try.prog W .any base 44 v) (h : DataW.Trod enc Try.prog W 0 (fun _ => true) true 44 v d ps) :
    ∃ x y z, v = .agg #[.int .i64 x, .int .i64 y, .int .u64 z] ∧ 0 ≤ z ∧ z < 18446744073709551616 := by
  obtain ⟨v0, v1, v2, y0, y1, y2, n, rfl, _, _, h0, h1, h2⟩ := open_agg3 Try.underlying44 (by kernel_rfl) (by kernel_rfl) hok h
  obtain ⟨a, ha, _, wa⟩ := DataW.trod_int Try.underlying3 h0
  obtain ⟨b, hb, _, wb⟩ := DataW.trod_int Try.underlying3 h1
  obtain ⟨c, hc, _, wc⟩ := DataW.trod_int Try.underlying40 h2
  simp only [List.cons.injEq, and_true] at ha hb hc
  subst ha
  subst hb
  subst hc
  have e := wf_u64 wc
  exact ⟨a, b, c, rfl, e⟩
/-- A slice of n names. -/
def IdsAt (w : World) (p : Option Addr) (n : Nat) (f : Nat → Int × Int × Int) : Prop :=
  ∀ i, i < n → ∃ b off, p = some ⟨b, off, none⟩ ∧ b < w.heap.size ∧ w.cell? ⟨b, off + i * 3, none⟩ = some (.int .i64 (f i).1) ∧ w.cell? ⟨b, off + i * 3 + 1, none⟩ = some (.int .i64 (f i).2.1) ∧ w.cell? ⟨b, off + i * 3 + 2, none⟩ = some (.int .u64 (f i).2.2) ∧ 0 ≤ (f i).2.2 ∧ (f i).2.2 < 18446744073709551616
theorem IdsAt.below {w w' : World} {p : Option Addr} {n : Nat} {f : Nat → Int × Int × Int} (h : IdsAt w p n f) (hb : Below w.heap.size w w') : IdsAt w' p n f := fun i hi => by
  obtain ⟨b, off, hp, hl, h0, h1, h2, h3⟩ := h i hi
  exact ⟨b, off, hp, Nat.lt_of_lt_of_le hl hb.size, (hb.cell (p := ⟨b, off + i * 3, none⟩) hl).trans h0, (hb.cell (p := ⟨b, off + i * 3 + 1, none⟩) hl).trans h1, (hb.cell (p := ⟨b, off + i * 3 + 2, none⟩) hl).trans h2, h3⟩
set_option maxRecDepth 100000 in
theorem open_K {H : Type} {enc : TypeId × Value → H} {W : World} {base : Nat} {v : Value} {d : DataW H} {ps : List MemPlace} (hok : Value.okWide Try.prog W .any base 47 v) (h : DataW.Trod enc Try.prog W 0 (fun _ => true) true 47 v d ps) :
    ∃ p n c f, v = .slice p n c ∧ IdsAt W p n f ∧ n ≤ c ∧ n ≤ 9223372036854775807 ∧ (p = none → c = 0) := by
  obtain ⟨a0, len, cap, rfl⟩ := okWide_slice Try.underlying47 hok
  obtain ⟨fuel, hf⟩ := h
  obtain ⟨f0, f1, f2, hs, o0, o1, o2, t0, t1, t2⟩ := ident_struct
  rcases Go.Deep.open_slice Try.underlying47 hf with ⟨hcs, _⟩ | ⟨a, len', cap', m, n, D, Pl, hcs, _, hl, hm, hmm, _, hx⟩
  · simp [Value.cells] at hcs
    obtain ⟨rfl, rfl, rfl⟩ := hcs
    exact ⟨none, 0, 0, fun _ => (0, 0, 0), rfl, fun i hi => absurd hi (by omega), Nat.le_refl _, Nat.zero_le _, fun _ => rfl⟩
  · simp [Value.cells] at hcs
    obtain ⟨rfl, rfl, rfl⟩ := hcs
    simp only [if_true] at hmm
    subst hmm
    have hcap : len ≤ 9223372036854775807 := by unfold maxLen at hm; omega
    have each : ∀ i, i < len → ∃ s : Int × Int × Int, W.cell? (a.add (i * 3)) = some (.int .i64 s.1) ∧ W.cell? (a.add (i * 3 + 1)) = some (.int .i64 s.2.1) ∧ W.cell? (a.add (i * 3 + 2)) = some (.int .u64 s.2.2) ∧ 0 ≤ s.2.2 ∧ s.2.2 < 18446744073709551616 := by
      intro i hi
      obtain ⟨cs', h1, h2⟩ := hx i (by omega)
      have ce : Try.prog.cellsOf 44 = 3 := by kernel_rfl
      rw [ce] at h1
      obtain ⟨_, hlen, hcell⟩ := World.cells?_some h1
      obtain ⟨xs, k, hk, hxy, _, hxl, hfl⟩ := DataW.trod_struct hs h2
      match xs, hxl, cs', hlen with
      | [y0, y1, y2], _, [v0, v1, v2], _ =>
        have g0 := hfl 0 f0 rfl
        have g1 := hfl 1 f1 rfl
        have g2 := hfl 2 f2 rfl
        have k1 : Try.prog.cellsOf 3 = 1 := by kernel_rfl
        have k2 : Try.prog.cellsOf 40 = 1 := by kernel_rfl
        simp [o0, o1, o2, t0, t1, t2, k1, k2] at g0 g1 g2
        have e0 := hcell 0 (by omega)
        have e1 := hcell 1 (by omega)
        have e2 := hcell 2 (by omega)
        rw [Go.Deep.add_add] at e0 e1 e2
        obtain ⟨x, ha, _, _⟩ := DataW.trod_int Try.underlying3 g0
        obtain ⟨y, hb, _, _⟩ := DataW.trod_int Try.underlying3 g1
        obtain ⟨z, hc, _, wc⟩ := DataW.trod_int Try.underlying40 g2
        simp only [List.cons.injEq, and_true] at ha hb hc
        subst ha
        subst hb
        subst hc
        have e := wf_u64 wc
        exact ⟨(x, y, z), by simpa using e0, by simpa using e1, by simpa using e2, e⟩
    obtain ⟨q, hq⟩ : ∃ q : Nat → Int × Int × Int, ∀ i, i < len → W.cell? (a.add (i * 3)) = some (.int .i64 (q i).1) ∧ W.cell? (a.add (i * 3 + 1)) = some (.int .i64 (q i).2.1) ∧ W.cell? (a.add (i * 3 + 2)) = some (.int .u64 (q i).2.2) ∧ 0 ≤ (q i).2.2 ∧ (q i).2.2 < 18446744073709551616 :=
      ⟨fun i => if h : i < len then (each i h).choose else (0, 0, 0), fun i hi => by simp only [dif_pos hi]; exact (each i hi).choose_spec⟩
    refine ⟨some a, len, _, q, rfl, fun i hi => ?_, hl, hcap, fun h => by cases h⟩
    obtain ⟨h0, h1, h2, h3⟩ := hq i hi
    have hspot : a.spot = none := by
      have h00 := (hq 0 (by omega)).1
      cases hsp : a.spot with
      | none => rfl
      | some s =>
        have e0 : a.add (0 * 3) = a := rfl
        rw [e0] at h00
        unfold World.cell? at h00
        rw [hsp] at h00
        split at h00 <;> simp at h00
    have ea : ∀ i, a.add i = ⟨a.block, a.off + i, none⟩ := by
      intro i
      unfold Addr.add
      by_cases hi0 : i = 0
      · subst hi0; rw [if_pos rfl]; cases a; simp_all
      · rw [if_neg hi0]
    rw [ea] at h0 h1 h2
    exact ⟨a.block, a.off, by cases a; simp_all, cell_lt (a := ⟨a.block, a.off + i * 3, none⟩) h0, h0, h1, h2, h3⟩
end Go.Proofs.Ytelnhpcehmdffaa
