/-
  A slice of shares as an argument, opened.
-/
import Derived.Test.YtpngkdhfjginlaaOpenS
import Derived.Test.YtpngkdhfjginlaaShMem
import Derived.Deep.SlicePairs
namespace Go.Proofs.Ytpngkdhfjginlaa
open Go.ChangeShapes Go.WideShapes Go.ChangeAt Go.RowKit

theorem share_struct : ∃ f0 f1 : Field, Try.prog.underlying 33 = some (.struct #[f0, f1]) ∧ f0.offset = 0 ∧ f1.offset = 1 ∧ f0.type = 22 ∧ f1.type = 22 := ⟨_, _, Try.underlying33, rfl, rfl, rfl, rfl⟩
theorem open_S {H : Type} {enc : TypeId × Value → H} {W : World} {base : Nat} {v : Value} {d : DataW H} {ps : List MemPlace} (hok : Value.okWide Try.prog W .any base 27 v) (h : DataW.Trod enc Try.prog W 0 (fun _ => true) true 27 v d ps) :
    ∃ p n c l, v = .slice p n c ∧ Sh W p n l ∧ n ≤ c ∧ n ≤ 9223372036854775807 ∧ (p = none → c = 0) := by
  obtain ⟨a0, len, cap, rfl⟩ := okWide_slice Try.underlying27 hok
  obtain ⟨fuel, hf⟩ := h
  obtain ⟨f0, f1, hs, o0, o1, t0, t1⟩ := share_struct
  rcases Go.Deep.open_slice_pairs Try.underlying27 hs (by kernel_rfl) o0 o1 (by rw [t0]; kernel_rfl) (by rw [t1]; kernel_rfl) hf with ⟨hcs, _⟩ | ⟨a, len', cap', m, n, V0, V1, D0, D1, P0, P1, hcs, _, hl, hm, hmm, hx, hc⟩
  · simp [Value.cells] at hcs
    obtain ⟨rfl, rfl, rfl⟩ := hcs
    exact ⟨none, 0, 0, [], rfl, Sh.nil, Nat.le_refl _, Nat.zero_le _, fun _ => rfl⟩
  · simp [Value.cells] at hcs
    obtain ⟨rfl, rfl, rfl⟩ := hcs
    simp only [if_true] at hmm
    subst hmm
    have hcap : len ≤ 9223372036854775807 := by unfold maxLen at hm; omega
    have hnum : ∀ i, i < len → ∃ s : Int × Int, W.cell? (a.add (i * 2)) = some (.int .u64 s.1) ∧ W.cell? (a.add (i * 2 + 1)) = some (.int .u64 s.2) ∧ (0 ≤ s.1 ∧ s.1 < 18446744073709551616) ∧ 0 ≤ s.2 ∧ s.2 < 18446744073709551616 := by
      intro i hi
      obtain ⟨h1, h2, h3, h4⟩ := hc i (by omega)
      rw [t0] at h3
      rw [t1] at h4
      obtain ⟨y, ha, _, wa⟩ := DataW.trod_int Try.underlying22 h3
      obtain ⟨z, hb, _, wb⟩ := DataW.trod_int Try.underlying22 h4
      simp only [List.cons.injEq, and_true] at ha hb
      have e1 := wf_u64 wa
      have e2 := wf_u64 wb
      exact ⟨(y, z), by rw [h1, ha], by rw [h2, hb], by simp only; omega, by simp only; omega⟩
    obtain ⟨q, hq⟩ : ∃ q : Nat → Int × Int, ∀ i, i < len → W.cell? (a.add (i * 2)) = some (.int .u64 (q i).1) ∧ W.cell? (a.add (i * 2 + 1)) = some (.int .u64 (q i).2) ∧ (0 ≤ (q i).1 ∧ (q i).1 < 18446744073709551616) ∧ 0 ≤ (q i).2 ∧ (q i).2 < 18446744073709551616 :=
      ⟨fun i => if h : i < len then (hnum i h).choose else (0, 0), fun i hi => by simp only [dif_pos hi]; exact (hnum i hi).choose_spec⟩
    refine ⟨some a, len, _, (List.range len).map q, rfl, ⟨by simp, ?_, ?_⟩, hl, hcap, fun h => by cases h⟩
    · by_cases h0 : len = 0
      · subst h0; exact .inl (by simp [flat])
      · have h00 := (hq 0 (by omega)).1
        have hspot : a.spot = none := by
          cases hsp : a.spot with
          | none => rfl
          | some s =>
            have e0 : a.add (0 * 2) = a := rfl
            rw [e0] at h00
            unfold World.cell? at h00
            rw [hsp] at h00
            split at h00 <;> simp at h00
        have ea : ∀ i, a.add i = ⟨a.block, a.off + i, none⟩ := by
          intro i
          unfold Addr.add
          by_cases hi0 : i = 0
          · subst hi0; rw [if_pos rfl]; cases a; simp_all
          · rw [if_neg hi0]
        refine .inr ⟨a.block, a.off, by cases a; simp_all, fun i hi => ?_⟩
        have hll : ((List.range len).map q).length = len := by simp
        have hi2 : i < len * 2 := by rw [flat_length, hll] at hi; exact hi
        obtain ⟨g1, g2⟩ := flat_get ((List.range len).map q) (i / 2) (by rw [hll]; omega)
        have hsh : sh ((List.range len).map q) (i / 2) = q (i / 2) := by rw [sh_eq (by rw [hll]; omega)]; simp
        rw [hsh] at g1 g2
        obtain ⟨k1, k2, _⟩ := hq (i / 2) (by omega)
        rw [ea] at k1 k2
        rcases Nat.mod_two_eq_zero_or_one i with h1 | h1
        · have e : i / 2 * 2 = i := by omega
          rw [e] at g1 k1
          rw [k1, ← g1, List.getElem?_eq_getElem hi]
        · have e : i / 2 * 2 + 1 = i := by omega
          rw [e] at g2 k2
          rw [k2, ← g2, List.getElem?_eq_getElem hi]
    · intro s hs
      obtain ⟨i, hi, rfl⟩ := List.mem_map.1 hs
      exact (hq i (List.mem_range.1 hi)).2.2
end Go.Proofs.Ytpngkdhfjginlaa
