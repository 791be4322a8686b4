/-
  The document's roll: a new one; whose device it is.
-/
import Derived.Test.YtkolilbebkkpdaaDoorRmF
namespace Go.Proofs.YtkolilbebkkpdaaDoor
open Go.RowKit Go.Maps

set_option maxRecDepth 100000 in
set_option maxHeartbeats 4000000 in
theorem NewR_any (w : World) (p : Option Addr) (c : Nat) :
    Calls Tryd.prog 27 #[.slice p 7 c] w fun e w' => e = .returned (.agg #[.slice p 7 c, .slice none 0 0, .slice none 0 0, .slice none 0 0, .int .i64 0, .slice none 0 0]) ∧ Below w.heap.size w w' := by
  have hb := Below.lit w (.cells #[.slice p 7 c, .slice none 0 0, .slice none 0 0, .slice none 0 0, .int .i64 0, .slice none 0 0] 60)
  have hgw := World.alloc_heap_new w (.cells #[.slice p 7 c, .slice none 0 0, .slice none 0 0, .slice none 0 0, .int .i64 0, .slice none 0 0] 60)
  go_enter Tryd.func27, Tryd.ntmps27
  go_wp2_with fail
  refine bodyPost_ret (v := .agg #[.slice p 7 c, .slice none 0 0, .slice none 0 0, .slice none 0 0, .int .i64 0, .slice none 0 0]) ?_ rfl ?_
  · exact results_cell_row rfl _ _ w.heap.size 60 _ (0, 0) _ rfl hgw Tryd.underlying60 rfl (by kernel_rfl)
  · exact ⟨rfl, hb⟩
theorem ofD_at {k : Nat} (hk : k < 7) : ofD ((k : Int) + 1) = nth ownersL k := by
  have : k = 0 ∨ k = 1 ∨ k = 2 ∨ k = 3 ∨ k = 4 ∨ k = 5 ∨ k = 6 := by omega
  rcases this with rfl | rfl | rfl | rfl | rfl | rfl | rfl <;> rfl
set_option maxRecDepth 100000 in
set_option maxHeartbeats 4000000 in
theorem OfR_any (w : World) (p : Option Addr) (c : Nat) (v1 v2 v3 v4 v5 : Value) (d : Int) (hRd : RdE cardE w p cardsP) :
    Calls Tryd.prog 26 #[.agg #[.slice p 7 c, v1, v2, v3, v4, v5], .int .i64 d] w fun e w' => e = .returned (.int .i64 (ofD d)) ∧ Below w.heap.size w w' := by
  have hb := Below.lit w (.cells #[.slice p 7 c, v1, v2, v3, v4, v5] 60)
  have hgw := World.alloc_heap_new w (.cells #[.slice p 7 c, v1, v2, v3, v4, v5] 60)
  have hR1 := hRd.below hb
  obtain ⟨wb, hwb, hgw⟩ := nameW (p := fun W => W.heap[w.heap.size]? = some (.cells #[.slice p 7 c, v1, v2, v3, v4, v5] 60 (0, 0))) hgw
  rw [hwb.out] at hb hR1
  have hc0 : wb.cell? ⟨w.heap.size, 0, none⟩ = some (.slice p 7 c) := by simp [World.cell?, hgw]
  obtain ⟨r, hr⟩ : ∃ r, Hid (ofD d = r) := ⟨_, Lib.hid rfl⟩
  rw [hr.out]
  go_enter Tryd.func26, Tryd.ntmps26
  go_wp2_with (first | (rw [hwb.out]) | fail)
  go_loopw [5] (fun i wr => ∃ k : Nat, k ≤ 7 ∧ i = .int .i64 k ∧ Hid (∀ j, j < k → (j : Int) + 1 ≠ d) ∧ wb = wr) (fun i _ => 7 - (intOf i).toNat)
  case atStart => exact ⟨0, by omega, rfl, Lib.hid (fun j hj => absurd hj (by omega)), rfl⟩
  case round =>
    obtain ⟨k, hk, rfl, hno, rfl⟩ := hrel
    by_cases hlt : k < 7
    · obtain ⟨b, off, rfl, hbl, hcc⟩ := hR1 k (by show k < 7; exact hlt)
      rw [cardsP_at hlt] at hcc
      have q0 : wb.cell? ⟨b, off + k * 5, none⟩ = some (.int .i64 ((k : Int) + 1)) := hcc 0 _ rfl
      have q1 : wb.cell? ⟨b, off + k * 5 + 1, none⟩ = some (.int .i64 (nth ownersL k)) := hcc 1 _ rfl
      have hix1 : (0 : Int) ≤ (k : Int) := by omega
      have hix2 : (k : Int) < (7 : Int) := by omega
      obtain ⟨o, ho⟩ : ∃ o, Hid (nth ownersL k = o) := ⟨_, Lib.hid rfl⟩
      obtain ⟨kd, hkd⟩ : ∃ kd, Hid ((k : Int) + 1 = kd) := ⟨_, Lib.hid rfl⟩
      rw [ho.out] at q1
      rw [hkd.out] at q0
      replace hcc := Lib.hid hcc
      by_cases hd : kd = d
      · have t1 : (kd == d) = true := beq_iff_eq.2 hd
        have hro : Hid (r = o) := Lib.hid (by rw [← hr.out, ← hd, ← hkd.out, ofD_at hlt, ho.out])
        replace hd := Lib.hid hd
        go_wp2_with fail
        go_ret
        exact ⟨ret_int hro.out.symm, hb⟩
      · have t1 : (kd == d) = false := beq_eq_false_iff_ne.2 hd
        replace hd := Lib.hid hd
        go_wp2_with fail
        go_roundw
        case rel => exact ⟨k + 1, by omega, by go_num, Lib.hid (fun j hj => by
          rcases Nat.lt_or_ge j k with h | h
          · exact hno.out j h
          · have : j = k := by omega
            subst this
            rw [hkd.out]; exact hd.out), trivial⟩
        case measure => simp [intOf]; omega
    · have hk7 : k = 7 := by omega
      have hr0 : Hid (r = 0) := Lib.hid (by
        rw [← hr.out]
        have := hno.out
        subst hk7
        have h0 := this 0 (by omega)
        have h1 := this 1 (by omega)
        have h2 := this 2 (by omega)
        have h3 := this 3 (by omega)
        have h4 := this 4 (by omega)
        have h5 := this 5 (by omega)
        have h6 := this 6 (by omega)
        unfold ofD
        omega)
      go_wp2_with fail
      go_ret
      exact ⟨ret_int hr0.out.symm, hb⟩
end Go.Proofs.YtkolilbebkkpdaaDoor

