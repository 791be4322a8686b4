/-
  A new roll.
-/
import Derived.Test.YtkolilbebkkpdaaDoorRoCa
namespace Go.Proofs.YtkolilbebkkpdaaDoor
open Go.RowKit Go.Maps Go.Shelf

theorem cardsL_put {k : Nat} (h : k < 7) : putL (cardsL.take k) ((k : Int) + 1) (cardV ((k : Int) + 1) (nth ownersL k)) = cardsL.take (k + 1) := by
  have : k = 0 ∨ k = 1 ∨ k = 2 ∨ k = 3 ∨ k = 4 ∨ k = 5 ∨ k = 6 := by omega
  rcases this with rfl | rfl | rfl | rfl | rfl | rfl | rfl <;> rfl
theorem cardsP_at {k : Nat} (h : k < 7) (h2 : k < cardsP.length) : cardsP[k] = ((k : Int) + 1, nth ownersL k) := by
  have : k = 0 ∨ k = 1 ∨ k = 2 ∨ k = 3 ∨ k = 4 ∨ k = 5 ∨ k = 6 := by omega
  rcases this with rfl | rfl | rfl | rfl | rfl | rfl | rfl <;> rfl
structure New5 (w W : World) : Prop where
  m0 : MapV KI W w.heap.size []
  m1 : MapV KI W (w.heap.size + 1) []
  m2 : MapV KI W (w.heap.size + 2) []
  m3 : MapV KI W (w.heap.size + 3) []
  blk : W.heap[w.heap.size + 4]? = some (.cells #[.map (some w.heap.size), .map (some (w.heap.size + 1)), .map (some (w.heap.size + 1 + 1)), .map (some (w.heap.size + 1 + 1 + 1)), .int .i64 0] 81 (0, 0))
  hb : Below w.heap.size w W
theorem New5.made (w : World) : New5 w (((((w.alloc (.map #[] 0)).alloc (.map #[] 0)).alloc (.map #[] 0)).alloc (.map #[] 0)).alloc (.cells #[.map (some w.heap.size), .map (some (w.heap.size + 1)), .map (some (w.heap.size + 1 + 1)), .map (some (w.heap.size + 1 + 1 + 1)), .int .i64 0] 81)) := by
  have z1 : (w.alloc (.map #[] 0)).heap.size = w.heap.size + 1 := by simp
  have z2 : ((w.alloc (.map #[] 0)).alloc (.map #[] 0)).heap.size = w.heap.size + 2 := by simp
  have z3 : (((w.alloc (.map #[] 0)).alloc (.map #[] 0)).alloc (.map #[] 0)).heap.size = w.heap.size + 3 := by simp
  have z4 : ((((w.alloc (.map #[] 0)).alloc (.map #[] 0)).alloc (.map #[] 0)).alloc (.map #[] 0)).heap.size = w.heap.size + 4 := by simp
  have a0 := MapV.made (K := KI) w
  have a1 := MapV.made (K := KI) (w.alloc (.map #[] 0))
  have a2 := MapV.made (K := KI) ((w.alloc (.map #[] 0)).alloc (.map #[] 0))
  have a3 := MapV.made (K := KI) (((w.alloc (.map #[] 0)).alloc (.map #[] 0)).alloc (.map #[] 0))
  rw [z1] at a1
  rw [z2] at a2
  rw [z3] at a3
  have l1 := Below.lit w (.map #[] 0)
  have l2 := Below.lit (w.alloc (.map #[] 0)) (.map #[] 0)
  have l3 := Below.lit ((w.alloc (.map #[] 0)).alloc (.map #[] 0)) (.map #[] 0)
  have l4 := Below.lit (((w.alloc (.map #[] 0)).alloc (.map #[] 0)).alloc (.map #[] 0)) (.map #[] 0)
  have l5 := Below.lit ((((w.alloc (.map #[] 0)).alloc (.map #[] 0)).alloc (.map #[] 0)).alloc (.map #[] 0)) (.cells #[.map (some w.heap.size), .map (some (w.heap.size + 1)), .map (some (w.heap.size + 1 + 1)), .map (some (w.heap.size + 1 + 1 + 1)), .int .i64 0] 81)
  have h5 := World.alloc_heap_new ((((w.alloc (.map #[] 0)).alloc (.map #[] 0)).alloc (.map #[] 0)).alloc (.map #[] 0)) (.cells #[.map (some w.heap.size), .map (some (w.heap.size + 1)), .map (some (w.heap.size + 1 + 1)), .map (some (w.heap.size + 1 + 1 + 1)), .int .i64 0] 81)
  rw [z4] at h5
  exact ⟨(((a0.below l2).below l3).below l4).below l5, ((a1.below l3).below l4).below l5, (a2.below l4).below l5, a3.below l5, h5, (((l1.trans (l2.mono l1.size)).trans (l3.mono (by omega))).trans (l4.mono (by omega))).trans (l5.mono (by omega))⟩
theorem cells5 {w : World} {b : Nat} {u0 u1 u2 u3 u4 : Value} {t : TypeId} (h : w.heap[b]? = some (.cells #[u0, u1, u2, u3, u4] t (0, 0))) : w.cell? ⟨b, 0, none⟩ = some u0 ∧ w.cell? ⟨b, 1, none⟩ = some u1 ∧ w.cell? ⟨b, 2, none⟩ = some u2 ∧ w.cell? ⟨b, 3, none⟩ = some u3 ∧ w.cell? ⟨b, 4, none⟩ = some u4 := by
  refine ⟨?_, ?_, ?_, ?_, ?_⟩ <;> simp [World.cell?, h]
set_option maxRecDepth 100000 in
set_option maxHeartbeats 2000000 in
theorem New_any (w : World) (p : Option Addr) (c : Nat) (hC : RdE cardE w p cardsP) :
    Calls Tryd.prog 10 #[.slice p 7 c] w fun e w' => ∃ y : Lay, e = .returned (.pointer (some ⟨y.r, 0, none⟩)) ∧ RollAt w' y RS.new ∧ Below w.heap.size w w' ∧ ∀ b ∈ y.foot, w.heap.size ≤ b := by
  obtain ⟨w5, hw5, hN⟩ := nameW (p := fun W => New5 w W) (New5.made w)
  have hz5 : w.heap.size + 4 < w5.heap.size := blk_lt hN.blk
  have hmk : ∀ (t : TypeId) (u : World), (Instr.makeMap t none).run Tryd.prog u = .ok (.map (some u.heap.size)) (u.alloc (.map #[] 0)) := fun t u => run_makeMap t u
  go_enter Tryd.func10, Tryd.ntmps10
  go_wp2_with (first | (rw [hw5.out]) | fail)
  go_loopw [14] (fun i wr => ∃ k : Nat, k ≤ 7 ∧ i = .int .i64 k ∧ MapV KI wr w.heap.size (cardsL.take k) ∧ But w5 wr w.heap.size)
    (fun i _ => 7 - (intOf i).toNat)
  case atStart => exact ⟨0, Nat.zero_le _, rfl, hN.m0, ⟨rfl, rfl, rfl, Nat.le_refl _, fun _ _ _ => rfl⟩⟩
  case round =>
    obtain ⟨k, hk, rfl, hM, hB⟩ := hrel
    by_cases hlt : k < 7
    · obtain ⟨b, off, rfl, hbl, hc⟩ := hC k hlt
      have hat := cardsP_at hlt hlt
      rw [hat] at hc
      have hbw : wr.heap[b]? = w.heap[b]? := (hB.blk b (by omega) (by omega)).trans (hN.hb.block b hbl)
      have hcw : ∀ j u, (cardE.c ((k : Int) + 1, nth ownersL k))[j]? = some u → wr.cell? ⟨b, off + k * 5 + j, none⟩ = some u := fun j u hu => by
        have := hc j u hu
        rw [← this]
        unfold World.cell?
        simp only [hbw]
        rfl
      have q0 : wr.cell? ⟨b, off + k * 5, none⟩ = some (.int .i64 ((k : Int) + 1)) := hcw 0 _ rfl
      have q1 := hcw 1 _ rfl
      have q2 := hcw 2 _ rfl
      have q3 := hcw 3 _ rfl
      have q4 := hcw 4 _ rfl
      have hix1 : (k : Int) < 7 := by omega
      have hbr : wr.heap[w.heap.size + 4]? = w5.heap[w.heap.size + 4]? := hB.blk _ hz5 (by omega)
      obtain ⟨r0, _⟩ := cells5 (hbr.trans hN.blk)
      go_wp2_with fail
      have hbl2 := Below.lit wr (.cells #[.int .i64 ((k : Int) + 1), .int .i64 (nth ownersL k), .int .u64 5, .int .u64 6, .int .u64 7] 69)
      obtain ⟨c0, c1, c2, c3, c4⟩ := cells5 (World.alloc_heap_new wr (.cells #[.int .i64 ((k : Int) + 1), .int .i64 (nth ownersL k), .int .u64 5, .int .u64 6, .int .u64 7] 69))
      have r0' : (wr.alloc (.cells #[.int .i64 ((k : Int) + 1), .int .i64 (nth ownersL k), .int .u64 5, .int .u64 6, .int .u64 7] 69)).cell? ⟨w.heap.size + 1 + 1 + 1 + 1, 0, none⟩ = some (.map (some w.heap.size)) := (hbl2.cell (cell_lt r0)).trans r0
      have hM2 := hM.below hbl2
      obtain ⟨w6, hw6, hM2⟩ := nameW (p := fun W => MapV KI W w.heap.size (cardsL.take k)) hM2
      rw [hw6.out] at c0 c1 c2 c3 c4 r0' hbl2
      rw [hw6.out]
      clear q0 q1 q2 q3 q4 hcw r0
      refine wp_region_still_tail 7 (by kernel_rfl) (by kernel_rfl) ?_
      simp only [List.take_succ_cons, List.take_zero, List.drop_succ_cons, List.drop_zero]
      repeat still_step
      refine wpStill_nil ?_
      change wpList _ _ _ _ _ w6.drew
      have hM3 : MapV KI w6.drew w.heap.size (cardsL.take k) := hM2.keep rfl
      have hlen : (cardsL.take k).length ≤ 1000000 := Nat.le_trans (List.length_take_le ..) (by omega)
      have hkk : i64ok ((k : Int) + 1) := by unfold i64ok; omega
      go_wp2_with (first
        | (at_mapUpdate; refine wp_upd (K := KI) _ rfl _ _ _ 77 rfl 69 Tryd.underlying77 w.heap.size (cardsL.take k) hlen rfl hM3 ((k : Int) + 1) (cardV ((k : Int) + 1) (nth ownersL k)) rfl rfl hkk ?_; intro w8 hM8 hB8 hz8)
        | fail)
      rw [cardsL_put hlt] at hM8
      have hB9 : But w5 w8 w.heap.size := (hB.trans ((But.of_below hbl2 _).trans (But.of_below (Below.refl _ _).drew _))).trans hB8
      go_roundw
      case rel => exact ⟨k + 1, by omega, by go_num, hM8, hB9⟩
      case measure => simp [intOf]; omega
    · have hk7 : k = 7 := by omega
      subst hk7
      have hR : RollAt wr ⟨w.heap.size + 4, w.heap.size, w.heap.size + 1, w.heap.size + 2, w.heap.size + 3, []⟩ RS.new := by
        refine ⟨?_, hM, hN.m1.keep (hB.blk _ (by omega) (by show w.heap.size + 1 ≠ _; omega)), hN.m2.keep (hB.blk _ (by omega) (by show w.heap.size + 2 ≠ _; omega)), hN.m3.keep (hB.blk _ (by omega) (by show w.heap.size + 3 ≠ _; omega)), fun x hx => (by cases hx), rfl, ?_⟩
        · exact (hB.blk _ hz5 (by omega)).trans hN.blk
        · show ([w.heap.size + 4, w.heap.size, w.heap.size + 1, w.heap.size + 2, w.heap.size + 3] ++ []).Nodup
          simp
      have hbf : Below w.heap.size w wr := ⟨hB.os.trans hN.hb.os, hB.tape.trans hN.hb.tape, hB.out.trans hN.hb.output, Nat.le_trans hN.hb.size hB.size, fun i hi => (hB.blk i (by omega) (by omega)).trans (hN.hb.block i hi)⟩
      go_wp2_with fail
      go_ret
      refine ⟨_, rfl, hR, hbf, fun b hb => ?_⟩
      replace hb : b ∈ [w.heap.size + 4, w.heap.size, w.heap.size + 1, w.heap.size + 2, w.heap.size + 3] := hb
      simp only [List.mem_cons, List.not_mem_nil, or_false] at hb
      omega
end Go.Proofs.YtkolilbebkkpdaaDoor
