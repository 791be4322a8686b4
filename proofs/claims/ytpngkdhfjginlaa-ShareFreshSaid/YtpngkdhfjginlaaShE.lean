/-
  Shares (5): the document's example.
-/
import Derived.Test.YtpngkdhfjginlaaShD
namespace Go.Proofs.Ytpngkdhfjginlaa
open Go.RowKit
attribute [local go_sem] T_V

theorem fromOk_lin (a b : F) (xs ys fs : List F) (h : FromOk xs ys fs) (hd : xs.Nodup) (hl : 2 ≤ xs.length) (hv : ∀ i, i < xs.length → coef ys i = ev [a, b] (coef xs i)) (z : F) : ev fs z = ev [a, b] z := by
  have e : trimF fs = trimF [a, b] := same_of_values fs [a, b] xs (h.len hd) (by simpa using hl) hd fun x hx => by
    obtain ⟨i, hi, rfl⟩ := List.getElem_of_mem hx
    rw [← coef_lt hi, h.val hd i hi, hv i hi]
  rw [← ev_trimF fs, e, ev_trimF]

set_option maxRecDepth 100000 in
theorem lives9 (w : World) : Calls Try.prog 15 #[] w fun e w' => e = .returned (.bool true) ∧ Below w.heap.size w w' := by
  have hb0 : Below w.heap.size w (w.alloc (.cells #[.int .u64 2] 22)) := (Below.refl _ _).alloc (Nat.le_refl _) _
  have hU : U (w.alloc (.cells #[.int .u64 2] 22)) (some ⟨w.heap.size, 0, none⟩) 1 [2] := ⟨rfl, (Arr.new w 22 [.int .u64 2]).rd, by simp⟩
  go_enter Try.func15, Try.ntmps15
  go_wp2_with fail
  refine (Split_any 5 _ 1 [2] 1 3 _ (by omega) (by omega) hU (fun h => by cases h) (by omega) (by omega) (by omega)).mono ?_
  rintro e w1 ⟨v, rfl, hown, hb1⟩
  obtain ⟨p, c, rfl, hc, hL⟩ := hown.u
  have e3 : splitL (([5, 2] : List Int).map T) (Int.toNat 3) = [(1, 7), (2, 9), (3, 11)] := by decide +kernel
  rw [e3] at hL
  clear hown e3
  have hc' : 3 ≤ c := hc
  obtain ⟨b, off, rfl, _, hc1, hc2⟩ := hL.look (i := 0) (by decide)
  have hL2 := hL.drop 1 (by decide)
  go_wp2_with fail
  refine (Join_ok _ 2 [(2, 9), (3, 11)] (c - 1) _ hL2 (by omega) (by omega) (by decide +kernel)).mono ?_
  rintro e w2 ⟨fs, rfl, hok, hb2⟩
  have h5 : V (ev fs 0) = 5 := by
    rw [fromOk_lin (T 5) (T 2) _ _ fs hok (by decide +kernel) (by decide) (by decide +kernel) 0]
    decide +kernel
  rw [h5]
  clear h5 hok
  have k1 : w2.cell? ⟨b, off, none⟩ = some (.int .u64 1) := (hb2.cell (cell_lt (a := ⟨b, off + 0 * 2, none⟩) hc1)).trans hc1
  have k2 : w2.cell? ⟨b, off + 1, none⟩ = some (.int .u64 7) := (hb2.cell (cell_lt (a := ⟨b, off + 0 * 2 + 1, none⟩) hc2)).trans hc2
  have hc3 := (hL.cell (i := 2) (by decide)).1
  have hc4 := (hL.cell (i := 2) (by decide)).2
  have k3 : w2.cell? ⟨b, off + 4, none⟩ = some (.int .u64 3) := (hb2.cell (cell_lt (a := ⟨b, off + 2 * 2, none⟩) hc3)).trans hc3
  have k4 : w2.cell? ⟨b, off + 4 + 1, none⟩ = some (.int .u64 11) := (hb2.cell (cell_lt (a := ⟨b, off + 2 * 2 + 1, none⟩) hc4)).trans hc4
  have hbf : Below w.heap.size w w2 := (hb0.trans (hb1.mono hb0.size)).trans (hb2.mono (Nat.le_trans hb0.size hb1.size))
  clear hL hL2 hc1 hc2 hc3 hc4 hb0 hb1 hb2 hU
  go_wp2
  go_ret
  exact ⟨rfl, hbf⟩
end Go.Proofs.Ytpngkdhfjginlaa
