/-
  Sums (3): a state takes one word.
-/
import Derived.Test.YtcnhgkgabddjmaaHsB
import Derived.Deep.RegionHeld3
namespace Go.Proofs.Ytcnhgkgabddjmaa
open Go.RowKit
attribute [local go_sem] T_V

/-- A state that takes a word. -/
def stepF (s : F) (k : Nat) (x : Int) : F := fpow (T 37 * s + T (x + (k + 1))) 17
/-- A state in memory. -/
def StB (w : World) (b : Nat) (s : F) (k : Nat) : Prop := w.heap[b]? = some (.cells #[.int .u64 (V s), .int .u64 k] 105 (0, 0))
theorem StB.c0 {w : World} {b : Nat} {s : F} {k : Nat} (h : StB w b s k) : w.cell? ⟨b, 0, none⟩ = some (.int .u64 (V s)) := by unfold StB at h; simp [World.cell?, h]
theorem StB.c1 {w : World} {b : Nat} {s : F} {k : Nat} (h : StB w b s k) : w.cell? ⟨b, 1, none⟩ = some (.int .u64 k) := by unfold StB at h; simp [World.cell?, h]
theorem StB.free {w : World} {b : Nat} {s : F} {k : Nat} (h : StB w b s k) (i : Nat) : w.frozen? ⟨b, i, none⟩ = false := by unfold StB at h; simp [World.frozen?, h]
theorem StB.put0 {w : World} {b : Nat} {s : F} {k : Nat} (h : StB w b s k) (s' : F) : StB (w.setCell ⟨b, 0, none⟩ (.int .u64 (V s'))) b s' k := by
  unfold StB at h ⊢
  show (w.heap.modify b _)[b]? = _
  rw [Array.getElem?_modify, if_pos rfl, h]; rfl
theorem StB.put1 {w : World} {b : Nat} {s : F} {k : Nat} (h : StB w b s k) : StB (w.setCell ⟨b, 1, none⟩ (.int .u64 ((k : Int) + 1))) b s (k + 1) := by
  unfold StB at h ⊢
  show (w.heap.modify b _)[b]? = _
  rw [Array.getElem?_modify, if_pos rfl, h]; rfl
theorem StB.keep {w w' : World} {b : Nat} {s : F} {k : Nat} (h : StB w b s k) (e : w'.heap[b]? = w.heap[b]?) : StB w' b s k := e.trans h
theorem StB.lt {w : World} {b : Nat} {s : F} {k : Nat} (h : StB w b s k) : b < w.heap.size := (Array.getElem?_eq_some_iff.1 h).1
theorem grown_cell (W : World) (b i : Nat) (v : Value) : W.grownBy (W.setCell ⟨b, i, none⟩ v) (some b) :=
  ⟨rfl, rfl, rfl, by simp [World.setCell], fun k _ hk => Below.heap_setCell _ _ _ k (fun e => hk (by rw [e]))⟩
theorem grown_trans {w v u : World} {b : Nat} (h : w.grownBy v (some b)) (k : v.grownBy u (some b)) : w.grownBy u (some b) :=
  ⟨k.os.trans h.os, k.tape.trans h.tape, k.output.trans h.output, Nat.le_trans h.size k.size, fun i hi hne => (k.block i (by have := h.size; omega) hne).trans (h.block i hi hne)⟩
theorem grown_below {w v u : World} {b : Nat} (h : w.grownBy v (some b)) (hb : Below v.heap.size v u) : w.grownBy u (some b) :=
  ⟨hb.os.trans h.os, hb.tape.trans h.tape, hb.output.trans h.output, Nat.le_trans h.size hb.size, fun i hi hne => (hb.block i (by have := h.size; omega)).trans (h.block i hi hne)⟩
theorem keep3f {wl W : World} {b o o' : Nat} {v v' : Value} (h : Below wl.heap.size wl W) (h1 : wl.cell? ⟨b, o, none⟩ = some v) (h2 : wl.cell? ⟨b, o', none⟩ = some v') (h3 : wl.frozen? ⟨b, o, none⟩ = false) : (W.cell? ⟨b, o, none⟩ = some v ∧ W.cell? ⟨b, o', none⟩ = some v' ∧ W.frozen? ⟨b, o, none⟩ = false) ∧ Below wl.heap.size wl W :=
  ⟨⟨(h.cell (cell_lt h1)).trans h1, (h.cell (cell_lt h2)).trans h2, (h.frozen (cell_lt h1)).trans h3⟩, h⟩
set_option maxRecDepth 100000 in
set_option maxHeartbeats 2000000 in
theorem take_any (b g k : Nat) (s : F) (x : Int) (w : World) (hS : StB w b s k) (hc : w.cell? ⟨g, 0, none⟩ = some (.int .u64 x)) (hx0 : 0 ≤ x) (hx1 : x + (k + 1) < 18446744073709551616) :
    Calls Try.prog 61 #[.pointer (some ⟨b, 0, none⟩), .slice (some ⟨g, 0, none⟩) 1 1] w fun e w' => (∃ v, e = .returned v) ∧ StB w' b (stepF s k x) (k + 1) ∧ w.grownBy w' (some b) := by
  go_enter Try.func61, Try.ntmps61
  go_wp2_with fail
  go_loopw [8] (fun iv wr => (iv = .int .i64 0 ∧ wr = w) ∨ (iv = .int .i64 1 ∧ StB wr b (stepF s k x) (k + 1) ∧ w.grownBy wr (some b))) (fun iv _ => 1 - (intOf iv).toNat)
  case atStart => exact .inl ⟨rfl, rfl⟩
  case round =>
    rcases hrel with ⟨rfl, rfl⟩ | ⟨rfl, h1, h2⟩
    · have hc0 := hS.c0
      have hc1 := hS.c1
      have hf1 := hS.free 1
      have hS2 := hS.put1
      have d0 := hS2.c0
      have d1 := hS2.c1
      have f0 := hS2.free 0
      rw [show ((k + 1 : Nat) : Int) = (k : Int) + 1 from rfl] at d1
      have hk1 : (k : Int) + 1 < 18446744073709551616 := by omega
      have hwr : IntKind.u64.wrap (x + ((k : Int) + 1)) = x + ((k : Int) + 1) := IntWalk.u64_in _ (by omega)
      have hg2 : wr.grownBy (wr.setCell ⟨b, 1, none⟩ (.int .u64 ((k : Int) + 1))) (some b) := grown_cell wr b 1 _
      go_wp2_with fail
      obtain ⟨w1, e1⟩ : ∃ w1, Hid (wr.setCell ⟨b, 1, none⟩ (.int .u64 ((k : Int) + 1)) = w1) := ⟨_, Lib.hid rfl⟩
      rw [e1.out] at hS2 d0 d1 f0 hg2 ⊢
      clear e1 hc0 hc1 hf1 hc
      have hbd : Below w1.heap.size w1 w1.drew := (Below.refl _ _).drew
      go_region_with (first
        | (go_at_call 71; (with_reducible refine (mul_any _ _ _ (by omega) (by omega) (V_lo _) (V_64 _)).mono ?_); rintro e w9 ⟨rfl, rfl⟩)
        | (go_at_call 62; (try rw [hwr]); (with_reducible refine (num_any _ _ (by omega) (by omega)).mono ?_); rintro e w9 ⟨rfl, rfl⟩)
        | (go_at_call 70; (with_reducible refine (add_any _ _ _ (V_lo _) (V_64 _) (V_lo _) (V_64 _)).mono ?_); rintro e w9 ⟨rfl, rfl⟩)
        | (go_at_call 69; (with_reducible refine (pow_b hbd _ _ (V_lo _) (V_64 _) (by omega) (by omega)).mono ?_); rintro e w9 ⟨rfl, hb9⟩; have hS9 := hS2.keep (hb9.block b hS2.lt); have e0 := hS9.c0; have e2 := hS9.free 0))
      all_goals
        have hS10 : StB (w9.setCell ⟨b, 0, none⟩ (.int .u64 (V (fpow (T 37 * s + T (x + ((k : Int) + 1))) 17)))) b (stepF s k x) (k + 1) := hS9.put0 _
        have hg := grown_trans (grown_below hg2 hb9) (grown_cell w9 b 0 (.int .u64 (V (fpow (T 37 * s + T (x + ((k : Int) + 1))) 17))))
        clear hb9 hS9 e0 e2
        generalize w9.setCell ⟨b, 0, none⟩ (.int .u64 (V (fpow (T 37 * s + T (x + ((k : Int) + 1))) 17))) = w10 at *
        go_wp2
        go_roundw
        case rel => exact .inr ⟨rfl, hS10, hg⟩
        case measure => simp [intOf]
    · go_wp2_with fail
      go_end0
      exact ⟨⟨_, rfl⟩, h1, h2⟩
end Go.Proofs.Ytcnhgkgabddjmaa
