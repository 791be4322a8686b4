/-
  The cards.
-/
import Derived.Test.YtkolilbebkkpdaaDoorRoEl
namespace Go.Proofs.YtkolilbebkkpdaaDoor
open Go.RowKit Go.Maps Go.Shelf

def cardE : El (Int × Int) where
  t := 69
  st := 25
  sz := 5
  bt := 40
  z := card0
  c := fun x => [.int .i64 x.1, .int .i64 x.2, .int .u64 5, .int .u64 6, .int .u64 7]
  hlen := fun _ => rfl
  hone := fun x u hu => by
    simp only [List.mem_cons, List.not_mem_nil, or_false] at hu
    rcases hu with rfl | rfl | rfl | rfl | rfl <;> rfl
  hund := Tryd.underlying25
  hinf := by kernel_rfl
  hz := rfl
  hp := by decide
  hb := by decide
def ownersL : List Int := [1, 2, 3, 1, 2, 4, 1]
def cardsP : List (Int × Int) := [(1, 1), (2, 2), (3, 3), (4, 1), (5, 2), (6, 4), (7, 1)]
theorem cardsP_step {k : Nat} (h : k < 7) : cardsP.take (k + 1) = cardsP.take k ++ [((k : Int) + 1, nth ownersL k)] := by
  have : k = 0 ∨ k = 1 ∨ k = 2 ∨ k = 3 ∨ k = 4 ∨ k = 5 ∨ k = 6 := by omega
  rcases this with rfl | rfl | rfl | rfl | rfl | rfl | rfl <;> rfl
theorem OwnE.weaken {α : Type} {E : El α} {w : World} {B B' : Nat} {v : Value} {l : List α} (h : OwnE E w B' v l) (hB : B ≤ B') : OwnE E w B v l := by
  refine ⟨h.1, ?_⟩
  rcases h.2 with h1 | ⟨g, cap, cur, hv, hg, h2⟩
  · exact .inl h1
  · exact .inr ⟨g, cap, cur, hv, Nat.le_trans hB hg, h2⟩
theorem UI.row (w : World) (xs : List Int) (hx : ∀ x ∈ xs, -9223372036854775808 ≤ x ∧ x ≤ 9223372036854775807) : UI (w.alloc (.cells (xs.map (Value.int .i64)).toArray 3)) (some ⟨w.heap.size, 0, none⟩) xs.length xs := by
  refine ⟨rfl, .inr ⟨w.heap.size, 0, rfl, fun i hi => ?_⟩, hx⟩
  rw [Nat.zero_add, cell_of_row _ w.heap.size i _ 3 (0, 0) (World.alloc_heap_new w _)]
  simp []
set_option maxRecDepth 100000 in
set_option maxHeartbeats 2000000 in
theorem Cards_any (w : World) :
    Calls Tryd.prog 11 #[] w fun e w' => ∃ v, e = .returned v ∧ OwnE cardE w' w.heap.size v cardsP ∧ Below w.heap.size w w' := by
  have hU := UI.row w ownersL (by unfold ownersL; decide)
  replace hU : UI (w.alloc (.cells #[.int .i64 1, .int .i64 2, .int .i64 3, .int .i64 1, .int .i64 2, .int .i64 4, .int .i64 1] 3)) (some ⟨w.heap.size, 0, none⟩) 7 ownersL := hU
  have hb0 := Below.lit w (.cells #[.int .i64 1, .int .i64 2, .int .i64 3, .int .i64 1, .int .i64 2, .int .i64 4, .int .i64 1] 3)
  have hz0 : (w.alloc (.cells #[.int .i64 1, .int .i64 2, .int .i64 3, .int .i64 1, .int .i64 2, .int .i64 4, .int .i64 1] 3)).heap.size = w.heap.size + 1 := by simp
  obtain ⟨w1, hw1, hU⟩ := nameW (p := fun W => UI W (some ⟨w.heap.size, 0, none⟩) 7 ownersL) hU
  rw [hw1.out] at hb0 hz0
  go_enter Tryd.func11, Tryd.ntmps11
  go_wp2_with (first | (rw [hw1.out]) | fail)
  go_loopw [1, 3] (fun v i wr => ∃ k : Nat, k ≤ 7 ∧ i = .int .i64 k ∧ OwnE cardE wr w1.heap.size v (cardsP.take k) ∧ Below w1.heap.size w1 wr)
    (fun _ i _ => 7 - (intOf i).toNat)
  case atStart => exact ⟨0, Nat.zero_le _, rfl, OwnE.nil _ _, Below.refl _ _⟩
  case round =>
    obtain ⟨k, hk, rfl, hown, hb⟩ := hrel
    by_cases hlt : k < 7
    · obtain ⟨b, off, he, _, hc, hx0, hx1⟩ := (hU.below hb).look hlt
      injection he with he
      injection he with he1 he2
      subst he1; subst he2
      rw [Nat.zero_add] at hc
      have hst := Lib.hid (cardsP_step hlt)
      have hlen : (cardsP.take k).length ≤ 1000000 := Nat.le_trans (List.length_take_le ..) (by omega)
      have hz := hb.size
      go_wp2_with (first
        | (at_builtin; refine app_e cardE rfl _ _ rfl ((k : Int) + 1, nth ownersL k) rfl hown rfl rfl hlen hz ?_; intro v' w2 hown2 hg2)
        | fail)
      have hb2 : Below w1.heap.size w1 w2 := hb.grown hg2 hb.size fun g e => (hown.lt e).1
      go_roundw
      case rel => exact ⟨k + 1, by omega, by go_num, by rw [hst.out]; exact hown2, hb2⟩
      case measure => simp [intOf]; omega
    · have hk7 : k = 7 := by omega
      subst hk7
      go_wp2_with fail
      go_ret
      exact ⟨_, rfl, OwnE.weaken (hown : OwnE cardE wr w1.heap.size _ cardsP) hb0.size, hb0.trans (hb.mono hb0.size)⟩
end Go.Proofs.YtkolilbebkkpdaaDoor
