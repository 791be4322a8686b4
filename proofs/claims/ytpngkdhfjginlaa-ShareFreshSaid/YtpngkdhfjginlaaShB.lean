/-
  The contracts of the helpers of shares (2): are shares the same; the document's example.
-/
import Derived.Test.YtpngkdhfjginlaaShA
namespace Go.Proofs.Ytpngkdhfjginlaa
open Go.RowKit
attribute [local go_sem] T_V

set_option maxRecDepth 100000 in
theorem Same_any (p q : Option Addr) (n : Nat) (l : List (Int × Int)) (c d : Nat) (w : World) (hL : Sh w p n l) (hM : Sh w q n l) (hn : n ≤ 9223372036854775807) :
    Calls Try.prog 12 #[.slice p n c, .slice q n d] w fun e w' => e = .returned (.bool true) ∧ Below w.heap.size w w' := by
  have hne : ((n : Int) != n) = false := bne_self_eq_false _
  go_enter Try.func12, Try.ntmps12
  go_wp2
  go_loopw [5] (fun i wr => ∃ k : Nat, k ≤ n ∧ i = .int .i64 k ∧ Below w.heap.size w wr)
    (fun i _ => n - (intOf i).toNat)
  case atStart => exact ⟨0, Nat.zero_le _, rfl, Below.refl _ _⟩
  case round =>
    obtain ⟨k, hk, rfl, hb⟩ := hrel
    by_cases hlt : k < n
    · obtain ⟨b, off, rfl, _, hc1, hc2⟩ := (hL.below hb).look hlt
      obtain ⟨b', off', rfl, _, hc3, hc4⟩ := (hM.below hb).look hlt
      go_wp2
      have hix1 : (0 : Int) ≤ (k : Int) := by omega
      have hix2 : (k : Int) < (n : Int) := by omega
      refine wp_region_quiet (C := Gr wr) (by kernel_rfl) (by kernel_rfl) (Gr.start wr) ?_
      repeat
        refine wpQuiet_step (fun K hK => ?_)
        rw [if_pos (by rfl)]
        apply Exists.intro
        refine ⟨fun W hW => ?_, hK _ ?_⟩
        · have hl1 := hW.cell hc1
          have hl2 := hW.cell hc2
          have hl3 := hW.cell hc3
          have hl4 := hW.cell hc4
          unfold Oper.quietAt
          go_simp
          with_reducible rfl
        clear hK K
      refine wpQuiet_nil ?_
      intro w2 hw2
      clear hix1 hix2
      go_simp
      go_wp2
      go_roundw
      case rel => exact ⟨k + 1, by omega, by go_num, hb.trans (Below.mono hw2 hb.size)⟩
      case measure => simp [intOf]; omega
    · go_wp2
      go_ret
      exact ⟨rfl, hb⟩
end Go.Proofs.Ytpngkdhfjginlaa
