/-
  The walks of the statements on shares (1): a secret's shares are the document's.
-/
import Derived.Test.YtpngkdhfjginlaaShE
namespace Go.Proofs.Ytpngkdhfjginlaa
open Go.RowKit
attribute [local go_sem] T_V

set_option maxRecDepth 100000 in
theorem splits_walk (s : Int) (p : Option Addr) (m : Nat) (xs : List Int) (c : Nat) (n : Int) (w : World) (hs0 : 0 ≤ s) (hs1 : s < 18446744073709551616) (hU : U w p m xs) (hc : m ≤ c) (hm : m ≤ 9223372036854775807) (hp : p = none → c = 0)
    (hn0 : -9223372036854775808 ≤ n) (hn1 : n ≤ 9223372036854775807) :
    Calls Try.prog 3 #[.int .u64 s, .slice p m c, .int .i64 n] w fun e w' => e = .returned (.bool true) ∧ Below w.heap.size w w' := by
  obtain ⟨ha0, ha1⟩ := around_bd n 10 (by omega)
  go_enter Try.func3, Try.ntmps3
  go_wp2_with fail
  refine (Nums_c 6 6 rfl p m xs c _ hU hc hp hm (by omega)).mono ?_
  rintro e w1 ⟨v, rfl, hown, hb1⟩
  obtain ⟨p1, c1, rfl, hc1, hU1, hp1⟩ := hown.u'
  clear hown
  have hm1 : min m 6 ≤ 6 := Nat.min_le_right _ _
  generalize min m 6 = m1 at *
  generalize xs.take m1 = ys at *
  go_wp2_with fail
  refine (Around_any n 10 _ hn0 hn1 (by omega) (by omega)).mono ?_
  rintro e w2 ⟨rfl, rfl⟩
  generalize around n 10 = k at *
  go_wp2_with fail
  refine (Split_any s p1 m1 ys c1 k _ hs0 hs1 hU1 hp1 (by omega) (by omega) (by omega)).mono ?_
  rintro e w3 ⟨v, rfl, hown, hb3⟩
  obtain ⟨p3, c3, rfl, hc3, hL3⟩ := hown.u
  clear hown
  go_wp2_with fail
  refine (rSplit_any s p1 m1 ys c1 k _ hs0 hs1 (hU1.below hb3) hp1 (by omega) (by omega) (by omega)).mono ?_
  rintro e w4 ⟨v, rfl, hown, hb4⟩
  obtain ⟨p4, c4, rfl, hc4, hL4⟩ := hown.u
  clear hown
  go_wp2_with fail
  refine (Same_any p3 p4 k.toNat _ c3 c4 _ (hL3.below hb4) hL4 (by omega)).mono ?_
  rintro e w5 ⟨rfl, hb5⟩
  have hb35 := hb3.trans ((hb4.trans (hb5.mono hb4.size)).mono hb3.size)
  go_wp2_with fail
  refine (Split_any s p1 m1 ys c1 (-k) _ hs0 hs1 (hU1.below hb35) hp1 (by omega) (by omega) (by omega)).mono ?_
  rintro e w6 ⟨v, rfl, hown, hb6⟩
  have hk0 : (-k).toNat = 0 := by omega
  rw [hk0] at hown
  obtain ⟨p6, c6, rfl, _, _⟩ := hown.u
  clear hown
  go_wp2_with fail
  refine (lives9 _).mono ?_
  rintro e w7 ⟨rfl, hb7⟩
  go_wp2
  go_ret
  exact ⟨rfl, hb1.trans ((hb35.trans ((hb6.trans (hb7.mono hb6.size)).mono hb35.size)).mono hb1.size)⟩
end Go.Proofs.Ytpngkdhfjginlaa
