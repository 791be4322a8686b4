/-
  The walks of the statements on shares (3): enough shares tell the secret, and each other share.
-/
import Derived.Test.YtpngkdhfjginlaaShN
import Derived.Test.YtpngkdhfjginlaaShE
namespace Go.Proofs.Ytpngkdhfjginlaa
open Go.RowKit
attribute [local go_sem] T_V

theorem below_cell' {w w' : World} {a : Addr} {v : Value} (h : Below w.heap.size w w') (hc : w.cell? a = some v) : w'.cell? a = some v := (h.cell (cell_lt hc)).trans hc

set_option maxRecDepth 100000 in
set_option maxHeartbeats 1000000 in
theorem enough_walk (s : Int) (p : Option Addr) (m : Nat) (xs : List Int) (c : Nat) (q : Option Addr) (g : Nat) (ats : List Int) (d : Nat) (more : Int) (w : World) (hs0 : 0 ≤ s) (hs1 : s < 18446744073709551616) (hU : U w p m xs) (hc : m ≤ c) (hm : m ≤ 9223372036854775807) (hp : p = none → c = 0)
    (hI : UI w q g ats) (hg : g ≤ 9223372036854775807) (hn0 : -9223372036854775808 ≤ more) (hn1 : more ≤ 9223372036854775807) :
    Calls Try.prog 5 #[.int .u64 s, .slice p m c, .slice q g d, .int .i64 more] w fun e w' => e = .returned (.bool true) ∧ Below w.heap.size w w' := by
  obtain ⟨ha0, ha1⟩ := around_bd more 4 (by omega)
  go_enter Try.func5, Try.ntmps5
  go_wp2_with fail
  refine (Nums_c 5 5 rfl p m xs c _ hU hc hp hm (by omega)).mono ?_
  rintro e w1 ⟨v, rfl, hown, hb1⟩
  obtain ⟨p1, c1, rfl, hc1, hU1, hp1⟩ := hown.u'
  clear hown
  have hm1 : min m 5 ≤ 5 := Nat.min_le_right _ _
  generalize min m 5 = m1 at *
  generalize xs.take m1 = ys at *
  go_wp2_with fail
  refine (Split_any s p1 m1 ys c1 9 _ hs0 hs1 hU1 hp1 (by omega) (by omega) (by omega)).mono ?_
  rintro e w2 ⟨v, rfl, hown, hb2⟩
  obtain ⟨p2, c2, rfl, hc2, hL2⟩ := hown.u
  clear hown
  have hL2 : Sh w2 p2 9 (splitL ((s :: ys).map T) 9) := hL2
  have hPl : Hid (((s :: ys).map T).length = m1 + 1) := Lib.hid (by rw [List.length_map, List.length_cons, hU1.len])
  have hP0 : Hid (ev ((s :: ys).map T) 0 = T s) := Lib.hid (by rw [List.map_cons, ev_zero])
  generalize (s :: ys).map T = P at *
  go_wp2_with fail
  refine (Around_any more 4 _ hn0 hn1 (by omega) (by omega)).mono ?_
  rintro e w3 ⟨rfl, rfl⟩
  have hb12 := hb1.trans (hb2.mono hb1.size)
  go_wp2_with fail
  refine (Some_split (m1 + 1 + (around more 4).toNat) _ (by omega) P p2 c2 q g ats d _ hL2 (hI.below hb12) hg (by omega)).mono ?_
  rintro e w4 ⟨v, rfl, ⟨K, hK1, hK2, hK3, hown⟩, hb4⟩
  obtain ⟨p4, c4, rfl, hc4, hL4⟩ := hown.u
  have hK0 : 0 < K.length := by omega
  have hK9 : K.length ≤ 9 := by omega
  have hKl : P.length ≤ K.length := by have := hPl.out; omega
  have hap := Lib.hid (apart_takes P hK1 hK2)
  have hfr := Lib.hid (fun (fs : List F) (z : F) hf => from_enough (fs := fs) hK1 hK2 hKl hf z)
  clear hown hK1 hK2 hK3
  go_wp2_with fail
  refine (Join_is p4 K.length (takes (splitL P 9) K) c4 _ (T s) (fun fs hf => by rw [hfr.out fs 0 hf, hP0.out]) hL4 (by omega) hK0 hap.out).mono ?_
  rintro e w5 ⟨rfl, hb5⟩
  have hsn : (V (T s) != V (T s)) = false := bne_self_eq_false _
  have hb45 := hb4.trans (hb5.mono hb4.size)
  go_wp2_with (go_at_call 20; refine (num_any _ _ hs0 hs1).mono ?_; rintro e w' ⟨rfl, rfl⟩)
  have hb15 := hb12.trans (hb45.mono hb12.size)
  clear hsn
  go_loopw [15] (fun i wr => ∃ k : Nat, k ≤ 9 ∧ i = .int .i64 k ∧ Below w5.heap.size w5 wr)
    (fun i _ => 9 - (intOf i).toNat)
  case atStart => exact ⟨0, by omega, rfl, Below.refl _ _⟩
  case round =>
    obtain ⟨k, hk, rfl, hb⟩ := hrel
    by_cases hlt : k < 9
    · obtain ⟨b, off, rfl, _, hd1, hd2⟩ := ((hL2.below hb45).below hb).look hlt
      rw [sh_split P hlt] at hd1 hd2
      go_wp2_with fail
      refine (At_is p4 K.length (takes (splitL P 9) K) c4 ((k : Int) + 1) _ (ev P (pt k)) (fun fs hf => hfr.out fs _ hf) ((hL4.below hb5).below hb) (by omega) hK0 hap.out (by omega) (by omega)).mono ?_
      rintro e w6 ⟨rfl, hb6⟩
      have hd3 := below_cell' hb6 hd2
      have hsn : (V (ev P (pt k)) != V (ev P (pt k))) = false := bne_self_eq_false _
      go_wp2
      go_roundw
      case rel => exact ⟨k + 1, by omega, by go_num, hb.trans (hb6.mono hb.size)⟩
      case measure => simp [intOf]; omega
    · go_wp2_with fail
      refine (lives9 _).mono ?_
      rintro e w7 ⟨rfl, hb7⟩
      go_wp2
      go_ret
      exact ⟨rfl, (hb15.trans (hb.mono hb15.size)).trans (hb7.mono (Nat.le_trans hb15.size hb.size))⟩
end Go.Proofs.Ytpngkdhfjginlaa
