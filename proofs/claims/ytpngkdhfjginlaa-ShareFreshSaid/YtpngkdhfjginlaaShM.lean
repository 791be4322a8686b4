/-
  Shares (13): the walk of huddleref09.Some.
-/
import Derived.Test.YtpngkdhfjginlaaShL
namespace Go.Proofs.Ytpngkdhfjginlaa
open Go.RowKit
attribute [local go_sem] T_V

set_option maxRecDepth 100000 in
set_option maxHeartbeats 1000000 in
theorem Some_any (p : Option Addr) (n : Nat) (l : List (Int × Int)) (c : Nat) (q : Option Addr) (m : Nat) (xs : List Int) (d : Nat) (most : Nat) (w : World) (hL : Sh w p n l) (hI : UI w q m xs) (hn0 : 0 < n) (hn : n ≤ 1000000) (hm : m ≤ 9223372036854775807) (hmost : most ≤ 1000000) :
    Calls Try.prog 19 #[.slice p n c, .slice q m d, .int .i64 most] w fun e w' => ∃ v, e = .returned v ∧ OwnS w' w.heap.size v (somes n most xs).length (takes l (somes n most xs)) ∧ Below w.heap.size w w' := by
  have hl := Lib.hid hL.len
  have hx := Lib.hid hI.len
  go_enter Try.func19, Try.ntmps19
  go_wp2
  go_loopw [7, 8, 9] (fun o h i wr => ∃ (k : Nat) (had : List Nat), k ≤ m ∧ i = .int .i64 k ∧ OwnS wr w.heap.size o had.length (takes l had) ∧ OwnI wr w.heap.size h had.length (ints had) ∧ Sep o h ∧ Hid (picks n most (xs.drop k) had = picks n most xs []) ∧ had.length ≤ 1000000 ∧ Below w.heap.size w wr)
    (fun _ _ i _ => m - (intOf i).toNat)
  case atStart => exact ⟨0, [], Nat.zero_le _, rfl, OwnS.nil _ _, OwnI.nil _ _, Sep.nil, Lib.hid rfl, Nat.zero_le _, Below.refl _ _⟩
  case round =>
    obtain ⟨k, had, hk, rfl, hO, hH, hsep, hpk, hhl, hb⟩ := hrel
    obtain ⟨pO, cO, rfl, _, _⟩ := hO.u
    by_cases hc : k < m ∧ had.length < most ∧ 0 < n
    · obtain ⟨h1, h2, h3⟩ := hc
      have hst := Lib.hid ((picks_step (by rw [hx.out]; exact h1) h2 h3).symm.trans hpk.out)
      obtain ⟨b, off, rfl, _, hc1, hy0, hy1⟩ := (hI.below hb).look h1
      obtain ⟨ha0, ha1⟩ := around_bd (nth xs k) (n : Int) (by omega)
      obtain ⟨j, hj⟩ : ∃ j : Nat, around (nth xs k) n = j := ⟨(around (nth xs k) n).toNat, by omega⟩
      have hjn : j < n := by omega
      obtain ⟨b2, off2, rfl, _, hd1, hd2⟩ := hL.look hjn
      have hbd := hL.look_bd hjn
      obtain ⟨pH, cH, rfl, _, hU⟩ := hH.u
      have hp1 : Hid (pickOne n had (nth xs k) = if j ∈ had then had else had ++ [j]) := Lib.hid (by unfold pickOne; rw [hj]; rfl)
      have hR : Hid (around (nth xs k) n = j) := Lib.hid hj
      clear hj hpk
      go_wp2_with fail
      refine (Around_any (nth xs k) n _ hy0 hy1 (by omega) (by omega)).mono ?_
      rintro e w1 ⟨rfl, rfl⟩
      rw [hR.out]
      by_cases hjh : j ∈ had
      · have hr : Hid (true = (ints had).contains (j : Int)) := Lib.hid (by rw [ints_contains]; simp [hjh])
        have hst2 : Hid (picks n most (xs.drop (k + 1)) had = picks n most xs []) := Lib.hid (by rw [← hst.out, hp1.out, if_pos hjh])
        clear hjh
        go_wp2_with fail
        refine (Has_any pH had.length (ints had) cH j _ hU (by omega) true hr).mono ?_
        rintro e w1 ⟨rfl, rfl⟩
        go_wp2
        go_roundw
        case rel => exact ⟨k + 1, had, by omega, by go_num, hO, hH, hsep, hst2, hhl, hb⟩
        case measure => simp [intOf]; omega
      · have hr : Hid (false = (ints had).contains (j : Int)) := Lib.hid (by rw [ints_contains]; simp [hjh])
        have hst2 : Hid (picks n most (xs.drop (k + 1)) (had ++ [j]) = picks n most xs []) := Lib.hid (by rw [← hst.out, hp1.out, if_neg hjh])
        have hll : (had ++ [j]).length = had.length + 1 := by simp
        have hLL := Lib.hid hll
        have hsn := Lib.hid (takes_snoc l had j)
        have hin := Lib.hid (ints_snoc had j)
        clear hjh hll
        go_wp2_with fail
        refine (Has_any pH had.length (ints had) cH j _ hU (by omega) false hr).mono ?_
        rintro e w1 ⟨rfl, rfl⟩
        obtain ⟨vO, hvO⟩ : ∃ vO, Value.slice pO had.length cO = vO := ⟨_, rfl⟩
        obtain ⟨vH, hvH⟩ : ∃ vH, Value.slice pH had.length cH = vH := ⟨_, rfl⟩
        rw [hvO] at hO hsep
        rw [hvH] at hH hsep
        rw [hvO, hvH]
        clear hvO hvH hU
        go_wp2_with (first
          | (at_builtin; refine app_int rfl _ _ rfl hH hO hsep.symm rfl rfl ⟨by omega, by omega⟩ (by omega) hb.size ?_; intro v1 wA hH1 hO1 hsep1 hbA
             have hd3 := ((hb.trans hbA).cell (cell_lt hd1)).trans hd1
             have hd4 := ((hb.trans hbA).cell (cell_lt hd2)).trans hd2)
          | (at_builtin; refine app_sh2 rfl _ _ rfl hO1 hH1 hsep1.symm rfl rfl hbd (by omega) (hb.trans hbA).size ?_; intro v2 wB hO2 hH2 hsep2 hbB))
        go_roundw
        case rel => exact ⟨k + 1, had ++ [j], by omega, by go_num, by rw [hLL.out, hsn.out]; exact hO2, by rw [hLL.out, hin.out]; exact hH2, hsep2, hst2, by rw [hLL.out]; omega, (hb.trans hbA).trans hbB⟩
        case measure => simp [intOf]; omega
    · have hfin := Lib.hid (show picks n most xs [] = had from hpk.out.symm.trans (picks_stop (by rw [hx.out]; exact hc)))
      have hsome : Hid (fills most had ((List.range n).drop 0) had = somes n most xs) := Lib.hid (by unfold somes; rw [hfin.out]; rfl)
      have hd : k < m ∧ ¬ had.length < most ∨ ¬ k < m := by omega
      obtain ⟨pH, cH, rfl, _, _⟩ := hH.u
      clear hc hpk hfin
      rcases hd with ⟨h1, h2⟩ | h1
      all_goals
        go_wp2_with fail
        go_loopw [7, 11] (fun o i wy => ∃ (g : Nat) (out : List Nat), g ≤ n ∧ i = .int .i64 g ∧ OwnS wy w.heap.size o out.length (takes l out) ∧ OwnI wy w.heap.size (.slice pH had.length cH) had.length (ints had) ∧ Sep o (.slice pH had.length cH) ∧ Hid (fills most had ((List.range n).drop g) out = somes n most xs) ∧ out.length ≤ 1000000 ∧ Below w.heap.size w wy)
          (fun _ i _ => n - (intOf i).toNat)
        case atStart => exact ⟨0, had, Nat.zero_le _, rfl, hO, hH, hsep, hsome, hhl, hb⟩
        case round =>
          clear hH hsep hb hO
          obtain ⟨g, out, hg, rfl, hO2, hH, hsep, hfl, hol, hb2⟩ := hrel
          obtain ⟨pO2, cO2, hv2, _, _⟩ := hO2.u
          obtain ⟨pH', cH', hvH, _, hU2⟩ := hH.u
          injection hvH with e1 _ e2
          subst e1
          subst e2
          have hv3 := Lib.hid hv2
          rw [hv2]
          clear hv2
          by_cases hcc : g < n ∧ out.length < most
          · obtain ⟨g1, g2⟩ := hcc
            have hst := Lib.hid ((fills_step g1 g2).symm.trans hfl.out)
            obtain ⟨b2, off2, rfl, _, hd1, hd2⟩ := hL.look g1
            have hbd := hL.look_bd g1
            have hd3 := (hb2.cell (cell_lt hd1)).trans hd1
            have hd4 := (hb2.cell (cell_lt hd2)).trans hd2
            by_cases hjh : g ∈ had
            · have hr : Hid (true = (ints had).contains (g : Int)) := Lib.hid (by rw [ints_contains]; simp [hjh])
              have hst2 : Hid (fills most had ((List.range n).drop (g + 1)) out = somes n most xs) := Lib.hid (by rw [← hst.out, if_pos hjh])
              clear hjh hst hfl
              go_wp2_with fail
              refine (Has_any pH had.length (ints had) cH g _ hU2 (by omega) true hr).mono ?_
              rintro e w1 ⟨rfl, rfl⟩
              rw [← hv3.out]
              go_wp2
              go_roundw
              case rel => exact ⟨g + 1, out, by omega, by go_num, hO2, hH, hsep, hst2, hol, hb2⟩
              case measure => simp [intOf]; omega
            · have hr : Hid (false = (ints had).contains (g : Int)) := Lib.hid (by rw [ints_contains]; simp [hjh])
              have hst2 : Hid (fills most had ((List.range n).drop (g + 1)) (out ++ [g]) = somes n most xs) := Lib.hid (by rw [← hst.out, if_neg hjh])
              have hLL := Lib.hid (show (out ++ [g]).length = out.length + 1 by simp)
              have hsn := Lib.hid (takes_snoc l out g)
              clear hjh hst hfl
              go_wp2_with fail
              refine (Has_any pH had.length (ints had) cH g _ hU2 (by omega) false hr).mono ?_
              rintro e w1 ⟨rfl, rfl⟩
              rw [← hv3.out]
              go_wp2_with (at_builtin; refine app_sh2 rfl _ _ rfl hO2 hH hsep rfl rfl hbd (by omega) hb2.size ?_; intro v2 wB hO3 hH3 hsep3 hbB)
              go_roundw
              case rel => exact ⟨g + 1, out ++ [g], by omega, by go_num, by rw [hLL.out, hsn.out]; exact hO3, hH3, hsep3, hst2, by rw [hLL.out]; omega, hb2.trans hbB⟩
              case measure => simp [intOf]; omega
          · have hfin := Lib.hid (show somes n most xs = out from hfl.out.symm.trans (fills_stop hcc))
            have hdd : g < n ∧ ¬ out.length < most ∨ ¬ g < n := by omega
            clear hcc hfl
            rcases hdd with ⟨g1, g2⟩ | g1
            all_goals
              go_wp2_with fail
              go_ret
              exact ⟨_, rfl, by rw [hfin.out, ← hv3.out]; exact hO2, hb2⟩
end Go.Proofs.Ytpngkdhfjginlaa
