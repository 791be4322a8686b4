/-
  Do: a Remove of a member.
-/
import Derived.Test.YtkolilbebkkpdaaDoorRoY
namespace Go.Proofs.YtkolilbebkkpdaaDoor
open Go.RowKit Go.Maps

set_option maxRecDepth 100000 in
set_option maxHeartbeats 8000000 in
theorem Do_removeAll (w : World) (y : Lay) (s : RS) (o : OpI) (gp : Option Addr) (gc : Nat) (i : Idn) (k : Nat) (_hk : k ≤ 1000) (hR : RollAt w y s) (hs : s.Ok k) (ho : o.Ok) (h1 : o.k = 3) (h0 : o.d = 0) :
    Calls Tryd.prog 13 #[.pointer (some ⟨y.r, 0, none⟩), .agg (opC o gp gc), .agg #[.int .i64 i.b, .int .i64 i.s, .int .u64 i.u]] w fun e w' => e = .returned (.tuple #[]) ∧ GoesTo w y (s.act o i) w' := by
  have hb1 := Below.lit w (.cells (opC o gp gc) 42)
  have hb2 := Below.lit (w.alloc (.cells (opC o gp gc) 42)) (.cells #[.int .i64 i.b, .int .i64 i.s, .int .u64 i.u] 34)
  have hO1 := OpAt.made w o gp gc
  have hO := hO1.below hb2 (by simp)
  obtain ⟨w2, hw2⟩ : ∃ w2, Hid ((w.alloc (.cells (opC o gp gc) 42)).alloc (.cells #[.int .i64 i.b, .int .i64 i.s, .int .u64 i.u] 34) = w2) := ⟨_, Lib.hid rfl⟩
  have hb : Below w.heap.size w w2 := by rw [← hw2.out]; exact hb1.trans (hb2.mono hb1.size)
  rw [hw2.out] at hO
  have hR2 := hR.below hb
  have hbo := i64_small ho.hb
  have hd := i64_small ho.hd
  have hoo := i64_small ho.ho
  have hmm := i64_small ho.hm
  have kk := hO.ck
  have kb := hO.cb
  have kd := hO.cd
  have ko := hO.co
  have km := hO.cm
  have kr := hO.cr
  have kn := hO.cn
  have kf1 := hO.cfb
  have kf2 := hO.cfs
  have kf3 := hO.cfu
  have c1 := hR2.c1
  have c2 := hR2.c2
  have c3 := hR2.c3
  have hzw : w.heap.size < w2.heap.size := cell_lt kk
  have hf1 : (s.ins ++ s.gone).length ≤ 1000 := Nat.le_trans hs.few (by omega)
  have hf2 : s.ms.length ≤ 1000 := Nat.le_trans hs.fewM (by omega)
  have hmb := ofD_bd o.b
  have hmo : i64ok (ofD o.b) := by unfold i64ok; omega
  obtain ⟨pm, hl2⟩ := hR2.memP hmo
  clear hb1 hb2 hO1
  obtain ⟨z, hz⟩ : ∃ z, Hid (s.act o i = z) := ⟨_, Lib.hid rfl⟩
  rw [hz.out]
  have e : Hid (z = s.goAll o.m (sortI s.ins)) := Lib.hid (hz.out.symm.trans (by rw [RS.act_eq s o i h1]; exact (if_neg (Classical.not_not.2 h0) : (if o.d ≠ 0 then s.goes o.d else s.goAll o.m (sortI s.ins)) = _)))
  rw [h1] at kk
  rw [h0] at kd
  replace h0 := Lib.hid h0
  go_enter Tryd.func13, Tryd.ntmps13
  go_wp2_with (first | (rw [hw2.out]) | (first | (go_at_call 37; refine (of_any _ y s _ (by first | assumption | exact RollAt.drewN (by assumption) _) (by assumption)).mono ?_; rintro e w' ⟨rfl, rfl⟩) | (go_at_call 38; refine (fresh_any _ y s _ (by first | assumption | exact RollAt.drewN (by assumption) _) (by assumption)).mono ?_; rintro e w' ⟨rfl, rfl⟩; rw [hf.out]) | (go_at_call 122; refine (rules_any _ y s _ (by first | assumption | exact RollAt.drewN (by assumption) _) (by assumption)).mono ?_; rintro e w' ⟨rfl, rfl⟩; rw [hr.out]) | fail))
  go_quiet (first | (go_at_call 37; exact Calls.quietE (of_any _ y s _ (RollAt.drewN (by assumption) _) (by assumption))) | fail)
  have hb3 : Below w.heap.size w (w2.drewN nq) := belowN hb _
  have hR3 := hR2.drewN nq
  go_wp2_with (first | (go_at_call 37; refine (of_any _ y s _ (by first | assumption | exact RollAt.drewN (by assumption) _) (by assumption)).mono ?_; rintro e w' ⟨rfl, rfl⟩) | (go_at_call 38; refine (fresh_any _ y s _ (by first | assumption | exact RollAt.drewN (by assumption) _) (by assumption)).mono ?_; rintro e w' ⟨rfl, rfl⟩; rw [hf.out]) | (go_at_call 122; refine (rules_any _ y s _ (by first | assumption | exact RollAt.drewN (by assumption) _) (by assumption)).mono ?_; rintro e w' ⟨rfl, rfl⟩; rw [hr.out]) | fail)
  refine (Devices_any _ y s k hR3 hs).mono ?_
  rintro e' w4 ⟨p, c, rfl, hu, hf, hb4⟩
  have hfoot : ∀ b, w.heap.size ≤ b → b ∉ y.foot := fun b hb h => by have := hR.lt _ h; omega
  have hz3 : w.heap.size ≤ (w2.drewN nq).heap.size := hb.size
  have hR4 := hR3.below hb4
  have km4 := (hb4.cell (p := ⟨w.heap.size, 7, none⟩) hzw).trans (show (w2.drewN nq).cell? ⟨w.heap.size, 7, none⟩ = _ from km)
  obtain ⟨ds, hds⟩ : ∃ ds, Hid (sortI s.ins = ds) := ⟨_, Lib.hid rfl⟩
  obtain ⟨n, hn⟩ : ∃ n, Hid (s.ins.length = n) := ⟨_, Lib.hid rfl⟩
  rw [hds.out, hn.out] at hu
  rw [hn.out]
  have hnn : n ≤ 7 := by have := hs.few; rw [List.length_append, hn.out] at this; omega
  rw [hds.out] at e
  have hlen := hu.len
  clear hl2 kk kb kd ko km kr kn kf1 kf2 kf3 c1 c2 c3 hO
  replace hlen := Lib.hid hlen
  replace hnn := Lib.hid hnn
  replace hfoot := Lib.hid hfoot
  replace hf := Lib.hid hf
  go_wp2_with fail
  go_loopw [71] (fun v wr => ∃ j : Nat, j ≤ n ∧ v = .int .i64 j ∧ ∃ y', RollAt wr y' (s.goAll o.m (ds.take j)) ∧ y'.r = y.r ∧ Turn w4 wr y.foot y'.foot)
    (fun v _ => n - (intOf v).toNat)
  case atStart => exact ⟨0, Nat.zero_le _, rfl, y, hR4, rfl, Turn.refl _ _⟩
  case round =>
    obtain ⟨j, hj, rfl, y5, hR5, hr5, hT5⟩ := hrel
    by_cases hlt : j < n
    · obtain ⟨b, off, rfl, hbl, hc, hd0, hd1⟩ := hu.look hlt
      have hc5 := hT5.cell hc (hfoot.out b (Nat.le_trans hz3 (hf.out _ rfl)))
      have km5 := hT5.cell km4 (hfoot.out _ (Nat.le_refl _))
      have hix1 : (j : Int) < (n : Int) := by omega
      have hjb : (j : Int) ≤ 1000 := by have := hnn.out; omega
      have hdk : i64ok (nth ds j) := ⟨hd0, hd1⟩
      have htk : Hid (ds.take (j + 1) = ds.take j ++ [nth ds j]) := Lib.hid (take_nth (by rw [hlen.out]; exact hlt))
      by_cases hof : ofD (nth ds j) = o.m
      · have t : (ofD (nth ds j) == o.m) = true := beq_iff_eq.2 hof
        have hgo : Hid (s.goAll o.m (ds.take (j + 1)) = (s.goAll o.m (ds.take j)).goes (nth ds j)) := Lib.hid (by rw [htk.out, goAll_snoc, if_pos hof])
        clear hof
        rw [← hr5]
        replace hr5 := Lib.hid hr5
        go_wp2_with fail
        go_quiet ((go_at_call 37; exact Calls.quietE (of_any _ y5 _ _ (RollAt.drewN hR5 _) hdk)))
        go_wp2_with (first | (go_at_call 40; refine (goes_any _ y5 _ _ (RollAt.drewN hR5 _) hdk).mono ?_; rintro e w6 ⟨rfl, y6, hR6, hr6, hT6⟩) | fail)
        rw [hr5.out]
        go_roundw
        case rel => exact ⟨j + 1, by omega, by go_num, y6, by rw [hgo.out]; exact hR6, hr6.trans hr5.out, hT5.trans ((Turn.of_below (belowN (Below.refl _ _) _)).trans hT6)⟩
        case measure => simp [intOf]; omega
      · have t : (ofD (nth ds j) == o.m) = false := beq_eq_false_iff_ne.2 hof
        have hgo : Hid (s.goAll o.m (ds.take (j + 1)) = s.goAll o.m (ds.take j)) := Lib.hid (by rw [htk.out, goAll_snoc, if_neg hof])
        clear hof
        rw [← hr5]
        replace hr5 := Lib.hid hr5
        go_wp2_with fail
        go_quiet ((go_at_call 37; exact Calls.quietE (of_any _ y5 _ _ (RollAt.drewN hR5 _) hdk)))
        go_wp2_with fail
        rw [hr5.out]
        go_roundw
        case rel => exact ⟨j + 1, by omega, by go_num, y5, by rw [hgo.out]; exact RollAt.drewN hR5 _, hr5.out, hT5.trans (Turn.of_below (belowN (Below.refl _ _) _))⟩
        case measure => simp [intOf]; omega
    · have hjn : j = n := by omega
      have hall : Hid (ds.take j = ds) := Lib.hid (List.take_of_length_le (by rw [hlen.out]; omega))
      go_wp2_with fail
      go_returns
      rw [e.out]
      rw [hall.out] at hR5
      exact ⟨rfl, GoesTo.after ⟨y5, hR5, hr5, hT5⟩ (hb3.trans (hb4.mono hb3.size))⟩
end Go.Proofs.YtkolilbebkkpdaaDoor
