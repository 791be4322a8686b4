/-
  Do: a Replace.
-/
import Derived.Test.YtkolilbebkkpdaaDoorRoY2
namespace Go.Proofs.YtkolilbebkkpdaaDoor
open Go.RowKit Go.Maps

theorem still_of {P : Program} {f : FuncId} {args : Array Value} {w : World} {v : Value} (h : Calls P f args w fun e w' => e = .returned v ∧ w = w') : Calls P f args w fun e w' => e = .returned v ∧ w' = w :=
  h.mono fun _ _ ⟨h1, h2⟩ => ⟨h1, h2.symm⟩
set_option maxRecDepth 100000 in
set_option maxHeartbeats 8000000 in
theorem Do_replace (w : World) (y : Lay) (s : RS) (o : OpI) (gp : Option Addr) (gc : Nat) (i : Idn) (k : Nat) (_hk : k ≤ 1000) (hR : RollAt w y s) (hs : s.Ok k) (ho : o.Ok) (h1 : o.k = 13) :
    Calls Tryd.prog 13 #[.pointer (some ⟨y.r, 0, none⟩), .agg (opC o gp gc), .agg #[.int .i64 i.b, .int .i64 i.s, .int .u64 i.u]] w fun e w' => e = .returned (.tuple #[]) ∧ GoesTo w y (s.act o i) w' := by
  have hb1 := Below.lit w (.cells (opC o gp gc) 42)
  have hb2 := Below.lit (w.alloc (.cells (opC o gp gc) 42)) (.cells #[.int .i64 i.b, .int .i64 i.s, .int .u64 i.u] 34)
  have hO1 := OpAt.made w o gp gc
  have hO := hO1.below hb2 (by simp)
  obtain ⟨w2, hw2⟩ : ∃ w2, Hid ((w.alloc (.cells (opC o gp gc) 42)).alloc (.cells #[.int .i64 i.b, .int .i64 i.s, .int .u64 i.u] 34) = w2) := ⟨_, Lib.hid rfl⟩
  have hb : Below w.heap.size w w2 := by rw [← hw2.out]; exact hb1.trans (hb2.mono hb1.size)
  rw [hw2.out] at hO
  have hR2 := hR.below hb
  have hbo := i64_small ho.hb
  have hd := i64_small ho.hd
  have hoo := i64_small ho.ho
  have hmm := i64_small ho.hm
  have kk := hO.ck
  have kb := hO.cb
  have kd := hO.cd
  have ko := hO.co
  have km := hO.cm
  have kr := hO.cr
  have kn := hO.cn
  have kf1 := hO.cfb
  have kf2 := hO.cfs
  have kf3 := hO.cfu
  have c1 := hR2.c1
  have c2 := hR2.c2
  have c3 := hR2.c3
  have hzw : w.heap.size < w2.heap.size := cell_lt kk
  have hf1 : (s.ins ++ s.gone).length ≤ 1000 := Nat.le_trans hs.few (by omega)
  have hf2 : s.ms.length ≤ 1000 := Nat.le_trans hs.fewM (by omega)
  have hmb := ofD_bd o.b
  have hmo : i64ok (ofD o.b) := by unfold i64ok; omega
  obtain ⟨pm, hl2⟩ := hR2.memP hmo
  clear hb1 hb2 hO1
  obtain ⟨z, hz⟩ : ∃ z, Hid (s.act o i = z) := ⟨_, Lib.hid rfl⟩
  rw [hz.out]
  have e0 : s.act o i = s.doReplace o := RS.act_eq s o i h1
  rw [h1] at kk
  have hwb := RS.whose_bd hs o.f
  obtain ⟨wv, hwv⟩ : ∃ wv, Hid (s.whose o.f = wv) := ⟨_, Lib.hid rfl⟩
  rw [hwv.out] at hwb
  go_enter Tryd.func13, Tryd.ntmps13
  go_wp2_with (first | (rw [hw2.out]) | (first | (go_at_call 37; refine (of_any _ y s _ (by first | assumption | exact RollAt.drewN (by assumption) _) (by assumption)).mono ?_; rintro e w' ⟨rfl, rfl⟩) | (go_at_call 38; refine (fresh_any _ y s _ (by first | assumption | exact RollAt.drewN (by assumption) _) (by assumption)).mono ?_; rintro e w' ⟨rfl, rfl⟩; rw [hf.out]) | (go_at_call 122; refine (rules_any _ y s _ (by first | assumption | exact RollAt.drewN (by assumption) _) (by assumption)).mono ?_; rintro e w' ⟨rfl, rfl⟩; rw [hr.out]) | fail))
  go_quiet (first | (go_at_call 37; exact Calls.quietE (of_any _ y s _ (RollAt.drewN (by assumption) _) (by assumption))) | fail)
  have hb3 : Below w.heap.size w (w2.drewN nq) := belowN hb _
  have hR3 := hR2.drewN nq
  go_wp2_with (first | (go_at_call 37; refine (of_any _ y s _ (by first | assumption | exact RollAt.drewN (by assumption) _) (by assumption)).mono ?_; rintro e w' ⟨rfl, rfl⟩) | (go_at_call 38; refine (fresh_any _ y s _ (by first | assumption | exact RollAt.drewN (by assumption) _) (by assumption)).mono ?_; rintro e w' ⟨rfl, rfl⟩; rw [hf.out]) | (go_at_call 122; refine (rules_any _ y s _ (by first | assumption | exact RollAt.drewN (by assumption) _) (by assumption)).mono ?_; rintro e w' ⟨rfl, rfl⟩; rw [hr.out]) | fail)
  refine (whose_any _ y s o.f hR3 hs.ids).mono ?_
  rintro e' w4 ⟨rfl, hb4⟩
  rw [hwv.out]
  have hB4 := hb3.trans (hb4.mono hb3.size)
  have hR4 := hR3.below hb4
  have ko4 := (hb4.cell (p := ⟨w.heap.size, 6, none⟩) hzw).trans (show (w2.drewN nq).cell? ⟨w.heap.size, 6, none⟩ = _ from ko)
  have kd4 := (hb4.cell (p := ⟨w.heap.size, 5, none⟩) hzw).trans (show (w2.drewN nq).cell? ⟨w.heap.size, 5, none⟩ = _ from kd)
  have hzw4 : w.heap.size < w4.heap.size := cell_lt ko4
  clear hl2 kk kb kd ko km kr kn kf1 kf2 kf3 c1 c2 c3 hO hR2
  have c1 := hR4.c1
  by_cases h0 : 0 < wv
  · cases hi : s.inB o.o with
    | false =>
      have e : Hid (z = s) := Lib.hid (hz.out.symm.trans (e0.trans (by unfold RS.doReplace; rw [if_neg (fun h => by have := h.2.1; unfold RS.inB at hi; simp only [decide_eq_false_iff_not] at hi; exact hi this)])))
      obtain ⟨hl, hl2⟩ := hR4.innN hoo hi
      replace hi := Lib.hid hi
      go_wp2_with fail
      go_quiet (first | (go_at_call 37; exact Calls.quietE (of_any _ y s _ (RollAt.drewN (by assumption) _) (by assumption))) | fail)
      go_wp2_with fail
      go_returns
      rw [e.out]
      exact ⟨rfl, GoesTo.stay hR (belowN hB4 _)⟩
    | true =>
      obtain ⟨hl, hl2⟩ := hR4.innN hoo hi
      have hin : Hid (o.o ∈ s.ins) := Lib.hid (of_decide_eq_true hi)
      replace hi := Lib.hid hi
      by_cases hu : ofD o.o = wv
      · have t1 : (ofD o.o == wv) = true := beq_iff_eq.2 hu
        by_cases hv : ofD o.d = wv
        · have t2 : (ofD o.d == wv) = true := beq_iff_eq.2 hv
          have e : Hid (z = (s.comes o.d (s.role (ofD o.d))).goes o.o) := Lib.hid (hz.out.symm.trans (e0.trans (by unfold RS.doReplace; rw [if_pos (by rw [hwv.out]; exact ⟨h0, hin.out, hu, hv⟩)])))
          have hdm : i64ok (ofD o.d) := by rw [hv]; unfold i64ok; omega
          replace hu := Lib.hid hu
          replace hv := Lib.hid hv
          go_wp2_with fail
          go_quiet (first | (go_at_call 37; exact Calls.quietE (of_any _ y s _ (RollAt.drewN (by assumption) _) (by assumption))) | fail)
          go_wp2_with fail
          have kd5 : (w4.drewN nq).cell? ⟨w.heap.size, 5, none⟩ = some (.int .i64 o.d) := kd4
          have ko5 : (w4.drewN nq).cell? ⟨w.heap.size, 6, none⟩ = some (.int .i64 o.o) := ko4
          have hRq := hR4.drewN nq
          have hBq := belowN hB4 nq
          obtain ⟨w5, hw5⟩ : ∃ w5, Hid (w4.drewN nq = w5) := ⟨_, Lib.hid rfl⟩
          rw [hw5.out] at kd5 ko5 hRq hBq
          rw [hw5.out]
          have hR5 : RollAt w5.drew y s := hRq.drew
          refine wp_region_still_tail 9 (by kernel_rfl) (by kernel_rfl) ?_
          simp only [List.take_succ_cons, List.take_zero, List.drop_succ_cons, List.drop_zero]
          repeat (first
            | still_step
            | (still_call (still_of (of_any _ y s _ hR5 hd)))
            | (still_call (still_of (Role_any _ y s _ hR5 hdm))))
          refine wpStill_nil ?_
          change wpList _ _ _ _ _ w5.drew
          have hB5 : Below w.heap.size w w5.drew := hBq.drew
          go_wp2_with fail
          refine (comes_any _ y s _ _ hR5 hd hf1 hf2).mono ?_
          rintro e' w6 ⟨rfl, y6, hR6, hr6, hT6⟩
          have hz6 : w.heap.size ∉ y.foot := fun h => Nat.lt_irrefl _ (hR.lt _ h)
          have ko6 := hT6.cell (show w5.drew.cell? ⟨w.heap.size, 6, none⟩ = _ from ko5) hz6
          rw [← hr6]
          replace hr6 := Lib.hid hr6
          go_wp2_with (first
            | (go_at_call 40; refine (goes_any _ y6 _ _ hR6 hoo).mono ?_; rintro e w7 ⟨rfl, y7, hR7, hr7, hT7⟩)
            | fail)
          go_returns
          rw [e.out]
          exact ⟨rfl, GoesTo.after ⟨y7, hR7, hr7.trans hr6.out, hT6.trans hT7⟩ hB5⟩
        · have t2 : (ofD o.d == wv) = false := beq_eq_false_iff_ne.2 hv
          have e : Hid (z = s) := Lib.hid (hz.out.symm.trans (e0.trans (by unfold RS.doReplace; rw [if_neg (by rw [hwv.out]; exact fun h => hv h.2.2.2)])))
          replace hu := Lib.hid hu
          clear hv
          go_wp2_with fail
          go_quiet (first | (go_at_call 37; exact Calls.quietE (of_any _ y s _ (RollAt.drewN (by assumption) _) (by assumption))) | fail)
          go_wp2_with fail
          go_returns
          rw [e.out]
          exact ⟨rfl, GoesTo.stay hR (belowN hB4 _)⟩
      · have t1 : (ofD o.o == wv) = false := beq_eq_false_iff_ne.2 hu
        have e : Hid (z = s) := Lib.hid (hz.out.symm.trans (e0.trans (by unfold RS.doReplace; rw [if_neg (by rw [hwv.out]; exact fun h => hu h.2.2.1)])))
        clear hu
        go_wp2_with fail
        go_quiet (first | (go_at_call 37; exact Calls.quietE (of_any _ y s _ (RollAt.drewN (by assumption) _) (by assumption))) | fail)
        go_wp2_with fail
        go_returns
        rw [e.out]
        exact ⟨rfl, GoesTo.stay hR (belowN hB4 _)⟩
  · have e : Hid (z = s) := Lib.hid (hz.out.symm.trans (e0.trans (by unfold RS.doReplace; rw [if_neg (by rw [hwv.out]; exact fun h => h0 h.1)])))
    have hw0 : wv = 0 := by omega
    subst hw0
    clear h0
    go_wp2_with fail
    go_quiet (first | (go_at_call 37; exact Calls.quietE (of_any _ y s _ (RollAt.drewN (by assumption) _) (by assumption))) | fail)
    go_wp2_with fail
    go_returns
    rw [e.out]
    exact ⟨rfl, GoesTo.stay hR (belowN hB4 _)⟩
end Go.Proofs.YtkolilbebkkpdaaDoor
