/-
  Do: an Object.
-/
import Derived.Test.YtkolilbebkkpdaaDoorRoZ1
namespace Go.Proofs.YtkolilbebkkpdaaDoor
open Go.RowKit Go.Maps

theorem setCell_blk {w : World} {b : Nat} {cs : Array Value} {t : TypeId} {fr : Nat × Nat} (h : w.heap[b]? = some (.cells cs t fr)) (i : Nat) (v : Value) : (w.setCell ⟨b, i, none⟩ v).heap[b]? = some (.cells (cs.setIfInBounds i v) t fr) := by
  show (w.heap.modify b _)[b]? = _
  rw [Array.getElem?_modify, if_pos rfl, h]; rfl
theorem GoesTo.drew {w w' : World} {y : Lay} {s : RS} (h : GoesTo w y s w') : GoesTo w y s w'.drew := by
  obtain ⟨y', h1, h2, h3⟩ := h
  exact ⟨y', h1.drew, h2, h3.trans (Turn.of_below (Below.refl _ _).drew)⟩
theorem nameW {p : World → Prop} {w : World} (h : p w) : ∃ w', Hid (w = w') ∧ p w' := ⟨w, Lib.hid rfl, h⟩
/-- An objection. -/
theorem RollAt.object {w : World} {y : Lay} {s : RS} (h : RollAt w y s) {x : MRec} (hx : x ∈ y.l) {d : Gd} (hg : x.m.g = some d) (o : OpI) :
    ∃ y', RollAt ((w.setCell ⟨x.g, 7, none⟩ (.bool true)).setCell ⟨x.g, 8, none⟩ (.int .i64 (max d.la o.a))) y' (s.setM x.n ⟨x.m.r, some (objG d o)⟩) ∧ y'.r = y.r ∧ Turn w ((w.setCell ⟨x.g, 7, none⟩ (.bool true)).setCell ⟨x.g, 8, none⟩ (.int .i64 (max d.la o.a))) y.foot y'.foot := by
  have hB : But w ((w.setCell ⟨x.g, 7, none⟩ (.bool true)).setCell ⟨x.g, 8, none⟩ (.int .i64 (max d.la o.a))) x.g := (But.of_grown (grown_cell w x.g 7 _)).trans (But.of_grown (grown_cell _ x.g 8 _))
  have hm := h.mb x hx
  have hD := hm.gd d hg
  have hnf := h.mfoot hx
  have hf : x.foot = [x.a, x.g, x.v, x.e] := by unfold MRec.foot gfoot; rw [hg]
  have hf' : (⟨x.n, ⟨x.m.r, some (objG d o)⟩, x.a, x.g, x.v, x.e, x.c⟩ : MRec).foot = x.foot := by rw [hf]; rfl
  rw [hf] at hnf
  simp only [List.nodup_cons, List.mem_cons, List.not_mem_nil, or_false, not_or] at hnf
  obtain ⟨⟨n1, n2, n3⟩, ⟨n4, n5⟩, n6, _⟩ := hnf
  refine h.updM (x' := ⟨x.n, ⟨x.m.r, some (objG d o)⟩, x.a, x.g, x.v, x.e, x.c⟩) hx (b := x.g) (by rw [hf]; simp) hB rfl rfl ⟨?_, fun g hgg => ?_⟩ (by rw [hf']; exact h.mfoot hx) (fun i hi => .inl (by rw [hf'] at hi; exact hi))
  · have := hm.blk
    rw [hg] at this
    exact (hB.blk _ (blk_lt hm.blk) n1).trans this
  · have hgg' : objG d o = g := by injection hgg
    subst hgg'
    refine ⟨?_, hD.gs.block (hB.blk _ hD.lt (fun e => n5 e.symm)), Nat.lt_of_lt_of_le hD.lt hB.size, hD.cap, hD.vo.keep (hB.blk _ hD.vo.lt (fun e => n4 e.symm))⟩
    have h1 := setCell_blk (setCell_blk hD.blk 7 (.bool true)) 8 (.int .i64 (max d.la o.a))
    exact h1
set_option maxRecDepth 100000 in
set_option maxHeartbeats 8000000 in
theorem Do_object (w : World) (y : Lay) (s : RS) (o : OpI) (gp : Option Addr) (gc : Nat) (i : Idn) (k : Nat) (_hk : k ≤ 1000) (hR : RollAt w y s) (hs : s.Ok k) (ho : o.Ok) (h1 : o.k = 12) :
    Calls Tryd.prog 13 #[.pointer (some ⟨y.r, 0, none⟩), .agg (opC o gp gc), .agg #[.int .i64 i.b, .int .i64 i.s, .int .u64 i.u]] w fun e w' => e = .returned (.tuple #[]) ∧ GoesTo w y (s.act o i) w' := by
  have hb1 := Below.lit w (.cells (opC o gp gc) 42)
  have hb2 := Below.lit (w.alloc (.cells (opC o gp gc) 42)) (.cells #[.int .i64 i.b, .int .i64 i.s, .int .u64 i.u] 34)
  have hO1 := OpAt.made w o gp gc
  have hO := hO1.below hb2 (by simp)
  obtain ⟨w2, hw2⟩ : ∃ w2, Hid ((w.alloc (.cells (opC o gp gc) 42)).alloc (.cells #[.int .i64 i.b, .int .i64 i.s, .int .u64 i.u] 34) = w2) := ⟨_, Lib.hid rfl⟩
  have hb : Below w.heap.size w w2 := by rw [← hw2.out]; exact hb1.trans (hb2.mono hb1.size)
  rw [hw2.out] at hO
  have hR2 := hR.below hb
  have hbo := i64_small ho.hb
  have hd := i64_small ho.hd
  have hoo := i64_small ho.ho
  have hmm := i64_small ho.hm
  have kk := hO.ck
  have kb := hO.cb
  have kd := hO.cd
  have ko := hO.co
  have km := hO.cm
  have kr := hO.cr
  have kn := hO.cn
  have kf1 := hO.cfb
  have kf2 := hO.cfs
  have kf3 := hO.cfu
  have c1 := hR2.c1
  have c2 := hR2.c2
  have c3 := hR2.c3
  have hzw : w.heap.size < w2.heap.size := cell_lt kk
  have hf1 : (s.ins ++ s.gone).length ≤ 1000 := Nat.le_trans hs.few (by omega)
  have hf2 : s.ms.length ≤ 1000 := Nat.le_trans hs.fewM (by omega)
  have hmb := ofD_bd o.b
  have hmo : i64ok (ofD o.b) := by unfold i64ok; omega
  obtain ⟨pm, hl2⟩ := hR2.memP hmo
  clear hb1 hb2 hO1
  obtain ⟨z, hz⟩ : ∃ z, Hid (s.act o i = z) := ⟨_, Lib.hid rfl⟩
  rw [hz.out]
  have e0 : s.act o i = s.doObject o := RS.act_eq s o i h1
  rw [h1] at kk
  have ka := hO.ca
  have hst := id_stood
  have hgd := id_guard
  clear hl2
  rcases hR2.memN hmo with ⟨h1, hl, hl2⟩ | ⟨x, hx, hxn, h1, hl, hl2⟩
  · have e : Hid (z = s) := Lib.hid (hz.out.symm.trans (e0.trans (by unfold RS.doObject; rw [h1])))
    go_enter Tryd.func13, Tryd.ntmps13
    go_wp2_with (first | (rw [hw2.out]) | (first | (go_at_call 37; refine (of_any _ y s _ (by first | assumption | exact RollAt.drewN (by assumption) _) (by assumption)).mono ?_; rintro e w' ⟨rfl, rfl⟩) | (go_at_call 38; refine (fresh_any _ y s _ (by first | assumption | exact RollAt.drewN (by assumption) _) (by assumption)).mono ?_; rintro e w' ⟨rfl, rfl⟩; rw [hf.out]) | (go_at_call 122; refine (rules_any _ y s _ (by first | assumption | exact RollAt.drewN (by assumption) _) (by assumption)).mono ?_; rintro e w' ⟨rfl, rfl⟩; rw [hr.out]) | fail))
    go_quiet (first | (go_at_call 37; exact Calls.quietE (of_any _ y s _ (RollAt.drewN (by assumption) _) (by assumption))) | fail)
    have hb3 : Below w.heap.size w (w2.drewN nq) := belowN hb _
    have hR3 := hR2.drewN nq
    go_wp2_with (first | (go_at_call 37; refine (of_any _ y s _ (by first | assumption | exact RollAt.drewN (by assumption) _) (by assumption)).mono ?_; rintro e w' ⟨rfl, rfl⟩) | (go_at_call 38; refine (fresh_any _ y s _ (by first | assumption | exact RollAt.drewN (by assumption) _) (by assumption)).mono ?_; rintro e w' ⟨rfl, rfl⟩; rw [hf.out]) | (go_at_call 122; refine (rules_any _ y s _ (by first | assumption | exact RollAt.drewN (by assumption) _) (by assumption)).mono ?_; rintro e w' ⟨rfl, rfl⟩; rw [hr.out]) | fail)
    go_quiet ((first | (go_at_call 37; exact Calls.quietE (of_any _ y s _ (RollAt.drewN (by assumption) _) (by assumption))) | fail))
    go_wp2_with (first | (go_at_call 37; refine (of_any _ y s _ (by first | assumption | exact RollAt.drewN (by assumption) _) (by assumption)).mono ?_; rintro e w' ⟨rfl, rfl⟩) | (go_at_call 38; refine (fresh_any _ y s _ (by first | assumption | exact RollAt.drewN (by assumption) _) (by assumption)).mono ?_; rintro e w' ⟨rfl, rfl⟩; rw [hf.out]) | (go_at_call 122; refine (rules_any _ y s _ (by first | assumption | exact RollAt.drewN (by assumption) _) (by assumption)).mono ?_; rintro e w' ⟨rfl, rfl⟩; rw [hr.out]) | fail)
    go_returns
    rw [e.out]
    exact ⟨rfl, GoesTo.stay hR (belowN hb3 _)⟩
  · have hM := hR2.mb x hx
    have q1 := hM.c1
    cases hg : x.m.g with
    | none =>
      have hmx : x.m = ⟨x.m.r, none⟩ := by cases hm : x.m; rw [hm] at hg; simp only at hg; rw [hg]
      have e : Hid (z = s) := Lib.hid (hz.out.symm.trans (e0.trans (by unfold RS.doObject; rw [h1, hmx])))
      rw [hg] at q1
      replace q1 : w2.cell? ⟨x.a, 1, none⟩ = some (.pointer none) := q1
      replace hg := Lib.hid hg
      replace h1 := Lib.hid h1
      replace hmx := Lib.hid hmx
      replace hxn := Lib.hid hxn
      go_enter Tryd.func13, Tryd.ntmps13
      go_wp2_with (first | (rw [hw2.out]) | (first | (go_at_call 37; refine (of_any _ y s _ (by first | assumption | exact RollAt.drewN (by assumption) _) (by assumption)).mono ?_; rintro e w' ⟨rfl, rfl⟩) | (go_at_call 38; refine (fresh_any _ y s _ (by first | assumption | exact RollAt.drewN (by assumption) _) (by assumption)).mono ?_; rintro e w' ⟨rfl, rfl⟩; rw [hf.out]) | (go_at_call 122; refine (rules_any _ y s _ (by first | assumption | exact RollAt.drewN (by assumption) _) (by assumption)).mono ?_; rintro e w' ⟨rfl, rfl⟩; rw [hr.out]) | fail))
      go_quiet (first | (go_at_call 37; exact Calls.quietE (of_any _ y s _ (RollAt.drewN (by assumption) _) (by assumption))) | fail)
      have hb3 : Below w.heap.size w (w2.drewN nq) := belowN hb _
      have hR3 := hR2.drewN nq
      go_wp2_with (first | (go_at_call 37; refine (of_any _ y s _ (by first | assumption | exact RollAt.drewN (by assumption) _) (by assumption)).mono ?_; rintro e w' ⟨rfl, rfl⟩) | (go_at_call 38; refine (fresh_any _ y s _ (by first | assumption | exact RollAt.drewN (by assumption) _) (by assumption)).mono ?_; rintro e w' ⟨rfl, rfl⟩; rw [hf.out]) | (go_at_call 122; refine (rules_any _ y s _ (by first | assumption | exact RollAt.drewN (by assumption) _) (by assumption)).mono ?_; rintro e w' ⟨rfl, rfl⟩; rw [hr.out]) | fail)
      go_quiet ((first | (go_at_call 37; exact Calls.quietE (of_any _ y s _ (RollAt.drewN (by assumption) _) (by assumption))) | fail))
      go_wp2_with (first | (go_at_call 37; refine (of_any _ y s _ (by first | assumption | exact RollAt.drewN (by assumption) _) (by assumption)).mono ?_; rintro e w' ⟨rfl, rfl⟩) | (go_at_call 38; refine (fresh_any _ y s _ (by first | assumption | exact RollAt.drewN (by assumption) _) (by assumption)).mono ?_; rintro e w' ⟨rfl, rfl⟩; rw [hf.out]) | (go_at_call 122; refine (rules_any _ y s _ (by first | assumption | exact RollAt.drewN (by assumption) _) (by assumption)).mono ?_; rintro e w' ⟨rfl, rfl⟩; rw [hr.out]) | fail)
      go_returns
      rw [e.out]
      exact ⟨rfl, GoesTo.stay hR (belowN hb3 _)⟩
    | some d =>
      have hmx : x.m = ⟨x.m.r, some d⟩ := by cases hm : x.m; rw [hm] at hg; simp only at hg; rw [hg]
      rw [hg] at q1
      replace q1 : w2.cell? ⟨x.a, 1, none⟩ = some (.pointer (some ⟨x.g, 0, none⟩)) := q1
      have hD := hM.gd d hg
      have g0 := hD.c0
      have g1 := hD.c1
      have g2 := hD.c2
      have g8 := hD.c8
      have hie := id_eql d.id o.f
      by_cases hdi : d.id = o.f
      · have e : Hid (z = s.setM x.n ⟨x.m.r, some (objG d o)⟩) := Lib.hid (hz.out.symm.trans (e0.trans (by unfold RS.doObject; rw [h1, hmx, hxn]; exact if_pos hdi)))
        rw [decide_eq_true hdi] at hie
        clear hdi
        replace hg := Lib.hid hg
        replace h1 := Lib.hid h1
        replace hmx := Lib.hid hmx
        replace hxn := Lib.hid hxn
        go_enter Tryd.func13, Tryd.ntmps13
        go_wp2_with (first | (rw [hw2.out]) | (first | (go_at_call 37; refine (of_any _ y s _ (by first | assumption | exact RollAt.drewN (by assumption) _) (by assumption)).mono ?_; rintro e w' ⟨rfl, rfl⟩) | (go_at_call 38; refine (fresh_any _ y s _ (by first | assumption | exact RollAt.drewN (by assumption) _) (by assumption)).mono ?_; rintro e w' ⟨rfl, rfl⟩; rw [hf.out]) | (go_at_call 122; refine (rules_any _ y s _ (by first | assumption | exact RollAt.drewN (by assumption) _) (by assumption)).mono ?_; rintro e w' ⟨rfl, rfl⟩; rw [hr.out]) | fail))
        go_quiet (first | (go_at_call 37; exact Calls.quietE (of_any _ y s _ (RollAt.drewN (by assumption) _) (by assumption))) | fail)
        have hb3 : Below w.heap.size w (w2.drewN nq) := belowN hb _
        have hR3 := hR2.drewN nq
        go_wp2_with (first | (go_at_call 37; refine (of_any _ y s _ (by first | assumption | exact RollAt.drewN (by assumption) _) (by assumption)).mono ?_; rintro e w' ⟨rfl, rfl⟩) | (go_at_call 38; refine (fresh_any _ y s _ (by first | assumption | exact RollAt.drewN (by assumption) _) (by assumption)).mono ?_; rintro e w' ⟨rfl, rfl⟩; rw [hf.out]) | (go_at_call 122; refine (rules_any _ y s _ (by first | assumption | exact RollAt.drewN (by assumption) _) (by assumption)).mono ?_; rintro e w' ⟨rfl, rfl⟩; rw [hr.out]) | fail)
        go_quiet ((first | (go_at_call 37; exact Calls.quietE (of_any _ y s _ (RollAt.drewN (by assumption) _) (by assumption))) | fail))
        go_wp2_with fail
        obtain ⟨w6, hw6, hRq⟩ := nameW (p := fun W => RollAt W y s) (hR3.drewN nq)
        have hBq := belowN hb3 nq
        have p0 : w6.cell? ⟨x.a, 1, none⟩ = some (.pointer (some ⟨x.g, 0, none⟩)) := by rw [← hw6.out]; exact q1
        have p1 : w6.cell? ⟨x.g, 8, none⟩ = some (.int .i64 d.la) := by rw [← hw6.out]; exact g8
        have p2 : w6.cell? ⟨w.heap.size, 3, none⟩ = some (.int .i64 o.a) := by rw [← hw6.out]; exact ka
        have hDq := (hRq.mb x hx).gd d hg.out
        rw [hw6.out] at hBq
        rw [hw6.out]
        have p3 := hDq.c7
        have p4 := hDq.free 7
        have p5 := hDq.free 8
        obtain ⟨mx, hmx2⟩ : ∃ mx, Hid (max d.la o.a = mx) := ⟨_, Lib.hid rfl⟩
        have hmax : ∀ u : World, (Builtin.max_ #[3, 3] 3 #[.int .i64 d.la, .int .i64 o.a]).run Tryd.prog u = .ok (.int .i64 mx) u := fun u => by
          have : (if d.la < o.a then o.a else d.la) = mx := by rw [← hmx2.out]; omega
          simp [Builtin.max_, Builtin.max2, this]
        go_region
        go_wp2_with fail
        go_returns
        rw [e.out]
        have hob := hRq.object hx hg.out o
        rw [hmx2.out] at hob
        exact ⟨rfl, GoesTo.drew (GoesTo.after hob hBq)⟩
      · have e : Hid (z = s) := Lib.hid (hz.out.symm.trans (e0.trans (by unfold RS.doObject; rw [h1, hmx]; exact if_neg hdi)))
        rw [decide_eq_false hdi] at hie
        clear hdi
        replace hg := Lib.hid hg
        replace h1 := Lib.hid h1
        replace hmx := Lib.hid hmx
        replace hxn := Lib.hid hxn
        go_enter Tryd.func13, Tryd.ntmps13
        go_wp2_with (first | (rw [hw2.out]) | (first | (go_at_call 37; refine (of_any _ y s _ (by first | assumption | exact RollAt.drewN (by assumption) _) (by assumption)).mono ?_; rintro e w' ⟨rfl, rfl⟩) | (go_at_call 38; refine (fresh_any _ y s _ (by first | assumption | exact RollAt.drewN (by assumption) _) (by assumption)).mono ?_; rintro e w' ⟨rfl, rfl⟩; rw [hf.out]) | (go_at_call 122; refine (rules_any _ y s _ (by first | assumption | exact RollAt.drewN (by assumption) _) (by assumption)).mono ?_; rintro e w' ⟨rfl, rfl⟩; rw [hr.out]) | fail))
        go_quiet (first | (go_at_call 37; exact Calls.quietE (of_any _ y s _ (RollAt.drewN (by assumption) _) (by assumption))) | fail)
        have hb3 : Below w.heap.size w (w2.drewN nq) := belowN hb _
        have hR3 := hR2.drewN nq
        go_wp2_with (first | (go_at_call 37; refine (of_any _ y s _ (by first | assumption | exact RollAt.drewN (by assumption) _) (by assumption)).mono ?_; rintro e w' ⟨rfl, rfl⟩) | (go_at_call 38; refine (fresh_any _ y s _ (by first | assumption | exact RollAt.drewN (by assumption) _) (by assumption)).mono ?_; rintro e w' ⟨rfl, rfl⟩; rw [hf.out]) | (go_at_call 122; refine (rules_any _ y s _ (by first | assumption | exact RollAt.drewN (by assumption) _) (by assumption)).mono ?_; rintro e w' ⟨rfl, rfl⟩; rw [hr.out]) | fail)
        go_quiet ((first | (go_at_call 37; exact Calls.quietE (of_any _ y s _ (RollAt.drewN (by assumption) _) (by assumption))) | fail))
        go_wp2_with (first | (go_at_call 37; refine (of_any _ y s _ (by first | assumption | exact RollAt.drewN (by assumption) _) (by assumption)).mono ?_; rintro e w' ⟨rfl, rfl⟩) | (go_at_call 38; refine (fresh_any _ y s _ (by first | assumption | exact RollAt.drewN (by assumption) _) (by assumption)).mono ?_; rintro e w' ⟨rfl, rfl⟩; rw [hf.out]) | (go_at_call 122; refine (rules_any _ y s _ (by first | assumption | exact RollAt.drewN (by assumption) _) (by assumption)).mono ?_; rintro e w' ⟨rfl, rfl⟩; rw [hr.out]) | fail)
        go_returns
        rw [e.out]
        exact ⟨rfl, GoesTo.stay hR (belowN hb3 _)⟩
end Go.Proofs.YtkolilbebkkpdaaDoor
