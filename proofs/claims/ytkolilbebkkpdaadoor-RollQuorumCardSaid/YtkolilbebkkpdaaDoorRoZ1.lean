/-
  Do: a Vouch.
-/
import Derived.Test.YtkolilbebkkpdaaDoorRoY3
namespace Go.Proofs.YtkolilbebkkpdaaDoor
open Go.RowKit Go.Maps

theorem guards_ok {s : RS} {o : OpI} (h : (s.guards o).2 = 0) : ∃ p ∈ s.ms, (s.guards o).1 = p.1 ∧ ∃ d, p.2.g = some d := by
  rcases s.whose_cases o.f with ⟨h0, _⟩ | ⟨p, hp, hid, h0⟩
  · unfold RS.guards at h
    rw [if_pos h0] at h
    cases h
  · cases hg : p.2.g with
    | none => rw [hg] at hid; cases hid
    | some d =>
      refine ⟨p, hp, ?_, d, hg⟩
      unfold RS.guards at h ⊢
      by_cases hz : s.whose o.f = 0
      · rw [if_pos hz] at h; cases h
      · rw [if_neg hz] at h ⊢
        unfold grd1 at h ⊢
        split
        · rename_i g hg2
          rw [hg2] at h
          simp only at h
          by_cases hb : o.b ∈ g.gs
          · rw [if_pos hb]; exact h0
          · rw [if_neg hb] at h; cases h
        · rename_i hg2
          rw [hg2] at h
          cases h
theorem setM_same {s : RS} (hn : (s.ms.map Prod.fst).Nodup) {n : Int} {m : Mb} (h : (n, m) ∈ s.ms) : s.setM n m = s := by
  unfold RS.setM
  have e : (s.ms.map fun p => if p.1 = n then (n, m) else p) = s.ms := by
    refine (List.map_congr_left fun p hp => ?_).trans (List.map_id' s.ms)
    by_cases e : p.1 = n
    · rw [if_pos e]
      have h1 := lk_of_mem hn h
      have h2 := lk_of_mem hn (show (p.1, p.2) ∈ s.ms from hp)
      rw [e, h1] at h2
      injection h2 with h2
      exact Prod.ext e.symm h2
    · rw [if_neg e]
  rw [e]
theorem lk_voV (vo : List ((Int × Int) × Int)) (k : Int × Int) : lk (voV vo) k = (lk vo k).map (Value.int .i64) := lk_map (Value.int .i64) vo k
theorem putL_voV (vo : List ((Int × Int) × Int)) (k : Int × Int) (t : Int) : putL (voV vo) k (.int .i64 t) = voV (putL vo k t) := by
  unfold putL
  rw [lk_voV]
  cases h : lk vo k with
  | none => simp [voV]
  | some u =>
    simp only [Option.map_some, Option.isSome_some, if_true]
    unfold voV
    rw [List.map_map, List.map_map]
    refine List.map_congr_left fun p _ => ?_
    show (if p.1 = k then (k, Value.int .i64 t) else (p.1, Value.int .i64 p.2)) = ((if p.1 = k then (k, t) else p).1, Value.int .i64 (if p.1 = k then (k, t) else p).2)
    by_cases e : p.1 = k
    · rw [if_pos e, if_pos e]
    · rw [if_neg e, if_neg e]
theorem cells2 (w : World) (t : TypeId) (u v : Value) : (w.alloc (.cells #[u, v] t)).cell? ⟨w.heap.size, 0, none⟩ = some u ∧ (w.alloc (.cells #[u, v] t)).cell? ⟨w.heap.size, 1, none⟩ = some v := by
  have hA := Arr.new w t [u, v]
  exact ⟨hA.cell (i := 0) (by simp), hA.cell (i := 1) (by simp)⟩
/-- A vouch more. -/
theorem RollAt.vouch {w : World} {y : Lay} {s : RS} (h : RollAt w y s) {x : MRec} (hx : x ∈ y.l) {d : Gd} (hg : x.m.g = some d) {w' : World} (hB : But w w' x.v) {o : OpI} (hv : vouchG d o = ⟨d.id, d.gs, d.n, d.t, putL d.vo (o.b, o.d) o.a, d.ob, d.la⟩) (hM : MapV KV w' x.v (putL (voV d.vo) (o.b, o.d) (.int .i64 o.a))) :
    ∃ y', RollAt w' y' (s.setM x.n ⟨x.m.r, some (vouchG d o)⟩) ∧ y'.r = y.r ∧ Turn w w' y.foot y'.foot := by
  have hm := h.mb x hx
  have hD := hm.gd d hg
  have hnf := h.mfoot hx
  have hf : x.foot = [x.a, x.g, x.v, x.e] := by unfold MRec.foot gfoot; rw [hg]
  have hf' : (⟨x.n, ⟨x.m.r, some (vouchG d o)⟩, x.a, x.g, x.v, x.e, x.c⟩ : MRec).foot = x.foot := by rw [hf]; rfl
  rw [hf] at hnf
  simp only [List.nodup_cons, List.mem_cons, List.not_mem_nil, or_false, not_or] at hnf
  obtain ⟨⟨n1, n2, n3⟩, ⟨n4, n5⟩, n6, _⟩ := hnf
  refine h.updM (x' := ⟨x.n, ⟨x.m.r, some (vouchG d o)⟩, x.a, x.g, x.v, x.e, x.c⟩) hx (b := x.v) (by rw [hf]; simp) hB rfl rfl ⟨?_, fun g hgg => ?_⟩ (by rw [hf']; exact h.mfoot hx) (fun i hi => .inl (by rw [hf'] at hi; exact hi))
  · have := hm.blk
    rw [hg] at this
    exact (hB.blk _ (blk_lt hm.blk) n2).trans this
  · have hgg' : vouchG d o = g := by injection hgg
    subst hgg'
    rw [hv]
    refine ⟨(hB.blk _ (blk_lt hD.blk) n4).trans hD.blk, hD.gs.block (hB.blk _ hD.lt (fun e => n6 e.symm)), Nat.lt_of_lt_of_le hD.lt hB.size, hD.cap, ?_⟩
    show MapV KV w' x.v (voV (putL d.vo (o.b, o.d) o.a))
    rw [← putL_voV]
    exact hM
set_option maxRecDepth 100000 in
set_option maxHeartbeats 8000000 in
theorem Do_vouch (w : World) (y : Lay) (s : RS) (o : OpI) (gp : Option Addr) (gc : Nat) (i : Idn) (k : Nat) (hk : k ≤ 1000) (hR : RollAt w y s) (hs : s.Ok k) (ho : o.Ok) (h1 : o.k = 11) :
    Calls Tryd.prog 13 #[.pointer (some ⟨y.r, 0, none⟩), .agg (opC o gp gc), .agg #[.int .i64 i.b, .int .i64 i.s, .int .u64 i.u]] w fun e w' => e = .returned (.tuple #[]) ∧ GoesTo w y (s.act o i) w' := by
  have hb1 := Below.lit w (.cells (opC o gp gc) 42)
  have hb2 := Below.lit (w.alloc (.cells (opC o gp gc) 42)) (.cells #[.int .i64 i.b, .int .i64 i.s, .int .u64 i.u] 34)
  have hO1 := OpAt.made w o gp gc
  have hO := hO1.below hb2 (by simp)
  obtain ⟨w2, hw2⟩ : ∃ w2, Hid ((w.alloc (.cells (opC o gp gc) 42)).alloc (.cells #[.int .i64 i.b, .int .i64 i.s, .int .u64 i.u] 34) = w2) := ⟨_, Lib.hid rfl⟩
  have hb : Below w.heap.size w w2 := by rw [← hw2.out]; exact hb1.trans (hb2.mono hb1.size)
  rw [hw2.out] at hO
  have hR2 := hR.below hb
  have hbo := i64_small ho.hb
  have hd := i64_small ho.hd
  have hoo := i64_small ho.ho
  have hmm := i64_small ho.hm
  have kk := hO.ck
  have kb := hO.cb
  have kd := hO.cd
  have ko := hO.co
  have km := hO.cm
  have kr := hO.cr
  have kn := hO.cn
  have kf1 := hO.cfb
  have kf2 := hO.cfs
  have kf3 := hO.cfu
  have c1 := hR2.c1
  have c2 := hR2.c2
  have c3 := hR2.c3
  have hzw : w.heap.size < w2.heap.size := cell_lt kk
  have hf1 : (s.ins ++ s.gone).length ≤ 1000 := Nat.le_trans hs.few (by omega)
  have hf2 : s.ms.length ≤ 1000 := Nat.le_trans hs.fewM (by omega)
  have hmb := ofD_bd o.b
  have hmo : i64ok (ofD o.b) := by unfold i64ok; omega
  obtain ⟨pm, hl2⟩ := hR2.memP hmo
  clear hb1 hb2 hO1
  obtain ⟨z, hz⟩ : ∃ z, Hid (s.act o i = z) := ⟨_, Lib.hid rfl⟩
  rw [hz.out]
  have e0 : s.act o i = s.doVouch o := RS.act_eq s o i h1
  rw [h1] at kk
  have ka := hO.ca
  have hgb := guards_bd hs o
  obtain ⟨g1, hg1⟩ : ∃ g1, Hid ((s.guards o).1 = g1) := ⟨_, Lib.hid rfl⟩
  obtain ⟨g2, hg2⟩ : ∃ g2, Hid ((s.guards o).2 = g2) := ⟨_, Lib.hid rfl⟩
  rw [hg1.out] at hgb
  have hgo : i64ok g1 := by unfold i64ok; omega
  go_enter Tryd.func13, Tryd.ntmps13
  go_wp2_with (first | (rw [hw2.out]) | (first | (go_at_call 37; refine (of_any _ y s _ (by first | assumption | exact RollAt.drewN (by assumption) _) (by assumption)).mono ?_; rintro e w' ⟨rfl, rfl⟩) | (go_at_call 38; refine (fresh_any _ y s _ (by first | assumption | exact RollAt.drewN (by assumption) _) (by assumption)).mono ?_; rintro e w' ⟨rfl, rfl⟩; rw [hf.out]) | (go_at_call 122; refine (rules_any _ y s _ (by first | assumption | exact RollAt.drewN (by assumption) _) (by assumption)).mono ?_; rintro e w' ⟨rfl, rfl⟩; rw [hr.out]) | fail))
  go_quiet (first | (go_at_call 37; exact Calls.quietE (of_any _ y s _ (RollAt.drewN (by assumption) _) (by assumption))) | fail)
  have hb3 : Below w.heap.size w (w2.drewN nq) := belowN hb _
  have hR3 := hR2.drewN nq
  have hO3 : OpAt (w2.drewN nq) w.heap.size o gp gc := hO
  go_wp2_with (first | (refine wpList_load_row rfl 42 _ rfl w.heap.size rfl 42 (opC o gp gc) (0, 0) _ hO3 Tryd.underlying42 rfl (by kernel_rfl) ?_) | fail)
  refine (guards_any _ y s o gp gc k hR3 hs).mono ?_
  rintro e' w4 ⟨rfl, hb4⟩
  rw [hg1.out, hg2.out]
  have hB4 := hb3.trans (hb4.mono hb3.size)
  have hR4 := hR3.below hb4
  have ka4 := (hb4.cell (p := ⟨w.heap.size, 3, none⟩) hzw).trans (show (w2.drewN nq).cell? ⟨w.heap.size, 3, none⟩ = _ from ka)
  have kb4 := (hb4.cell (p := ⟨w.heap.size, 0, none⟩) hzw).trans (show (w2.drewN nq).cell? ⟨w.heap.size, 0, none⟩ = _ from kb)
  have kd4 := (hb4.cell (p := ⟨w.heap.size, 5, none⟩) hzw).trans (show (w2.drewN nq).cell? ⟨w.heap.size, 5, none⟩ = _ from kd)
  have hzw4 : w.heap.size < w4.heap.size := cell_lt ka4
  clear hl2 kk kb kd ko km kr kn kf1 kf2 kf3 c1 c2 c3 hO hR2 ka hO3
  have c3 := hR4.c3
  by_cases hz2 : g2 = 0
  · have t1 : (g2 == 0) = true := beq_iff_eq.2 hz2
    obtain ⟨p, hp, hp1, d, hgd⟩ := guards_ok (hg2.out.trans hz2)
    rw [hg1.out] at hp1
    obtain ⟨x, hx, rfl⟩ := hR4.ofS hp
    simp only at hp1 hgd
    have hdk := hs.gd _ hp d hgd
    have hM := hR4.mb x hx
    have q1 := hM.c1
    rw [hgd] at q1
    replace q1 : w4.cell? ⟨x.a, 1, none⟩ = some (.pointer (some ⟨x.g, 0, none⟩)) := q1
    have hD := hM.gd d hgd
    have q4 := hD.c6
    have hl : (Instr.lookup 79 (.map (some y.m)) (.int .i64 g1) false).run Tryd.prog w4 = .ok (.pointer (some ⟨x.a, 0, none⟩)) w4 := by
      rcases hR4.mem hgo with ⟨h5, _⟩ | ⟨u, hu, hun, _, hl⟩
      · have := lk_of_mem hR4.msnd (hR4.memS hx)
        rw [← hp1, RS.memb.eq_def] at *
        rw [this] at h5; cases h5
      · rwa [hR4.same hu hx (hun.trans hp1)] at hl
    have hms : s.memb g1 = some x.m := by rw [hp1]; exact lk_of_mem hR4.msnd (hR4.memS hx)
    have hmx : x.m = ⟨x.m.r, some d⟩ := by cases hm : x.m; rw [hm] at hgd; simp only at hgd; rw [hgd]
    have e1 : Hid (z = s.setM x.n ⟨x.m.r, some (vouchG d o)⟩) := Lib.hid (hz.out.symm.trans (e0.trans (by
      unfold RS.doVouch
      rw [if_pos (hg2.out.trans hz2), hg1.out, hms, hmx, hp1])))
    have hbw := Below.lit w4 (.cells #[.int .i64 o.b, .int .i64 o.d] 93)
    obtain ⟨v0, v1⟩ := cells2 w4 93 (.int .i64 o.b) (.int .i64 o.d)
    have hR5 := hR4.below hbw
    have hD5 := ((hR5.mb x hx).gd d hgd)
    have r4 := hD5.c6
    have ka5 := (hbw.cell (p := ⟨w.heap.size, 3, none⟩) hzw4).trans ka4
    have hB5 := hB4.trans (hbw.mono hB4.size)
    have hkv : KV.ok (o.b, o.d) := ⟨hbo, hd⟩
    have hlen : (voV d.vo).length ≤ 1000000 := by unfold voV; rw [List.length_map]; have := hdk.vl; omega
    have hlk : ∀ j, (Instr.lookup 88 (.map (some x.v)) (.agg #[.int .i64 o.b, .int .i64 o.d]) true).run Tryd.prog ((w4.alloc (.cells #[.int .i64 o.b, .int .i64 o.d] 93)).drewN j) = .ok (.tuple #[lkv (voV d.vo) (o.b, o.d) (.int .i64 0), .bool (lk (voV d.vo) (o.b, o.d)).isSome]) ((w4.alloc (.cells #[.int .i64 o.b, .int .i64 o.d] 93)).drewN j) := fun j =>
      (show MapV KV ((w4.alloc (.cells #[.int .i64 o.b, .int .i64 o.d] 93)).drewN j) x.v (voV d.vo) from hD5.vo.keep rfl).look_ok (K := KV) Tryd.underlying88 (zero_int _) hkv
    unfold lkv at hlk
    rw [lk_voV] at hlk
    replace hms := Lib.hid hms
    replace hmx := Lib.hid hmx
    replace hgd := Lib.hid hgd
    replace hp1 := Lib.hid hp1
    replace hz2 := Lib.hid hz2
    cases hvo : lk d.vo (o.b, o.d) with
    | none =>
      rw [hvo] at hlk
      replace hlk : ∀ j, (Instr.lookup 88 (.map (some x.v)) (.agg #[.int .i64 o.b, .int .i64 o.d]) true).run Tryd.prog ((w4.alloc (.cells #[.int .i64 o.b, .int .i64 o.d] 93)).drewN j) = .ok (.tuple #[.int .i64 0, .bool false]) ((w4.alloc (.cells #[.int .i64 o.b, .int .i64 o.d] 93)).drewN j) := hlk
      have hvg : vouchG d o = ⟨d.id, d.gs, d.n, d.t, putL d.vo (o.b, o.d) o.a, d.ob, d.la⟩ := by unfold vouchG; rw [hvo]
      replace hvo := Lib.hid hvo
      replace hvg := Lib.hid hvg
      go_wp2_with fail
      go_quiet (fail)
      go_wp2_with fail
      have hRq := hR5.drewN nq
      have hBq := belowN hB5 nq
      have p0 : ((w4.alloc (.cells #[.int .i64 o.b, .int .i64 o.d] 93)).drewN nq).cell? ⟨w4.heap.size, 0, none⟩ = some (.int .i64 o.b) := v0
      have p1 : ((w4.alloc (.cells #[.int .i64 o.b, .int .i64 o.d] 93)).drewN nq).cell? ⟨w4.heap.size, 1, none⟩ = some (.int .i64 o.d) := v1
      have p2 : ((w4.alloc (.cells #[.int .i64 o.b, .int .i64 o.d] 93)).drewN nq).cell? ⟨x.g, 6, none⟩ = some (.map (some x.v)) := r4
      have p3 : ((w4.alloc (.cells #[.int .i64 o.b, .int .i64 o.d] 93)).drewN nq).cell? ⟨w.heap.size, 3, none⟩ = some (.int .i64 o.a) := ka5
      obtain ⟨w6, hw6⟩ : ∃ w6, Hid ((w4.alloc (.cells #[.int .i64 o.b, .int .i64 o.d] 93)).drewN nq = w6) := ⟨_, Lib.hid rfl⟩
      rw [hw6.out] at hRq hBq p0 p1 p2 p3
      rw [hw6.out]
      refine wp_region_still_tail 7 (by kernel_rfl) (by kernel_rfl) ?_
      simp only [List.take_succ_cons, List.take_zero, List.drop_succ_cons, List.drop_zero]
      repeat still_step
      refine wpStill_nil ?_
      change wpList _ _ _ _ _ w6.drew
      have hR7 : RollAt w6.drew y s := hRq.drew
      have hB7 : Below w.heap.size w w6.drew := hBq.drew
      have hD7 := (hR7.mb x hx).gd d hgd.out
      go_wp2_with (first
        | (at_mapUpdate; refine wp_upd (K := KV) _ rfl _ _ _ 88 rfl 3 Tryd.underlying88 x.v (voV d.vo) hlen rfl hD7.vo (o.b, o.d) (.int .i64 o.a) rfl rfl hkv ?_; intro w8 hM8 hB8 hz8)
        | fail)
      go_returns
      rw [e1.out]
      exact ⟨rfl, GoesTo.after (hR7.vouch hx hgd.out hB8 hvg.out hM8) hB7⟩
    | some t =>
      rw [hvo] at hlk
      replace hlk : ∀ j, (Instr.lookup 88 (.map (some x.v)) (.agg #[.int .i64 o.b, .int .i64 o.d]) true).run Tryd.prog ((w4.alloc (.cells #[.int .i64 o.b, .int .i64 o.d] 93)).drewN j) = .ok (.tuple #[.int .i64 t, .bool true]) ((w4.alloc (.cells #[.int .i64 o.b, .int .i64 o.d] 93)).drewN j) := hlk
      by_cases hlt : o.a < t
      · have hvg : vouchG d o = ⟨d.id, d.gs, d.n, d.t, putL d.vo (o.b, o.d) o.a, d.ob, d.la⟩ := by unfold vouchG; rw [hvo]; exact if_pos hlt
        replace hvo := Lib.hid hvo
        replace hvg := Lib.hid hvg
        go_wp2_with fail
        go_quiet (fail)
        go_wp2_with fail
        have hRq := hR5.drewN nq
        have hBq := belowN hB5 nq
        have p0 : ((w4.alloc (.cells #[.int .i64 o.b, .int .i64 o.d] 93)).drewN nq).cell? ⟨w4.heap.size, 0, none⟩ = some (.int .i64 o.b) := v0
        have p1 : ((w4.alloc (.cells #[.int .i64 o.b, .int .i64 o.d] 93)).drewN nq).cell? ⟨w4.heap.size, 1, none⟩ = some (.int .i64 o.d) := v1
        have p2 : ((w4.alloc (.cells #[.int .i64 o.b, .int .i64 o.d] 93)).drewN nq).cell? ⟨x.g, 6, none⟩ = some (.map (some x.v)) := r4
        have p3 : ((w4.alloc (.cells #[.int .i64 o.b, .int .i64 o.d] 93)).drewN nq).cell? ⟨w.heap.size, 3, none⟩ = some (.int .i64 o.a) := ka5
        obtain ⟨w6, hw6⟩ : ∃ w6, Hid ((w4.alloc (.cells #[.int .i64 o.b, .int .i64 o.d] 93)).drewN nq = w6) := ⟨_, Lib.hid rfl⟩
        rw [hw6.out] at hRq hBq p0 p1 p2 p3
        rw [hw6.out]
        refine wp_region_still_tail 7 (by kernel_rfl) (by kernel_rfl) ?_
        simp only [List.take_succ_cons, List.take_zero, List.drop_succ_cons, List.drop_zero]
        repeat still_step
        refine wpStill_nil ?_
        change wpList _ _ _ _ _ w6.drew
        have hR7 : RollAt w6.drew y s := hRq.drew
        have hB7 : Below w.heap.size w w6.drew := hBq.drew
        have hD7 := (hR7.mb x hx).gd d hgd.out
        go_wp2_with (first
          | (at_mapUpdate; refine wp_upd (K := KV) _ rfl _ _ _ 88 rfl 3 Tryd.underlying88 x.v (voV d.vo) hlen rfl hD7.vo (o.b, o.d) (.int .i64 o.a) rfl rfl hkv ?_; intro w8 hM8 hB8 hz8)
          | fail)
        go_returns
        rw [e1.out]
        exact ⟨rfl, GoesTo.after (hR7.vouch hx hgd.out hB8 hvg.out hM8) hB7⟩
      · have hvg : vouchG d o = d := by unfold vouchG; rw [hvo]; exact if_neg hlt
        have e : Hid (z = s) := Lib.hid (by rw [e1.out, hvg]; exact setM_same hR4.msnd (by rw [← hmx.out]; exact hp))
        replace hvo := Lib.hid hvo
        replace hvg := Lib.hid hvg
        go_wp2_with fail
        go_quiet (fail)
        go_wp2_with fail
        go_returns
        rw [e.out]
        exact ⟨rfl, GoesTo.stay hR (belowN hB5 _)⟩
  · have t1 : (g2 == 0) = false := beq_eq_false_iff_ne.2 hz2
    have e : Hid (z = s) := Lib.hid (hz.out.symm.trans (e0.trans (by unfold RS.doVouch; rw [if_neg (by rw [hg2.out]; exact hz2)])))
    clear hz2
    go_wp2_with fail
    go_returns
    rw [e.out]
    exact ⟨rfl, GoesTo.stay hR hB4⟩
end Go.Proofs.YtkolilbebkkpdaaDoor
