/-
  Do: a Guard.
-/
import Derived.Test.YtkolilbebkkpdaaDoorRoL
import Derived.Lib.SliceRun
import Derived.Laws.AppendOwnNone
namespace Go.Proofs.YtkolilbebkkpdaaDoor
open Go.RowKit Go.Maps

set_option maxRecDepth 100000 in
/-- append(out, ys...). -/
theorem app_manyI {ops : Array Oper} {rest : List Oper} {o : Oper} {a : Act} {Q : Exit → Act → World → Prop} (hgd : o.guard = none) (s x : Operand)
    (ho : o.op = .call { callee := .builtin .append, args := #[s, x], argTypes := #[22, 22] }) {base : Nat} {v : Value} {n m c : Nat} {q : Option Addr} {xs ys : List Int} {w : World}
    (hown : OwnI w base v n xs) (hs : a.eval s = v) (hx : a.eval x = .slice q m c) (hY : UI w q m ys) (hq : q = none → c = 0) (hn : n + m ≤ 8796093022208) (hbase : base ≤ w.heap.size)
    (h : ∀ v' w', OwnI w' base v' (n + m) (xs ++ ys) → Below base w w' → wpList Tryd.prog ops Q rest (a.put o.dst v') w') :
    wpList Tryd.prog ops Q (o :: rest) a w := by
  obtain ⟨i0, hi, hz0, hz1, hz2⟩ := info_parts int_info
  cases q with
  | none =>
    have hm : m = 0 := by
      rcases Nat.eq_zero_or_pos m with h0 | h0
      · exact h0
      · obtain ⟨_, _, he, _⟩ := hY.look h0
        cases he
    subst hm
    have hys : ys = [] := List.eq_nil_of_length_eq_zero hY.len
    rw [hq rfl] at hx
    refine wpList_append_own_none hgd s x 22 ho base 3 i0 1 Tryd.underlying22 hi v n _ hs hown.row hx ?_
    exact h v w (by rw [hys, List.append_nil]; exact hown) (Below.refl _ _)
  | some ad =>
    refine wpList_append_own _ hgd s x 22 ho base 3 i0 (.int .i64 0) 1 8 Tryd.underlying22 hi hz0 hz1 hz2 rfl (by decide) v n _ hs hown.row
      ad m c (ys.map (Value.int .i64)) hx (by rw [List.length_map, hY.len]; omega) ?_ ?_ (by unfold maxLen; omega) (by omega) hbase ?_
    · intro j u hj
      rw [List.getElem?_map] at hj
      have hjl : j < ys.length := by
        rcases Nat.lt_or_ge j ys.length with h | h
        · exact h
        · rw [List.getElem?_eq_none h] at hj; cases hj
      rw [List.getElem?_eq_getElem hjl] at hj
      obtain ⟨b, off, he, _, hc, _⟩ := hY.look (i := j) (by rw [← hY.len]; exact hjl)
      injection he with he
      subst he
      simp only [Option.map_some, Option.some.injEq] at hj
      rw [← hj, ← nth_eq hjl, ← hc]
      unfold Addr.add
      by_cases h0 : j = 0
      · subst h0; rfl
      · rw [if_neg h0]
    · intro u hu
      obtain ⟨y, _, rfl⟩ := List.mem_map.1 hu
      rfl
    · intro v' w' h1 h2 _
      have hb : Below base w w' := (Below.refl _ _).grown h2 hbase (fun k e => (hown.row.lt k e).1)
      refine h v' w' ⟨by rw [List.length_append, hown.len, hY.len], by rw [List.map_append]; exact h1, ?_⟩ hb
      intro z hz
      rcases List.mem_append.1 hz with hz | hz
      · exact hown.bd z hz
      · exact hY.bd z hz


/-- A list of no numbers, of the call's own. -/
theorem OwnI.none_at (w : World) : OwnI (w.alloc (.cells #[] 3)) w.heap.size (.slice (some ⟨w.heap.size, 0, none⟩) 0 0) 0 [] := by
  refine ⟨rfl, ⟨rfl, .inr ⟨w.heap.size, 0, #[], rfl, Nat.le_refl _, ?_, Nat.zero_le _, by unfold maxLen; omega, by simp, by simp⟩⟩, fun _ h => by cases h⟩
  have := Arr.new w 3 []
  exact this
set_option maxRecDepth 100000 in
theorem Clone_any (p : Option Addr) (n : Nat) (xs : List Int) (c : Nat) (w : World) (hU : UI w p n xs) (hp : p = none → c = 0) (hn : n ≤ 1000000) :
    Calls Tryd.prog 41 #[.slice p n c] w fun e w' => ∃ v, e = .returned v ∧ OwnI w' w.heap.size v n xs ∧ Below w.heap.size w w' := by
  cases p with
  | none =>
    obtain rfl : c = 0 := hp rfl
    have hn0 : n = 0 := by
      rcases Nat.eq_zero_or_pos n with h0 | h0
      · exact h0
      · obtain ⟨_, _, he, _⟩ := hU.look h0
        cases he
    subst hn0
    have hx : xs = [] := List.eq_nil_of_length_eq_zero hU.len
    subst hx
    have hnil : (binOp .eql 22 (.slice none 0 0) (.slice none 0 0)).run Tryd.prog w = .ok (.bool true) w := Lib.run_eql_slice_nil w _ _ _ _ _ _ _ Tryd.underlying22
    clear hp
    go_enter Tryd.func41, Tryd.ntmps41
    go_wp2
    go_ret
    exact ⟨_, rfl, OwnI.nil _ _, Below.refl _ _⟩
  | some q =>
    have hb0 : Below w.heap.size w (w.alloc (.cells #[] 3)) := Below.lit w _
    have hown := OwnI.none_at w
    have hnil : (binOp .eql 22 (.slice (some q) n c) (.slice none 0 0)).run Tryd.prog w = .ok (.bool false) w := Lib.run_eql_slice_nil w _ _ _ _ _ _ _ Tryd.underlying22
    clear hp
    have hU1 := hU.below hb0
    go_enter Tryd.func41, Tryd.ntmps41
    go_wp2_with (at_builtin; refine app_manyI rfl _ _ rfl hown rfl rfl hU1 (fun h => by cases h) (by omega) hb0.size ?_; intro v' w1 hown1 hb1)
    go_ret
    rw [Nat.zero_add, List.nil_append] at hown1
    exact ⟨v', rfl, hown1, hb0.trans hb1⟩
theorem alloc_cell {w : World} {a : Addr} {v : Value} (h : w.cell? a = some v) : ∀ ob, (w.alloc ob).cell? a = some v := fun ob => ((Below.lit w ob).cell (cell_lt h)).trans h
theorem alloc_keeps {w : World} {a : Addr} {v : Value} (h : w.cell? a = some v) (hf : w.frozen? a = false) : ∀ ob, (w.alloc ob).cell? a = some v ∧ (w.alloc ob).frozen? a = false := fun ob =>
  ⟨((Below.lit w ob).cell (cell_lt h)).trans h, ((Below.lit w ob).frozen (cell_lt h)).trans hf⟩
theorem alloc_keeps2 {w : World} {a : Addr} {v : Value} (h : w.cell? a = some v) (hf : w.frozen? a = false) : ∀ ob ob', ((w.alloc ob).alloc ob').cell? a = some v ∧ ((w.alloc ob).alloc ob').frozen? a = false := fun ob ob' =>
  alloc_keeps (alloc_keeps h hf ob).1 (alloc_keeps h hf ob).2 ob'
theorem Clone_pos (ga : Addr) (n : Nat) (xs : List Int) (c : Nat) (w : World) (hU : UI w (some ga) n xs) (hn : n ≤ 1000000) (h0 : 0 < n) :
    Calls Tryd.prog 41 #[.slice (some ga) n c] w fun e w' => ∃ b c' : Nat, e = .returned (.slice (some ⟨b, 0, none⟩) n c') ∧ w.heap.size ≤ b ∧ b < w'.heap.size ∧ n ≤ c' ∧ UI w' (some ⟨b, 0, none⟩) n xs ∧ Below w.heap.size w w' := by
  refine (Clone_any (some ga) n xs c w hU (fun h => by cases h) hn).mono ?_
  rintro e w' ⟨v, rfl, hown, hb⟩
  rcases hown.row.2 with ⟨hv, hn0⟩ | ⟨g, cap, cur, rfl, hg, hgb, hnc, _⟩
  · omega
  · obtain ⟨p, c', hv, _, hu, _⟩ := hown.u
    injection hv with hp _ _
    subst hp
    exact ⟨g, cap, rfl, hg, (Array.getElem?_eq_some_iff.1 hgb).1, hnc, hu, hb⟩
theorem But.of_below {w w' : World} (h : Below w.heap.size w w') (b : Nat) : But w w' b := ⟨h.os, h.tape, h.output, h.size, fun i hi _ => h.block i hi⟩
/-- A member's guard is another one. -/
theorem RollAt.guarded {w W1 : World} {y : Lay} {s : RS} (h : RollAt w y s) {x : MRec} (hx : x ∈ y.l) (hb : Below w.heap.size w W1) {gk mb gb gcc : Nat} {G : Gd} (h1 : W1.heap[gk]? = some (.cells (gdCells mb gb gcc G) 90 (0, 0)))
    (hU : UI W1 (some ⟨gb, 0, none⟩) G.gs.length G.gs) (hc : G.gs.length ≤ gcc) (hgb : w.heap.size ≤ gb ∧ gb < W1.heap.size) (hmb : w.heap.size ≤ mb) (hgk : w.heap.size ≤ gk) (hM : MapV KV W1 mb (voV G.vo)) (hd : gk ≠ mb ∧ gk ≠ gb ∧ mb ≠ gb) :
    ∃ y', RollAt (W1.setCell ⟨x.a, 1, none⟩ (.pointer (some ⟨gk, 0, none⟩))) y' (s.setM x.n ⟨x.m.r, some G⟩) ∧ y'.r = y.r ∧ Turn w (W1.setCell ⟨x.a, 1, none⟩ (.pointer (some ⟨gk, 0, none⟩))) y.foot y'.foot := by
  have hm := h.mb x hx
  have hxa := blk_lt hm.blk
  have hB1 : But W1 (W1.setCell ⟨x.a, 1, none⟩ (.pointer (some ⟨gk, 0, none⟩))) x.a := But.of_grown (grown_cell W1 x.a 1 _)
  have hB : But w (W1.setCell ⟨x.a, 1, none⟩ (.pointer (some ⟨gk, 0, none⟩))) x.a := (But.of_below hb x.a).trans hB1
  obtain ⟨d1, d2, d3⟩ := hd
  refine h.updM (x' := ⟨x.n, ⟨x.m.r, some G⟩, x.a, gk, mb, gb, gcc⟩) hx (b := x.a) (List.mem_cons_self ..) hB rfl rfl ⟨?_, fun g hgg => ?_⟩ ?_ ?_
  · exact setCell_blk ((hb.block _ hxa).trans hm.blk) 1 _
  · have hgg' : G = g := by injection hgg
    subst hgg'
    refine ⟨(hB1.blk _ (blk_lt h1) (by show gk ≠ x.a; omega)).trans h1, hU.block (hB1.blk _ hgb.2 (by omega)), Nat.lt_of_lt_of_le hgb.2 hB1.size, hc, hM.keep (hB1.blk _ hM.lt (by show mb ≠ x.a; omega))⟩
  · show (x.a :: [gk, mb, gb]).Nodup
    simp only [List.nodup_cons, List.mem_cons, List.not_mem_nil, or_false, not_or, not_false_eq_true, List.nodup_nil, and_true]
    refine ⟨⟨by omega, by omega, by omega⟩, ⟨d1, d2⟩, d3⟩
  · intro i hi
    replace hi : i ∈ x.a :: [gk, mb, gb] := hi
    simp only [List.mem_cons, List.not_mem_nil, or_false] at hi
    rcases hi with rfl | rfl | rfl | rfl
    · exact .inl (List.mem_cons_self ..)
    · exact .inr hgk
    · exact .inr hmb
    · exact .inr hgb.1
theorem RS.guard_eq {s : RS} {o : OpI} {i : Idn} {m : Mb} (h : s.memb (ofD o.b) = some m) : s.doGuard o i = s.setM (ofD o.b) ⟨m.r, some ⟨i, o.gs, o.n, o.t, [], false, 0⟩⟩ := by unfold RS.doGuard; rw [h]
set_option maxRecDepth 100000 in
set_option maxHeartbeats 8000000 in
theorem Do_guard (w : World) (y : Lay) (s : RS) (o : OpI) (gp : Option Addr) (gc : Nat) (i : Idn) (k : Nat) (_hk : k ≤ 1000) (hR : RollAt w y s) (hs : s.Ok k) (ho : o.Ok) (h1 : o.k = 9) (hU : UI w gp o.gs.length o.gs) (hne : o.gs ≠ []) :
    Calls Tryd.prog 13 #[.pointer (some ⟨y.r, 0, none⟩), .agg (opC o gp gc), .agg #[.int .i64 i.b, .int .i64 i.s, .int .u64 i.u]] w fun e w' => e = .returned (.tuple #[]) ∧ GoesTo w y (s.act o i) w' := by
  have hb1 := Below.lit w (.cells (opC o gp gc) 42)
  have hb2 := Below.lit (w.alloc (.cells (opC o gp gc) 42)) (.cells #[.int .i64 i.b, .int .i64 i.s, .int .u64 i.u] 34)
  have hO1 := OpAt.made w o gp gc
  have hO := hO1.below hb2 (by simp)
  obtain ⟨w2, hw2⟩ : ∃ w2, Hid ((w.alloc (.cells (opC o gp gc) 42)).alloc (.cells #[.int .i64 i.b, .int .i64 i.s, .int .u64 i.u] 34) = w2) := ⟨_, Lib.hid rfl⟩
  have hb : Below w.heap.size w w2 := by rw [← hw2.out]; exact hb1.trans (hb2.mono hb1.size)
  rw [hw2.out] at hO
  have hR2 := hR.below hb
  have hbo := i64_small ho.hb
  have hd := i64_small ho.hd
  have hoo := i64_small ho.ho
  have hmm := i64_small ho.hm
  have kk := hO.ck
  have kb := hO.cb
  have kd := hO.cd
  have ko := hO.co
  have km := hO.cm
  have kr := hO.cr
  have kn := hO.cn
  have kf1 := hO.cfb
  have kf2 := hO.cfs
  have kf3 := hO.cfu
  have c1 := hR2.c1
  have c2 := hR2.c2
  have c3 := hR2.c3
  have hzw : w.heap.size < w2.heap.size := cell_lt kk
  have hf1 : (s.ins ++ s.gone).length ≤ 1000 := Nat.le_trans hs.few (by omega)
  have hf2 : s.ms.length ≤ 1000 := Nat.le_trans hs.fewM (by omega)
  have hmb := ofD_bd o.b
  have hmo : i64ok (ofD o.b) := by unfold i64ok; omega
  obtain ⟨pm, hl2⟩ := hR2.memP hmo
  clear hb1 hb2 hO1
  obtain ⟨z, hz⟩ : ∃ z, Hid (s.act o i = z) := ⟨_, Lib.hid rfl⟩
  rw [hz.out]
  have e0 : s.act o i = s.doGuard o i := RS.act_eq s o i h1
  rw [h1] at kk
  have kg := hO.cgs
  have kt := hO.ct
  clear hl2
  rcases hR2.memN hmo with ⟨h1, hl, hl2⟩ | ⟨x, hx, hxn, h1, hl, hl2⟩
  · have e : Hid (z = s) := Lib.hid (hz.out.symm.trans (e0.trans (by unfold RS.doGuard; rw [h1])))
    go_enter Tryd.func13, Tryd.ntmps13
    go_wp2_with (first | (rw [hw2.out]) | (first | (go_at_call 37; refine (of_any _ y s _ (by first | assumption | exact RollAt.drewN (by assumption) _) (by assumption)).mono ?_; rintro e w' ⟨rfl, rfl⟩) | (go_at_call 38; refine (fresh_any _ y s _ (by first | assumption | exact RollAt.drewN (by assumption) _) (by assumption)).mono ?_; rintro e w' ⟨rfl, rfl⟩; rw [hf.out]) | (go_at_call 122; refine (rules_any _ y s _ (by first | assumption | exact RollAt.drewN (by assumption) _) (by assumption)).mono ?_; rintro e w' ⟨rfl, rfl⟩; rw [hr.out]) | fail))
    go_quiet (first | (go_at_call 37; exact Calls.quietE (of_any _ y s _ (RollAt.drewN (by assumption) _) (by assumption))) | fail)
    have hb3 : Below w.heap.size w (w2.drewN nq) := belowN hb _
    have hR3 := hR2.drewN nq
    go_wp2_with (first | (go_at_call 37; refine (of_any _ y s _ (by first | assumption | exact RollAt.drewN (by assumption) _) (by assumption)).mono ?_; rintro e w' ⟨rfl, rfl⟩) | (go_at_call 38; refine (fresh_any _ y s _ (by first | assumption | exact RollAt.drewN (by assumption) _) (by assumption)).mono ?_; rintro e w' ⟨rfl, rfl⟩; rw [hf.out]) | (go_at_call 122; refine (rules_any _ y s _ (by first | assumption | exact RollAt.drewN (by assumption) _) (by assumption)).mono ?_; rintro e w' ⟨rfl, rfl⟩; rw [hr.out]) | fail)
    go_returns
    rw [e.out]
    exact ⟨rfl, GoesTo.stay hR hb3⟩
  · have e : Hid (z = s.setM x.n ⟨x.m.r, some ⟨i, o.gs, o.n, o.t, [], false, 0⟩⟩) := Lib.hid (hz.out.symm.trans (e0.trans (by rw [RS.guard_eq h1, hxn])))
    replace h1 := Lib.hid h1
    replace hxn := Lib.hid hxn
    have hga : w2.cell? ⟨w.heap.size + 1, 0, none⟩ = some (.int .i64 i.b) ∧ w2.cell? ⟨w.heap.size + 1, 1, none⟩ = some (.int .i64 i.s) ∧ w2.cell? ⟨w.heap.size + 1, 2, none⟩ = some (.int .u64 i.u) := by
      rw [← hw2.out]
      have := cells3 (w.alloc (.cells (opC o gp gc) 42)) 34 (.int .i64 i.b) (.int .i64 i.s) (.int .u64 i.u)
      rwa [World.size_alloc] at this
    obtain ⟨i0, i1, i2⟩ := hga
    have hM := hR2.mb x hx
    have x1 := hM.c1
    have xf := hM.free 1
    have hU2 := hU.below hb
    have hl0 : o.gs.length ≤ 1000000 := Nat.le_trans ho.hgl (by omega)
    have hgp : 0 < o.gs.length := List.length_pos_iff.2 hne
    obtain ⟨ga, rfl⟩ : ∃ ga, gp = some ga := by
      obtain ⟨b, off, he, _⟩ := hU.look (i := 0) (List.length_pos_iff.2 hne)
      exact ⟨_, he⟩
    go_enter Tryd.func13, Tryd.ntmps13
    go_wp2_with (first | (rw [hw2.out]) | (first | (go_at_call 37; refine (of_any _ y s _ (by first | assumption | exact RollAt.drewN (by assumption) _) (by assumption)).mono ?_; rintro e w' ⟨rfl, rfl⟩) | (go_at_call 38; refine (fresh_any _ y s _ (by first | assumption | exact RollAt.drewN (by assumption) _) (by assumption)).mono ?_; rintro e w' ⟨rfl, rfl⟩; rw [hf.out]) | (go_at_call 122; refine (rules_any _ y s _ (by first | assumption | exact RollAt.drewN (by assumption) _) (by assumption)).mono ?_; rintro e w' ⟨rfl, rfl⟩; rw [hr.out]) | fail))
    go_quiet (first | (go_at_call 37; exact Calls.quietE (of_any _ y s _ (RollAt.drewN (by assumption) _) (by assumption))) | fail)
    have hb3 : Below w.heap.size w (w2.drewN nq) := belowN hb _
    have hR3 := hR2.drewN nq
    go_wp2_with fail
    obtain ⟨w3, hw3, hRq⟩ := nameW (p := fun W => RollAt W y s) hR3
    rw [hw3.out] at hb3
    rw [hw3.out]
    have j0 : w3.cell? ⟨w.heap.size + 1, 0, none⟩ = some (.int .i64 i.b) := by rw [← hw3.out]; exact i0
    have j1 : w3.cell? ⟨w.heap.size + 1, 1, none⟩ = some (.int .i64 i.s) := by rw [← hw3.out]; exact i1
    have j2 : w3.cell? ⟨w.heap.size + 1, 2, none⟩ = some (.int .u64 i.u) := by rw [← hw3.out]; exact i2
    have j3 : w3.cell? ⟨w.heap.size, 19, none⟩ = some (.slice (some ga) o.gs.length gc) := by rw [← hw3.out]; exact kg
    have j4 : w3.cell? ⟨w.heap.size, 20, none⟩ = some (.int .i64 o.n) := by rw [← hw3.out]; exact kn
    have j5 : w3.cell? ⟨w.heap.size, 21, none⟩ = some (.int .i64 o.t) := by rw [← hw3.out]; exact kt
    have j6 : w3.cell? ⟨x.a, 1, none⟩ = some (gptr x.m.g x.g) := by rw [← hw3.out]; exact x1
    have j7 : w3.frozen? ⟨x.a, 1, none⟩ = false := by rw [← hw3.out]; exact xf
    clear i0 i1 i2 kg kn kt x1 xf kk kb kd ko km kr kf1 kf2 kf3 c1 c2 c3 hO hl hl2
    have hU3 : UI w3 (some ga) o.gs.length o.gs := by rw [← hw3.out]; exact hU2.drewN _
    have hmk : ∀ u : World, (Instr.makeMap 88 none).run Tryd.prog u = .ok (.map (some u.heap.size)) (u.alloc (.map #[] 0)) := fun u => by kernel_rfl
    have hbA : Below w3.heap.size w3 w3.drew := (Below.refl _ _).drew
    have hbB : Below w3.heap.size w3 (w3.drew.alloc (.map #[] 0)) := hbA.alloc (Nat.le_refl _) _
    obtain ⟨D, hDD⟩ : ∃ D : World → Prop, ∀ W, D W ↔ (W.cell? ⟨w.heap.size, 19, none⟩ = some (.slice (some ga) o.gs.length gc) ∧ W.cell? ⟨w.heap.size, 20, none⟩ = some (.int .i64 o.n) ∧ W.cell? ⟨w.heap.size, 21, none⟩ = some (.int .i64 o.t) ∧ W.cell? ⟨w.heap.size + 1, 0, none⟩ = some (.int .i64 i.b) ∧ W.cell? ⟨w.heap.size + 1, 1, none⟩ = some (.int .i64 i.s) ∧ W.cell? ⟨w.heap.size + 1, 2, none⟩ = some (.int .u64 i.u)) := ⟨_, fun _ => Iff.rfl⟩
    have hD0 : D w3.drew := (hDD _).2 ⟨j3, j4, j5, j0, j1, j2⟩
    have hDb : ∀ W, Below w3.heap.size w3 W → D W := fun W hb => (hDD _).2 ⟨(hb.cell (cell_lt j3)).trans j3, (hb.cell (cell_lt j4)).trans j4, (hb.cell (cell_lt j5)).trans j5, (hb.cell (cell_lt j0)).trans j0, (hb.cell (cell_lt j1)).trans j1, (hb.cell (cell_lt j2)).trans j2⟩
    have hst : ∀ (W : World) (v : Value), (W.cell? ⟨w.heap.size, 19, none⟩ = some (.slice (some ga) o.gs.length gc) ∧ W.cell? ⟨w.heap.size, 20, none⟩ = some (.int .i64 o.n) ∧ W.cell? ⟨w.heap.size, 21, none⟩ = some (.int .i64 o.t) ∧ W.cell? ⟨w.heap.size + 1, 0, none⟩ = some (.int .i64 i.b) ∧ W.cell? ⟨w.heap.size + 1, 1, none⟩ = some (.int .i64 i.s) ∧ W.cell? ⟨w.heap.size + 1, 2, none⟩ = some (.int .u64 i.u)) → ((W.setCell ⟨x.a, 1, none⟩ v).cell? ⟨w.heap.size, 19, none⟩ = some (.slice (some ga) o.gs.length gc) ∧ (W.setCell ⟨x.a, 1, none⟩ v).cell? ⟨w.heap.size, 20, none⟩ = some (.int .i64 o.n) ∧ (W.setCell ⟨x.a, 1, none⟩ v).cell? ⟨w.heap.size, 21, none⟩ = some (.int .i64 o.t) ∧ (W.setCell ⟨x.a, 1, none⟩ v).cell? ⟨w.heap.size + 1, 0, none⟩ = some (.int .i64 i.b) ∧ (W.setCell ⟨x.a, 1, none⟩ v).cell? ⟨w.heap.size + 1, 1, none⟩ = some (.int .i64 i.s) ∧ (W.setCell ⟨x.a, 1, none⟩ v).cell? ⟨w.heap.size + 1, 2, none⟩ = some (.int .u64 i.u)) := by
      intro W v ⟨t1, t2, t3, t4, t5, t6⟩
      have hxa : x.a < w.heap.size := hR.lt _ (by unfold Lay.foot; simp only [List.mem_cons, List.mem_flatMap]; exact .inr (.inr (.inr (.inr (.inr ⟨x, hx, List.mem_cons_self ..⟩)))))
      have k1 : ∀ j, (W.setCell ⟨x.a, 1, none⟩ v).cell? ⟨w.heap.size, j, none⟩ = W.cell? ⟨w.heap.size, j, none⟩ := fun j => World.cell?_setCell_far W _ _ v (by show x.a ≠ w.heap.size; omega)
      have k2 : ∀ j, (W.setCell ⟨x.a, 1, none⟩ v).cell? ⟨w.heap.size + 1, j, none⟩ = W.cell? ⟨w.heap.size + 1, j, none⟩ := fun j => World.cell?_setCell_far W _ _ v (by show x.a ≠ w.heap.size + 1; omega)
      exact ⟨(k1 _).trans t1, (k1 _).trans t2, (k1 _).trans t3, (k2 _).trans t4, (k2 _).trans t5, (k2 _).trans t6⟩
    replace hst := Lib.hid hst
    replace hDb := Lib.hid hDb
    refine wp_region_D (D := D) (by kernel_rfl) ?_
    change wpAnyD _ _ _ _ _ 15 _ _ _
    refine wpAnyD_take (i := 0) (v := .pointer (some ⟨x.a, 0, none⟩)) hD0 rfl (by kernel_rfl) (by kernel_rfl) (by kernel_rfl) (fun _ _ _ h => h) rfl (fun W hW => by obtain ⟨t1, t2, t3, t4, t5, t6⟩ := (hDD W).1 hW; go_simp) ?_
    simp only [Act.put, List.setIfInBounds_toArray]
    refine wpAnyD_take (i := 1) (v := .agg #[.int .i64 i.b, .int .i64 i.s, .int .u64 i.u]) hD0 rfl (by kernel_rfl) (by kernel_rfl) (by kernel_rfl) (fun _ _ _ h => h) rfl (fun W hW => by obtain ⟨t1, t2, t3, t4, t5, t6⟩ := (hDD W).1 hW; go_simp) ?_
    simp only [Act.put]
    refine wpAnyD_take (i := 2) (v := .pointer (some ⟨w.heap.size, 19, none⟩)) hD0 rfl (by kernel_rfl) (by kernel_rfl) (by kernel_rfl) (fun _ _ _ h => h) rfl (fun W hW => by obtain ⟨t1, t2, t3, t4, t5, t6⟩ := (hDD W).1 hW; go_simp) ?_
    simp only [Act.put]
    refine wpAnyD_take (i := 3) (v := .slice (some ga) o.gs.length gc) hD0 rfl (by kernel_rfl) (by kernel_rfl) (by kernel_rfl) (fun _ _ _ h => h) rfl (fun W hW => by obtain ⟨t1, t2, t3, t4, t5, t6⟩ := (hDD W).1 hW; go_simp) ?_
    simp only [Act.put]
    refine wpAnyD_take (i := 5) (v := .pointer (some ⟨w.heap.size, 20, none⟩)) hD0 rfl (by kernel_rfl) (by kernel_rfl) (by kernel_rfl) (fun _ _ _ h => h) rfl (fun W hW => by obtain ⟨t1, t2, t3, t4, t5, t6⟩ := (hDD W).1 hW; go_simp) ?_
    simp only [Act.put]
    refine wpAnyD_take (i := 6) (v := .int .i64 o.n) hD0 rfl (by kernel_rfl) (by kernel_rfl) (by kernel_rfl) (fun _ _ _ h => h) rfl (fun W hW => by obtain ⟨t1, t2, t3, t4, t5, t6⟩ := (hDD W).1 hW; go_simp) ?_
    simp only [Act.put]
    refine wpAnyD_take (i := 7) (v := .pointer (some ⟨w.heap.size, 21, none⟩)) hD0 rfl (by kernel_rfl) (by kernel_rfl) (by kernel_rfl) (fun _ _ _ h => h) rfl (fun W hW => by obtain ⟨t1, t2, t3, t4, t5, t6⟩ := (hDD W).1 hW; go_simp) ?_
    simp only [Act.put]
    refine wpAnyD_take (i := 8) (v := .int .i64 o.t) hD0 rfl (by kernel_rfl) (by kernel_rfl) (by kernel_rfl) (fun _ _ _ h => h) rfl (fun W hW => by obtain ⟨t1, t2, t3, t4, t5, t6⟩ := (hDD W).1 hW; go_simp) ?_
    simp only [Act.put]
    refine wpAnyD_two (i := 4) (j := 9) (by kernel_rfl) rfl rfl rfl rfl (fun K hK => ?_) (fun K hK => ?_)
    · go_simp
      refine (Clone_pos ga _ o.gs gc _ (hU3.below hbA) hl0 hgp).mono ?_
      rintro e' w9 ⟨gb, gcc, rfl, hgb1, hgb2, hgb3, hU9, hb9⟩
      have hB9 : Below w3.heap.size w3 w9 := hbA.trans (hb9.mono hbA.size)
      refine hK _ _ ⟨hDb.out _ hB9, ?_⟩
      clear hK K
      try simp only [Act.put, List.setIfInBounds_toArray, List.set_cons_succ, List.set_cons_zero]
      refine wpAnyD_one (i := 9) (by kernel_rfl) rfl rfl (fun K hK => ?_)
      go_simp
      refine hK _ _ ⟨hDb.out _ (hB9.alloc hB9.size _), ?_⟩
      clear hK K
      try simp only [Act.put, List.setIfInBounds_toArray, List.set_cons_succ, List.set_cons_zero]
      refine wpAnyD_one (i := 10) (by kernel_rfl) rfl rfl (fun K hK => ?_)
      go_simp
      refine hK _ _ ⟨hDb.out _ (hB9.alloc hB9.size _), ?_⟩
      clear hK K
      try simp only [Act.put, List.setIfInBounds_toArray, List.set_cons_succ, List.set_cons_zero]
      have hBm : Below w3.heap.size w3 (w9.alloc (.map #[] 0)) := hB9.alloc hB9.size _
      have hBW : Below w3.heap.size w3 ((w9.alloc (.map #[] 0)).alloc (.cells #[.int .i64 i.b, .int .i64 i.s, .int .u64 i.u, .slice (some ⟨gb, 0, none⟩) o.gs.length gcc, .int .i64 o.n, .int .i64 o.t, .map (some w9.heap.size), .bool false, .int .i64 0] 90)) := hBm.alloc hBm.size _
      have c6 := (hBW.cell (cell_lt j6)).trans j6
      have c7 := (hBW.frozen (cell_lt j6)).trans j7
      have hb1m : Below w9.heap.size w9 (w9.alloc (.map #[] 0)) := Below.lit w9 _
      have hb1W : Below w9.heap.size w9 ((w9.alloc (.map #[] 0)).alloc (.cells #[.int .i64 i.b, .int .i64 i.s, .int .u64 i.u, .slice (some ⟨gb, 0, none⟩) o.gs.length gcc, .int .i64 o.n, .int .i64 o.t, .map (some w9.heap.size), .bool false, .int .i64 0] 90)) := hb1m.alloc hb1m.size _
      have hsz : (w9.alloc (.map #[] 0)).heap.size = w9.heap.size + 1 := by simp
      have hFin := hRq.guarded (G := ⟨i, o.gs, o.n, o.t, [], false, 0⟩) (gk := w9.heap.size + 1) (mb := w9.heap.size) (gb := gb) (gcc := gcc) hx hBW (by have := World.alloc_heap_new (w9.alloc (.map #[] 0)) (.cells #[.int .i64 i.b, .int .i64 i.s, .int .u64 i.u, .slice (some ⟨gb, 0, none⟩) o.gs.length gcc, .int .i64 o.n, .int .i64 o.t, .map (some w9.heap.size), .bool false, .int .i64 0] 90); rw [hsz] at this; exact this) (hU9.below hb1W) hgb3 ⟨Nat.le_trans hbA.size hgb1, Nat.lt_of_lt_of_le hgb2 hb1W.size⟩ (hB9.size) (Nat.le_succ_of_le hB9.size) ((MapV.made (K := KV) w9).below (Below.lit _ _)) ⟨by omega, by omega, by omega⟩
      refine wpAnyD_one (i := 11) (by kernel_rfl) rfl rfl (fun K hK => ?_)
      go_simp
      refine hK _ _ ⟨hDb.out _ hBW, ?_⟩
      clear hK K
      try simp only [Act.put, List.setIfInBounds_toArray, List.set_cons_succ, List.set_cons_zero]
      refine wpAnyD_one (i := 12) (by kernel_rfl) rfl rfl (fun K hK => ?_)
      go_simp
      refine hK _ _ ⟨hDb.out _ hBW, ?_⟩
      clear hK K
      try simp only [Act.put, List.setIfInBounds_toArray, List.set_cons_succ, List.set_cons_zero]
      refine wpAnyD_one (i := 13) (by kernel_rfl) rfl rfl (fun K hK => ?_)
      go_simp
      refine hK _ _ ⟨hDb.out _ hBW, ?_⟩
      clear hK K
      try simp only [Act.put, List.setIfInBounds_toArray, List.set_cons_succ, List.set_cons_zero]
      refine wpAnyD_one (i := 14) (by kernel_rfl) rfl rfl (fun K hK => ?_)
      go_simp
      refine hK _ _ ⟨(hDD _).2 (hst.out _ _ ((hDD _).1 (hDb.out _ hBW))), ?_⟩
      clear hK K
      try simp only [Act.put, List.setIfInBounds_toArray, List.set_cons_succ, List.set_cons_zero]
      refine wpAnyD_done (by kernel_rfl) ?_ _
      go_wp2_with fail
      go_returns
      rw [e.out]
      exact ⟨rfl, GoesTo.after hFin hb3⟩
    · go_simp
      refine hK _ _ ⟨hDb.out _ hbB, ?_⟩
      clear hK K
      try simp only [Act.put, List.setIfInBounds_toArray, List.set_cons_succ, List.set_cons_zero]
      refine wpAnyD_one (i := 4) (by kernel_rfl) rfl rfl (fun K hK => ?_)
      go_simp
      refine (Clone_pos ga _ o.gs gc _ (hU3.below hbB) hl0 hgp).mono ?_
      rintro e' w9 ⟨gb, gcc, rfl, hgb1, hgb2, hgb3, hU9, hb9⟩
      have hB9 : Below w3.heap.size w3 w9 := hbB.trans (hb9.mono hbB.size)
      have hz9 : (w3.drew.alloc (.map #[] 0)).heap.size = w3.heap.size + 1 := by simp
      have hgb4 : w3.heap.size + 1 ≤ gb := by omega
      have hgb5 : w3.heap.size + 1 ≤ w9.heap.size := by omega
      refine hK _ _ ⟨hDb.out _ hB9, ?_⟩
      clear hK K
      try simp only [Act.put, List.setIfInBounds_toArray, List.set_cons_succ, List.set_cons_zero]
      refine wpAnyD_one (i := 10) (by kernel_rfl) rfl rfl (fun K hK => ?_)
      go_simp
      refine hK _ _ ⟨hDb.out _ hB9, ?_⟩
      clear hK K
      try simp only [Act.put, List.setIfInBounds_toArray, List.set_cons_succ, List.set_cons_zero]
      have hBW : Below w3.heap.size w3 (w9.alloc (.cells #[.int .i64 i.b, .int .i64 i.s, .int .u64 i.u, .slice (some ⟨gb, 0, none⟩) o.gs.length gcc, .int .i64 o.n, .int .i64 o.t, .map (some w3.heap.size), .bool false, .int .i64 0] 90)) := hB9.alloc hB9.size _
      have c6 := (hBW.cell (cell_lt j6)).trans j6
      have c7 := (hBW.frozen (cell_lt j6)).trans j7
      have hb1W : Below w9.heap.size w9 (w9.alloc (.cells #[.int .i64 i.b, .int .i64 i.s, .int .u64 i.u, .slice (some ⟨gb, 0, none⟩) o.gs.length gcc, .int .i64 o.n, .int .i64 o.t, .map (some w3.heap.size), .bool false, .int .i64 0] 90)) := Below.lit w9 _
      have hFin := hRq.guarded (G := ⟨i, o.gs, o.n, o.t, [], false, 0⟩) (gk := w9.heap.size) (mb := w3.heap.size) (gb := gb) (gcc := gcc) hx hBW (World.alloc_heap_new w9 _) (hU9.below hb1W) hgb3 ⟨by omega, Nat.lt_of_lt_of_le hgb2 hb1W.size⟩ (Nat.le_refl _) (hB9.size) (((MapV.made (K := KV) w3.drew).below hb9).below hb1W) ⟨by omega, by omega, by omega⟩
      refine wpAnyD_one (i := 11) (by kernel_rfl) rfl rfl (fun K hK => ?_)
      go_simp
      refine hK _ _ ⟨hDb.out _ hBW, ?_⟩
      clear hK K
      try simp only [Act.put, List.setIfInBounds_toArray, List.set_cons_succ, List.set_cons_zero]
      refine wpAnyD_one (i := 12) (by kernel_rfl) rfl rfl (fun K hK => ?_)
      go_simp
      refine hK _ _ ⟨hDb.out _ hBW, ?_⟩
      clear hK K
      try simp only [Act.put, List.setIfInBounds_toArray, List.set_cons_succ, List.set_cons_zero]
      refine wpAnyD_one (i := 13) (by kernel_rfl) rfl rfl (fun K hK => ?_)
      go_simp
      refine hK _ _ ⟨hDb.out _ hBW, ?_⟩
      clear hK K
      try simp only [Act.put, List.setIfInBounds_toArray, List.set_cons_succ, List.set_cons_zero]
      refine wpAnyD_one (i := 14) (by kernel_rfl) rfl rfl (fun K hK => ?_)
      go_simp
      refine hK _ _ ⟨(hDD _).2 (hst.out _ _ ((hDD _).1 (hDb.out _ hBW))), ?_⟩
      clear hK K
      try simp only [Act.put, List.setIfInBounds_toArray, List.set_cons_succ, List.set_cons_zero]
      refine wpAnyD_done (by kernel_rfl) ?_ _
      go_wp2_with fail
      go_returns
      rw [e.out]
      exact ⟨rfl, GoesTo.after hFin hb3⟩
end Go.Proofs.YtkolilbebkkpdaaDoor
