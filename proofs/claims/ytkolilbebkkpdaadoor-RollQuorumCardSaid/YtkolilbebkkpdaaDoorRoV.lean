/-
  May.
-/
import Derived.Test.YtkolilbebkkpdaaDoorRoU
namespace Go.Proofs.YtkolilbebkkpdaaDoor
open Go.RowKit Go.Maps Go.BigFrame

/-- A world in which all that was there stands as it stood. -/
structure GrIn (w : World) where
  at_ : World
  gr : Below w.heap.size w at_
theorem GrIn.cells {w : World} {a : Addr} {v : Value} (h : w.cell? a = some v) (x : GrIn w) : x.at_.cell? a = some v := (x.gr.cell (cell_lt h)).trans h
instance (w : World) : Nonempty (GrIn w) := ⟨⟨w, Below.refl _ _⟩⟩
theorem in_gr {w : World} (x : GrIn w) : (∃ y : GrIn w, x.at_ = y.at_) = True := eq_true ⟨x, rfl⟩
attribute [local go_sem] in_gr
/-- A region of reads, and of calls that make memory, walked once in the text's order, cheaply. -/
theorem wp_region_gr {P : Program} {id : Nat} {Q : Exit → Act → World → Prop} {a : Act} {w : World} {l : List Oper} (hm : P.follows .mixedOrders = true) (hB : Region.lexB .any l.toArray = true)
    (h : wpQuiet P l.toArray (fun W => ∃ x : GrIn w, W = x.at_) (fun a' => ∀ w', (∃ x : GrIn w, w' = x.at_) → Q .normal a' w') l a) : (Code.region id l.toArray true).wp P Q a w :=
  wp_region_quiet (C := fun W => ∃ x : GrIn w, W = x.at_) hm hB ⟨⟨_, (Below.refl _ w).drew⟩, rfl⟩ (by simpa using h)
theorem GrIn.on {w w' : World} (x : GrIn w) (h : Below x.at_.heap.size x.at_ w') : ∃ z : GrIn w, w' = z.at_ := ⟨⟨w', x.gr.trans (h.mono x.gr.size)⟩, rfl⟩
theorem quiet_whole {C : World → Prop} {a : Act} {p : Oper} {K : Act → Prop} {b : Nat} {o : OpI} {gp : Option Addr} {gc : Nat} (x : Operand) (h : p.op = .load 42 x) (hx : a.eval x = .pointer (some ⟨b, 0, none⟩)) (hO : ∀ w, C w → OpAt w b o gp gc) (hk : K (a.put p.dst (.agg (opC o gp gc)))) : p.quiet Tryd.prog a C K :=
  ⟨_, fun w hc => by
    unfold Oper.quietAt execOp
    simp only [h, hx, Instr.loadAt, Instr.sureAddr, Sem.run_bind, Sem.run_pure, Result.andThen_ok, (hO w hc).call]
    exact ⟨rfl, rfl⟩, hk⟩
theorem fn_nil (w : World) : (binOp .eql 96 .nilFunc .nilFunc).run Tryd.prog w = .ok (.bool true) w := by kernel_rfl
theorem fn_not (f : Nat) (w : World) : (binOp .eql 96 (.func (.func f) #[] #[]) .nilFunc).run Tryd.prog w = .ok (.bool false) w := by kernel_rfl
/-- What asks holds. -/
structure Asks (w : World) : Prop where
  a0 : w.cell? ⟨0, 0, none⟩ = some .nilFunc
  a1 : w.cell? ⟨0, 1, none⟩ = some .nilFunc
  a2 : w.cell? ⟨0, 2, none⟩ = some (.func (.func 121) #[] #[])
  a3 : w.cell? ⟨0, 3, none⟩ = some (.func (.func 123) #[] #[])
  a4 : w.cell? ⟨0, 4, none⟩ = some .nilFunc
  a5 : w.cell? ⟨0, 5, none⟩ = some (.func (.func 124) #[] #[])
  a6 : w.cell? ⟨0, 6, none⟩ = some (.func (.func 125) #[] #[])
  a7 : w.cell? ⟨0, 7, none⟩ = some .nilFunc
  a8 : w.cell? ⟨0, 8, none⟩ = some (.func (.func 126) #[] #[])
  a9 : w.cell? ⟨0, 9, none⟩ = some (.func (.func 127) #[] #[])
  a10 : w.cell? ⟨0, 10, none⟩ = some (.func (.func 130) #[] #[])
  a11 : w.cell? ⟨0, 11, none⟩ = some (.func (.func 131) #[] #[])
  a12 : w.cell? ⟨0, 12, none⟩ = some (.func (.func 130) #[] #[])
  a13 : w.cell? ⟨0, 13, none⟩ = some (.func (.func 132) #[] #[])
theorem Asks.block {w w' : World} (h : Asks w) (hb : w'.heap[0]? = w.heap[0]?) : Asks w' := by
  have e : ∀ i, w'.cell? ⟨0, i, none⟩ = w.cell? ⟨0, i, none⟩ := fun i => by unfold World.cell?; rw [hb]
  exact ⟨(e _).trans h.a0, (e _).trans h.a1, (e _).trans h.a2, (e _).trans h.a3, (e _).trans h.a4, (e _).trans h.a5, (e _).trans h.a6, (e _).trans h.a7, (e _).trans h.a8, (e _).trans h.a9, (e _).trans h.a10, (e _).trans h.a11, (e _).trans h.a12, (e _).trans h.a13⟩
theorem Asks.below {w w' : World} (h : Asks w) (hb : Below w.heap.size w w') : Asks w' := h.block (hb.block 0 (cell_lt h.a0))
theorem Asks.turn {w w' : World} {F F' : List Nat} (h : Asks w) (ht : Turn w w' F F') (h0 : 0 ∉ F) : Asks w' := h.block (ht.blk 0 (cell_lt h.a0) h0)
set_option maxRecDepth 100000 in
set_option maxHeartbeats 4000000 in
theorem May_create (w : World) (y : Lay) (s : RS) (o : OpI) (gp : Option Addr) (gc : Nat) (i : Idn) (k : Nat) (_hk : k ≤ 1000) (hA : Asks w) (hR : RollAt w y s) (_hs : s.Ok k) (ho : o.Ok) (hU : UI w gp o.gs.length o.gs) (h1 : o.k = 1) :
    Calls Tryd.prog 16 #[.pointer (some ⟨y.r, 0, none⟩), .agg (opC o gp gc), .agg #[.int .i64 i.b, .int .i64 i.s, .int .u64 i.u]] w fun e w' => e = .returned (.int .i64 (s.may o)) ∧ Below w.heap.size w w' := by
  have hb1 := Below.lit w (.cells (opC o gp gc) 42)
  have hb2 := Below.lit (w.alloc (.cells (opC o gp gc) 42)) (.cells #[.int .i64 i.b, .int .i64 i.s, .int .u64 i.u] 34)
  have hO1 := OpAt.made w o gp gc
  have hO := hO1.below hb2 (by simp)
  obtain ⟨w2, hw2⟩ : ∃ w2, Hid ((w.alloc (.cells (opC o gp gc) 42)).alloc (.cells #[.int .i64 i.b, .int .i64 i.s, .int .u64 i.u] 34) = w2) := ⟨_, Lib.hid rfl⟩
  have hb : Below w.heap.size w w2 := by rw [← hw2.out]; exact hb1.trans (hb2.mono hb1.size)
  rw [hw2.out] at hO
  have hR2 := hR.below hb
  have hA2 := hA.below hb
  have hU2 := hU.below hb
  have hbo := i64_small ho.hb
  have kk := hO.ck
  have kb := hO.cb
  have c1 := hR2.c1
  have c2 := hR2.c2
  have hzw : w.heap.size < w2.heap.size := cell_lt kk
  clear hb1 hb2 hO1
  obtain ⟨q, hq⟩ : ∃ q, Hid (s.may o = q) := ⟨_, Lib.hid rfl⟩
  rw [hq.out]
  rw [h1] at kk
  have hlen := hR2.was.len (K := KI) Tryd.underlying78 3
  rw [show (setV (s.ins ++ s.gone)).length = (s.ins ++ s.gone).length by unfold setV; rw [List.length_map]] at hlen
  clear hU2 hA2
  by_cases hz : ofD o.b = 0
  · have t : (ofD o.b == 0) = true := beq_iff_eq.2 hz
    have e : Hid (q = 17) := Lib.hid (by rw [← hq.out]; unfold RS.may; rw [if_pos h1]; exact if_pos hz)
    replace hz := Lib.hid hz
    replace h1 := Lib.hid h1
    go_enter Tryd.func16, Tryd.ntmps16
    go_wp2_with (first | (rw [hw2.out]) | (first | (go_at_call 37; refine (of_any _ y s _ (by first | assumption | exact RollAt.drewN (by assumption) _) (by assumption)).mono ?_; rintro e w' ⟨rfl, rfl⟩) | (go_at_call 38; refine (fresh_any _ y s _ (by first | assumption | exact RollAt.drewN (by assumption) _) (by assumption)).mono ?_; rintro e w' ⟨rfl, rfl⟩; rw [hf.out]) | (go_at_call 122; refine (rules_any _ y s _ (by first | assumption | exact RollAt.drewN (by assumption) _) (by assumption)).mono ?_; rintro e w' ⟨rfl, rfl⟩; rw [hr.out]) | fail))
    go_ret
    exact ⟨ret_int e.out.symm, hb⟩
  · have t : (ofD o.b == 0) = false := beq_eq_false_iff_ne.2 hz
    by_cases hw : s.ins ++ s.gone = []
    · rw [hw] at hlen
      replace hlen : (Builtin.len_ #[78] 3 #[.map (some y.w)]).run Tryd.prog w2 = .ok (.int .i64 0) w2 := hlen
      have e : Hid (q = 0) := Lib.hid (by rw [← hq.out]; unfold RS.may; rw [if_pos h1]; rw [if_neg hz, if_neg (by simpa using hw)])
      replace hw := Lib.hid hw
      replace h1 := Lib.hid h1
      clear hz
      go_enter Tryd.func16, Tryd.ntmps16
      go_wp2_with (first | (rw [hw2.out]) | (first | (go_at_call 37; refine (of_any _ y s _ (by first | assumption | exact RollAt.drewN (by assumption) _) (by assumption)).mono ?_; rintro e w' ⟨rfl, rfl⟩) | (go_at_call 38; refine (fresh_any _ y s _ (by first | assumption | exact RollAt.drewN (by assumption) _) (by assumption)).mono ?_; rintro e w' ⟨rfl, rfl⟩; rw [hf.out]) | (go_at_call 122; refine (rules_any _ y s _ (by first | assumption | exact RollAt.drewN (by assumption) _) (by assumption)).mono ?_; rintro e w' ⟨rfl, rfl⟩; rw [hr.out]) | fail))
      go_ret
      exact ⟨ret_int e.out.symm, hb⟩
    · have hl : 0 < (s.ins ++ s.gone).length := List.length_pos_iff.2 hw
      obtain ⟨n, hn⟩ : ∃ n, Hid ((s.ins ++ s.gone).length = n) := ⟨_, Lib.hid rfl⟩
      rw [hn.out] at hlen hl
      have hl2 : (0 : Int) < (n : Int) := by omega
      have e : Hid (q = 5) := Lib.hid (by rw [← hq.out]; unfold RS.may; rw [if_pos h1]; rw [if_neg hz, if_pos hw])
      replace hw := Lib.hid hw
      replace h1 := Lib.hid h1
      clear hz
      go_enter Tryd.func16, Tryd.ntmps16
      go_wp2_with (first | (rw [hw2.out]) | (first | (go_at_call 37; refine (of_any _ y s _ (by first | assumption | exact RollAt.drewN (by assumption) _) (by assumption)).mono ?_; rintro e w' ⟨rfl, rfl⟩) | (go_at_call 38; refine (fresh_any _ y s _ (by first | assumption | exact RollAt.drewN (by assumption) _) (by assumption)).mono ?_; rintro e w' ⟨rfl, rfl⟩; rw [hf.out]) | (go_at_call 122; refine (rules_any _ y s _ (by first | assumption | exact RollAt.drewN (by assumption) _) (by assumption)).mono ?_; rintro e w' ⟨rfl, rfl⟩; rw [hr.out]) | fail))
      go_ret
      exact ⟨ret_int e.out.symm, hb⟩
set_option maxRecDepth 100000 in
set_option maxHeartbeats 4000000 in
theorem May_gone (w : World) (y : Lay) (s : RS) (o : OpI) (gp : Option Addr) (gc : Nat) (i : Idn) (k : Nat) (_hk : k ≤ 1000) (hA : Asks w) (hR : RollAt w y s) (_hs : s.Ok k) (ho : o.Ok) (hU : UI w gp o.gs.length o.gs) (h1 : o.k ≠ 1) (hi : s.inB o.b = false) :
    Calls Tryd.prog 16 #[.pointer (some ⟨y.r, 0, none⟩), .agg (opC o gp gc), .agg #[.int .i64 i.b, .int .i64 i.s, .int .u64 i.u]] w fun e w' => e = .returned (.int .i64 (s.may o)) ∧ Below w.heap.size w w' := by
  have hb1 := Below.lit w (.cells (opC o gp gc) 42)
  have hb2 := Below.lit (w.alloc (.cells (opC o gp gc) 42)) (.cells #[.int .i64 i.b, .int .i64 i.s, .int .u64 i.u] 34)
  have hO1 := OpAt.made w o gp gc
  have hO := hO1.below hb2 (by simp)
  obtain ⟨w2, hw2⟩ : ∃ w2, Hid ((w.alloc (.cells (opC o gp gc) 42)).alloc (.cells #[.int .i64 i.b, .int .i64 i.s, .int .u64 i.u] 34) = w2) := ⟨_, Lib.hid rfl⟩
  have hb : Below w.heap.size w w2 := by rw [← hw2.out]; exact hb1.trans (hb2.mono hb1.size)
  rw [hw2.out] at hO
  have hR2 := hR.below hb
  have hA2 := hA.below hb
  have hU2 := hU.below hb
  have hbo := i64_small ho.hb
  have kk := hO.ck
  have kb := hO.cb
  have c1 := hR2.c1
  have c2 := hR2.c2
  have hzw : w.heap.size < w2.heap.size := cell_lt kk
  clear hb1 hb2 hO1
  obtain ⟨q, hq⟩ : ∃ q, Hid (s.may o = q) := ⟨_, Lib.hid rfl⟩
  rw [hq.out]
  have t : (o.k == 1) = false := beq_eq_false_iff_ne.2 h1
  obtain ⟨hl, hl2⟩ := hR2.innN hbo hi
  clear hU2 hA2
  have e : Hid (q = 15) := Lib.hid (by rw [← hq.out]; unfold RS.may; rw [if_neg h1, if_pos hi])
  clear h1
  replace hi := Lib.hid hi
  go_enter Tryd.func16, Tryd.ntmps16
  go_wp2_with (first | (rw [hw2.out]) | (first | (go_at_call 37; refine (of_any _ y s _ (by first | assumption | exact RollAt.drewN (by assumption) _) (by assumption)).mono ?_; rintro e w' ⟨rfl, rfl⟩) | (go_at_call 38; refine (fresh_any _ y s _ (by first | assumption | exact RollAt.drewN (by assumption) _) (by assumption)).mono ?_; rintro e w' ⟨rfl, rfl⟩; rw [hf.out]) | (go_at_call 122; refine (rules_any _ y s _ (by first | assumption | exact RollAt.drewN (by assumption) _) (by assumption)).mono ?_; rintro e w' ⟨rfl, rfl⟩; rw [hr.out]) | fail))
  go_quiet (first | (go_at_call 37; exact Calls.quietE (of_any _ y s _ (RollAt.drewN (by assumption) _) (by assumption))) | fail)
  go_wp2_with (first | (go_at_call 37; refine (of_any _ y s _ (by first | assumption | exact RollAt.drewN (by assumption) _) (by assumption)).mono ?_; rintro e w' ⟨rfl, rfl⟩) | (go_at_call 38; refine (fresh_any _ y s _ (by first | assumption | exact RollAt.drewN (by assumption) _) (by assumption)).mono ?_; rintro e w' ⟨rfl, rfl⟩; rw [hf.out]) | (go_at_call 122; refine (rules_any _ y s _ (by first | assumption | exact RollAt.drewN (by assumption) _) (by assumption)).mono ?_; rintro e w' ⟨rfl, rfl⟩; rw [hr.out]) | fail)
  go_ret
  exact ⟨ret_int e.out.symm, belowN hb _⟩
set_option maxRecDepth 100000 in
set_option maxHeartbeats 4000000 in
theorem May_high (w : World) (y : Lay) (s : RS) (o : OpI) (gp : Option Addr) (gc : Nat) (i : Idn) (k : Nat) (_hk : k ≤ 1000) (hA : Asks w) (hR : RollAt w y s) (_hs : s.Ok k) (ho : o.Ok) (hU : UI w gp o.gs.length o.gs) (h1 : 14 ≤ o.k) (hi : s.inB o.b = true) :
    Calls Tryd.prog 16 #[.pointer (some ⟨y.r, 0, none⟩), .agg (opC o gp gc), .agg #[.int .i64 i.b, .int .i64 i.s, .int .u64 i.u]] w fun e w' => e = .returned (.int .i64 (s.may o)) ∧ Below w.heap.size w w' := by
  have hb1 := Below.lit w (.cells (opC o gp gc) 42)
  have hb2 := Below.lit (w.alloc (.cells (opC o gp gc) 42)) (.cells #[.int .i64 i.b, .int .i64 i.s, .int .u64 i.u] 34)
  have hO1 := OpAt.made w o gp gc
  have hO := hO1.below hb2 (by simp)
  obtain ⟨w2, hw2⟩ : ∃ w2, Hid ((w.alloc (.cells (opC o gp gc) 42)).alloc (.cells #[.int .i64 i.b, .int .i64 i.s, .int .u64 i.u] 34) = w2) := ⟨_, Lib.hid rfl⟩
  have hb : Below w.heap.size w w2 := by rw [← hw2.out]; exact hb1.trans (hb2.mono hb1.size)
  rw [hw2.out] at hO
  have hR2 := hR.below hb
  have hA2 := hA.below hb
  have hU2 := hU.below hb
  have hbo := i64_small ho.hb
  have kk := hO.ck
  have kb := hO.cb
  have c1 := hR2.c1
  have c2 := hR2.c2
  have hzw : w.heap.size < w2.heap.size := cell_lt kk
  clear hb1 hb2 hO1
  obtain ⟨q, hq⟩ : ∃ q, Hid (s.may o = q) := ⟨_, Lib.hid rfl⟩
  rw [hq.out]
  have t : (o.k == 1) = false := beq_eq_false_iff_ne.2 (by omega)
  obtain ⟨hl, hl2⟩ := hR2.innN hbo hi
  have hk1 := ho.hk.2
  clear hU2 hA2
  have e : Hid (q = 0) := Lib.hid (by rw [← hq.out]; unfold RS.may; rw [if_neg (by omega), if_neg (by rw [hi]; simp)]; unfold RS.ask; rw [if_neg (by omega), if_neg (by omega), if_neg (by omega), if_neg (by omega), if_neg (by omega), if_neg (by omega), if_neg (by omega), if_neg (by omega), if_neg (by omega), if_neg (by omega)])
  replace hi := Lib.hid hi
  go_enter Tryd.func16, Tryd.ntmps16
  go_wp2_with (first | (rw [hw2.out]) | (first | (go_at_call 37; refine (of_any _ y s _ (by first | assumption | exact RollAt.drewN (by assumption) _) (by assumption)).mono ?_; rintro e w' ⟨rfl, rfl⟩) | (go_at_call 38; refine (fresh_any _ y s _ (by first | assumption | exact RollAt.drewN (by assumption) _) (by assumption)).mono ?_; rintro e w' ⟨rfl, rfl⟩; rw [hf.out]) | (go_at_call 122; refine (rules_any _ y s _ (by first | assumption | exact RollAt.drewN (by assumption) _) (by assumption)).mono ?_; rintro e w' ⟨rfl, rfl⟩; rw [hr.out]) | fail))
  go_quiet (first | (go_at_call 37; exact Calls.quietE (of_any _ y s _ (RollAt.drewN (by assumption) _) (by assumption))) | fail)
  go_wp2_with (first | (go_at_call 37; refine (of_any _ y s _ (by first | assumption | exact RollAt.drewN (by assumption) _) (by assumption)).mono ?_; rintro e w' ⟨rfl, rfl⟩) | (go_at_call 38; refine (fresh_any _ y s _ (by first | assumption | exact RollAt.drewN (by assumption) _) (by assumption)).mono ?_; rintro e w' ⟨rfl, rfl⟩; rw [hf.out]) | (go_at_call 122; refine (rules_any _ y s _ (by first | assumption | exact RollAt.drewN (by assumption) _) (by assumption)).mono ?_; rintro e w' ⟨rfl, rfl⟩; rw [hr.out]) | fail)
  go_ret
  exact ⟨ret_int e.out.symm, belowN hb _⟩
set_option maxRecDepth 100000 in
set_option maxHeartbeats 4000000 in
theorem May_none0 (w : World) (y : Lay) (s : RS) (o : OpI) (gp : Option Addr) (gc : Nat) (i : Idn) (k : Nat) (_hk : k ≤ 1000) (hA : Asks w) (hR : RollAt w y s) (_hs : s.Ok k) (ho : o.Ok) (hU : UI w gp o.gs.length o.gs) (h1 : o.k = 0) (hi : s.inB o.b = true) :
    Calls Tryd.prog 16 #[.pointer (some ⟨y.r, 0, none⟩), .agg (opC o gp gc), .agg #[.int .i64 i.b, .int .i64 i.s, .int .u64 i.u]] w fun e w' => e = .returned (.int .i64 (s.may o)) ∧ Below w.heap.size w w' := by
  have hb1 := Below.lit w (.cells (opC o gp gc) 42)
  have hb2 := Below.lit (w.alloc (.cells (opC o gp gc) 42)) (.cells #[.int .i64 i.b, .int .i64 i.s, .int .u64 i.u] 34)
  have hO1 := OpAt.made w o gp gc
  have hO := hO1.below hb2 (by simp)
  obtain ⟨w2, hw2⟩ : ∃ w2, Hid ((w.alloc (.cells (opC o gp gc) 42)).alloc (.cells #[.int .i64 i.b, .int .i64 i.s, .int .u64 i.u] 34) = w2) := ⟨_, Lib.hid rfl⟩
  have hb : Below w.heap.size w w2 := by rw [← hw2.out]; exact hb1.trans (hb2.mono hb1.size)
  rw [hw2.out] at hO
  have hR2 := hR.below hb
  have hA2 := hA.below hb
  have hU2 := hU.below hb
  have hbo := i64_small ho.hb
  have kk := hO.ck
  have kb := hO.cb
  have c1 := hR2.c1
  have c2 := hR2.c2
  have hzw : w.heap.size < w2.heap.size := cell_lt kk
  clear hb1 hb2 hO1
  obtain ⟨q, hq⟩ : ∃ q, Hid (s.may o = q) := ⟨_, Lib.hid rfl⟩
  rw [hq.out]
  rw [h1] at kk
  obtain ⟨hl, hl2⟩ := hR2.innN hbo hi
  have ka := hA2.a0
  have hfn := fn_not
  have hfz := fn_nil
  clear hU2 hA2
  have e : Hid (q = 0) := Lib.hid (by rw [← hq.out]; unfold RS.may; rw [if_neg (by omega), if_neg (by rw [hi]; simp)]; unfold RS.ask; rw [if_neg (by omega), if_neg (by omega), if_neg (by omega), if_neg (by omega), if_neg (by omega), if_neg (by omega), if_neg (by omega), if_neg (by omega), if_neg (by omega), if_neg (by omega)])
  replace hi := Lib.hid hi
  replace h1 := Lib.hid h1
  go_enter Tryd.func16, Tryd.ntmps16
  go_wp2_with (first | (rw [hw2.out]) | (first | (go_at_call 37; refine (of_any _ y s _ (by first | assumption | exact RollAt.drewN (by assumption) _) (by assumption)).mono ?_; rintro e w' ⟨rfl, rfl⟩) | (go_at_call 38; refine (fresh_any _ y s _ (by first | assumption | exact RollAt.drewN (by assumption) _) (by assumption)).mono ?_; rintro e w' ⟨rfl, rfl⟩; rw [hf.out]) | (go_at_call 122; refine (rules_any _ y s _ (by first | assumption | exact RollAt.drewN (by assumption) _) (by assumption)).mono ?_; rintro e w' ⟨rfl, rfl⟩; rw [hr.out]) | fail))
  go_quiet (first | (go_at_call 37; exact Calls.quietE (of_any _ y s _ (RollAt.drewN (by assumption) _) (by assumption))) | fail)
  go_wp2_with (first | (go_at_call 37; refine (of_any _ y s _ (by first | assumption | exact RollAt.drewN (by assumption) _) (by assumption)).mono ?_; rintro e w' ⟨rfl, rfl⟩) | (go_at_call 38; refine (fresh_any _ y s _ (by first | assumption | exact RollAt.drewN (by assumption) _) (by assumption)).mono ?_; rintro e w' ⟨rfl, rfl⟩; rw [hf.out]) | (go_at_call 122; refine (rules_any _ y s _ (by first | assumption | exact RollAt.drewN (by assumption) _) (by assumption)).mono ?_; rintro e w' ⟨rfl, rfl⟩; rw [hr.out]) | fail)
  go_ret
  exact ⟨ret_int e.out.symm, belowN hb _⟩
set_option maxRecDepth 100000 in
set_option maxHeartbeats 4000000 in
theorem May_none4 (w : World) (y : Lay) (s : RS) (o : OpI) (gp : Option Addr) (gc : Nat) (i : Idn) (k : Nat) (_hk : k ≤ 1000) (hA : Asks w) (hR : RollAt w y s) (_hs : s.Ok k) (ho : o.Ok) (hU : UI w gp o.gs.length o.gs) (h1 : o.k = 4) (hi : s.inB o.b = true) :
    Calls Tryd.prog 16 #[.pointer (some ⟨y.r, 0, none⟩), .agg (opC o gp gc), .agg #[.int .i64 i.b, .int .i64 i.s, .int .u64 i.u]] w fun e w' => e = .returned (.int .i64 (s.may o)) ∧ Below w.heap.size w w' := by
  have hb1 := Below.lit w (.cells (opC o gp gc) 42)
  have hb2 := Below.lit (w.alloc (.cells (opC o gp gc) 42)) (.cells #[.int .i64 i.b, .int .i64 i.s, .int .u64 i.u] 34)
  have hO1 := OpAt.made w o gp gc
  have hO := hO1.below hb2 (by simp)
  obtain ⟨w2, hw2⟩ : ∃ w2, Hid ((w.alloc (.cells (opC o gp gc) 42)).alloc (.cells #[.int .i64 i.b, .int .i64 i.s, .int .u64 i.u] 34) = w2) := ⟨_, Lib.hid rfl⟩
  have hb : Below w.heap.size w w2 := by rw [← hw2.out]; exact hb1.trans (hb2.mono hb1.size)
  rw [hw2.out] at hO
  have hR2 := hR.below hb
  have hA2 := hA.below hb
  have hU2 := hU.below hb
  have hbo := i64_small ho.hb
  have kk := hO.ck
  have kb := hO.cb
  have c1 := hR2.c1
  have c2 := hR2.c2
  have hzw : w.heap.size < w2.heap.size := cell_lt kk
  clear hb1 hb2 hO1
  obtain ⟨q, hq⟩ : ∃ q, Hid (s.may o = q) := ⟨_, Lib.hid rfl⟩
  rw [hq.out]
  rw [h1] at kk
  obtain ⟨hl, hl2⟩ := hR2.innN hbo hi
  have ka := hA2.a4
  have hfn := fn_not
  have hfz := fn_nil
  clear hU2 hA2
  have e : Hid (q = 0) := Lib.hid (by rw [← hq.out]; unfold RS.may; rw [if_neg (by omega), if_neg (by rw [hi]; simp)]; unfold RS.ask; rw [if_neg (by omega), if_neg (by omega), if_neg (by omega), if_neg (by omega), if_neg (by omega), if_neg (by omega), if_neg (by omega), if_neg (by omega), if_neg (by omega), if_neg (by omega)])
  replace hi := Lib.hid hi
  replace h1 := Lib.hid h1
  go_enter Tryd.func16, Tryd.ntmps16
  go_wp2_with (first | (rw [hw2.out]) | (first | (go_at_call 37; refine (of_any _ y s _ (by first | assumption | exact RollAt.drewN (by assumption) _) (by assumption)).mono ?_; rintro e w' ⟨rfl, rfl⟩) | (go_at_call 38; refine (fresh_any _ y s _ (by first | assumption | exact RollAt.drewN (by assumption) _) (by assumption)).mono ?_; rintro e w' ⟨rfl, rfl⟩; rw [hf.out]) | (go_at_call 122; refine (rules_any _ y s _ (by first | assumption | exact RollAt.drewN (by assumption) _) (by assumption)).mono ?_; rintro e w' ⟨rfl, rfl⟩; rw [hr.out]) | fail))
  go_quiet (first | (go_at_call 37; exact Calls.quietE (of_any _ y s _ (RollAt.drewN (by assumption) _) (by assumption))) | fail)
  go_wp2_with (first | (go_at_call 37; refine (of_any _ y s _ (by first | assumption | exact RollAt.drewN (by assumption) _) (by assumption)).mono ?_; rintro e w' ⟨rfl, rfl⟩) | (go_at_call 38; refine (fresh_any _ y s _ (by first | assumption | exact RollAt.drewN (by assumption) _) (by assumption)).mono ?_; rintro e w' ⟨rfl, rfl⟩; rw [hf.out]) | (go_at_call 122; refine (rules_any _ y s _ (by first | assumption | exact RollAt.drewN (by assumption) _) (by assumption)).mono ?_; rintro e w' ⟨rfl, rfl⟩; rw [hr.out]) | fail)
  go_ret
  exact ⟨ret_int e.out.symm, belowN hb _⟩
set_option maxRecDepth 100000 in
set_option maxHeartbeats 4000000 in
theorem May_none7 (w : World) (y : Lay) (s : RS) (o : OpI) (gp : Option Addr) (gc : Nat) (i : Idn) (k : Nat) (_hk : k ≤ 1000) (hA : Asks w) (hR : RollAt w y s) (_hs : s.Ok k) (ho : o.Ok) (hU : UI w gp o.gs.length o.gs) (h1 : o.k = 7) (hi : s.inB o.b = true) :
    Calls Tryd.prog 16 #[.pointer (some ⟨y.r, 0, none⟩), .agg (opC o gp gc), .agg #[.int .i64 i.b, .int .i64 i.s, .int .u64 i.u]] w fun e w' => e = .returned (.int .i64 (s.may o)) ∧ Below w.heap.size w w' := by
  have hb1 := Below.lit w (.cells (opC o gp gc) 42)
  have hb2 := Below.lit (w.alloc (.cells (opC o gp gc) 42)) (.cells #[.int .i64 i.b, .int .i64 i.s, .int .u64 i.u] 34)
  have hO1 := OpAt.made w o gp gc
  have hO := hO1.below hb2 (by simp)
  obtain ⟨w2, hw2⟩ : ∃ w2, Hid ((w.alloc (.cells (opC o gp gc) 42)).alloc (.cells #[.int .i64 i.b, .int .i64 i.s, .int .u64 i.u] 34) = w2) := ⟨_, Lib.hid rfl⟩
  have hb : Below w.heap.size w w2 := by rw [← hw2.out]; exact hb1.trans (hb2.mono hb1.size)
  rw [hw2.out] at hO
  have hR2 := hR.below hb
  have hA2 := hA.below hb
  have hU2 := hU.below hb
  have hbo := i64_small ho.hb
  have kk := hO.ck
  have kb := hO.cb
  have c1 := hR2.c1
  have c2 := hR2.c2
  have hzw : w.heap.size < w2.heap.size := cell_lt kk
  clear hb1 hb2 hO1
  obtain ⟨q, hq⟩ : ∃ q, Hid (s.may o = q) := ⟨_, Lib.hid rfl⟩
  rw [hq.out]
  rw [h1] at kk
  obtain ⟨hl, hl2⟩ := hR2.innN hbo hi
  have ka := hA2.a7
  have hfn := fn_not
  have hfz := fn_nil
  clear hU2 hA2
  have e : Hid (q = 0) := Lib.hid (by rw [← hq.out]; unfold RS.may; rw [if_neg (by omega), if_neg (by rw [hi]; simp)]; unfold RS.ask; rw [if_neg (by omega), if_neg (by omega), if_neg (by omega), if_neg (by omega), if_neg (by omega), if_neg (by omega), if_neg (by omega), if_neg (by omega), if_neg (by omega), if_neg (by omega)])
  replace hi := Lib.hid hi
  replace h1 := Lib.hid h1
  go_enter Tryd.func16, Tryd.ntmps16
  go_wp2_with (first | (rw [hw2.out]) | (first | (go_at_call 37; refine (of_any _ y s _ (by first | assumption | exact RollAt.drewN (by assumption) _) (by assumption)).mono ?_; rintro e w' ⟨rfl, rfl⟩) | (go_at_call 38; refine (fresh_any _ y s _ (by first | assumption | exact RollAt.drewN (by assumption) _) (by assumption)).mono ?_; rintro e w' ⟨rfl, rfl⟩; rw [hf.out]) | (go_at_call 122; refine (rules_any _ y s _ (by first | assumption | exact RollAt.drewN (by assumption) _) (by assumption)).mono ?_; rintro e w' ⟨rfl, rfl⟩; rw [hr.out]) | fail))
  go_quiet (first | (go_at_call 37; exact Calls.quietE (of_any _ y s _ (RollAt.drewN (by assumption) _) (by assumption))) | fail)
  go_wp2_with (first | (go_at_call 37; refine (of_any _ y s _ (by first | assumption | exact RollAt.drewN (by assumption) _) (by assumption)).mono ?_; rintro e w' ⟨rfl, rfl⟩) | (go_at_call 38; refine (fresh_any _ y s _ (by first | assumption | exact RollAt.drewN (by assumption) _) (by assumption)).mono ?_; rintro e w' ⟨rfl, rfl⟩; rw [hf.out]) | (go_at_call 122; refine (rules_any _ y s _ (by first | assumption | exact RollAt.drewN (by assumption) _) (by assumption)).mono ?_; rintro e w' ⟨rfl, rfl⟩; rw [hr.out]) | fail)
  go_ret
  exact ⟨ret_int e.out.symm, belowN hb _⟩
set_option maxRecDepth 100000 in
set_option maxHeartbeats 4000000 in
theorem May_k2 (w : World) (y : Lay) (s : RS) (o : OpI) (gp : Option Addr) (gc : Nat) (i : Idn) (k : Nat) (_hk : k ≤ 1000) (hA : Asks w) (hR : RollAt w y s) (_hs : s.Ok k) (ho : o.Ok) (hU : UI w gp o.gs.length o.gs) (h1 : o.k = 2) (hi : s.inB o.b = true) :
    Calls Tryd.prog 16 #[.pointer (some ⟨y.r, 0, none⟩), .agg (opC o gp gc), .agg #[.int .i64 i.b, .int .i64 i.s, .int .u64 i.u]] w fun e w' => e = .returned (.int .i64 (s.may o)) ∧ Below w.heap.size w w' := by
  have hb1 := Below.lit w (.cells (opC o gp gc) 42)
  have hb2 := Below.lit (w.alloc (.cells (opC o gp gc) 42)) (.cells #[.int .i64 i.b, .int .i64 i.s, .int .u64 i.u] 34)
  have hO1 := OpAt.made w o gp gc
  have hO := hO1.below hb2 (by simp)
  obtain ⟨w2, hw2⟩ : ∃ w2, Hid ((w.alloc (.cells (opC o gp gc) 42)).alloc (.cells #[.int .i64 i.b, .int .i64 i.s, .int .u64 i.u] 34) = w2) := ⟨_, Lib.hid rfl⟩
  have hb : Below w.heap.size w w2 := by rw [← hw2.out]; exact hb1.trans (hb2.mono hb1.size)
  rw [hw2.out] at hO
  have hR2 := hR.below hb
  have hA2 := hA.below hb
  have hU2 := hU.below hb
  have hbo := i64_small ho.hb
  have kk := hO.ck
  have kb := hO.cb
  have c1 := hR2.c1
  have c2 := hR2.c2
  have hzw : w.heap.size < w2.heap.size := cell_lt kk
  clear hb1 hb2 hO1
  obtain ⟨q, hq⟩ : ∃ q, Hid (s.may o = q) := ⟨_, Lib.hid rfl⟩
  rw [hq.out]
  rw [h1] at kk
  obtain ⟨hl, hl2⟩ := hR2.innN hbo hi
  have ka := hA2.a2
  have hfn := fn_not
  have hfz := fn_nil
  have hmb := ofD_bd o.b
  have hmo : i64ok (ofD o.b) := by unfold i64ok; omega
  have e : Hid (q = s.askAdd o (ofD o.b)) := Lib.hid (by rw [← hq.out]; unfold RS.may; rw [if_neg (by omega), if_neg (by rw [hi]; simp)]; unfold RS.ask; rw [if_pos h1])
  replace hi := Lib.hid hi
  replace h1 := Lib.hid h1
  go_enter Tryd.func16, Tryd.ntmps16
  go_wp2_with (first | (rw [hw2.out]) | (first | (go_at_call 37; refine (of_any _ y s _ (by first | assumption | exact RollAt.drewN (by assumption) _) (by assumption)).mono ?_; rintro e w' ⟨rfl, rfl⟩) | (go_at_call 38; refine (fresh_any _ y s _ (by first | assumption | exact RollAt.drewN (by assumption) _) (by assumption)).mono ?_; rintro e w' ⟨rfl, rfl⟩; rw [hf.out]) | (go_at_call 122; refine (rules_any _ y s _ (by first | assumption | exact RollAt.drewN (by assumption) _) (by assumption)).mono ?_; rintro e w' ⟨rfl, rfl⟩; rw [hr.out]) | fail))
  go_quiet (first | (go_at_call 37; exact Calls.quietE (of_any _ y s _ (RollAt.drewN (by assumption) _) (by assumption))) | fail)
  go_wp2_with fail
  have hbn : Below w.heap.size w (w2.drewN nq) := belowN hb _
  have hRn := hR2.drewN nq
  have hUn := hU2.drewN nq
  have hRx : ∀ z : GrIn (w2.drewN nq), RollAt z.at_ y s := fun z => hRn.below z.gr
  have hUx : ∀ z : GrIn (w2.drewN nq), UI z.at_ gp o.gs.length o.gs := fun z => hUn.below z.gr
  have hOx : ∀ W, (∃ z : GrIn (w2.drewN nq), W = z.at_) → OpAt W w.heap.size o gp gc := fun W ⟨z, hz⟩ => by rw [hz]; exact (show OpAt (w2.drewN nq) w.heap.size o gp gc from hO).below z.gr hzw
  have kkx : ∀ z : GrIn (w2.drewN nq), z.at_.cell? ⟨w.heap.size, 2, none⟩ = some (.int .i64 2) := GrIn.cells kk
  have kbx : ∀ z : GrIn (w2.drewN nq), z.at_.cell? ⟨w.heap.size, 0, none⟩ = some (.int .i64 o.b) := GrIn.cells kb
  have kax : ∀ z : GrIn (w2.drewN nq), z.at_.cell? ⟨0, 2, none⟩ = some (.func (.func 121) #[] #[]) := GrIn.cells ka
  refine wp_region_gr (by kernel_rfl) (by kernel_rfl) ?_
  repeat (first
    | (go_big_quiet_want; refine quiet_whole _ rfl rfl hOx ?_; simp only [Act.put, List.setIfInBounds_toArray, List.set_cons_succ, List.set_cons_zero]; go_big_quiet_on)
    | go_big_quiet_step (first
      | (go_at_call 37; rename_i z; refine (of_any _ y s _ (hRx z) hbo).mono ?_; rintro e w' ⟨rfl, rfl⟩; exact ⟨rfl, ⟨_, rfl⟩⟩)
      | (go_at_call 121; rename_i z; refine (askAdd_any _ y s o gp gc _ (hRx z) hmo ho).mono ?_; rintro e w' ⟨rfl, hbz⟩; exact ⟨rfl, z.on hbz⟩)))
  refine wpQuiet_nil ?_
  intro w10 hw10'
  obtain ⟨⟨_, hw10⟩, rfl⟩ := hw10'
  go_wp2_with fail
  go_ret
  exact ⟨ret_int e.out.symm, hbn.trans (Below.mono hw10 hbn.size)⟩
set_option maxRecDepth 100000 in
set_option maxHeartbeats 4000000 in
theorem May_k3 (w : World) (y : Lay) (s : RS) (o : OpI) (gp : Option Addr) (gc : Nat) (i : Idn) (k : Nat) (_hk : k ≤ 1000) (hA : Asks w) (hR : RollAt w y s) (_hs : s.Ok k) (ho : o.Ok) (hU : UI w gp o.gs.length o.gs) (h1 : o.k = 3) (hi : s.inB o.b = true) :
    Calls Tryd.prog 16 #[.pointer (some ⟨y.r, 0, none⟩), .agg (opC o gp gc), .agg #[.int .i64 i.b, .int .i64 i.s, .int .u64 i.u]] w fun e w' => e = .returned (.int .i64 (s.may o)) ∧ Below w.heap.size w w' := by
  have hb1 := Below.lit w (.cells (opC o gp gc) 42)
  have hb2 := Below.lit (w.alloc (.cells (opC o gp gc) 42)) (.cells #[.int .i64 i.b, .int .i64 i.s, .int .u64 i.u] 34)
  have hO1 := OpAt.made w o gp gc
  have hO := hO1.below hb2 (by simp)
  obtain ⟨w2, hw2⟩ : ∃ w2, Hid ((w.alloc (.cells (opC o gp gc) 42)).alloc (.cells #[.int .i64 i.b, .int .i64 i.s, .int .u64 i.u] 34) = w2) := ⟨_, Lib.hid rfl⟩
  have hb : Below w.heap.size w w2 := by rw [← hw2.out]; exact hb1.trans (hb2.mono hb1.size)
  rw [hw2.out] at hO
  have hR2 := hR.below hb
  have hA2 := hA.below hb
  have hU2 := hU.below hb
  have hbo := i64_small ho.hb
  have kk := hO.ck
  have kb := hO.cb
  have c1 := hR2.c1
  have c2 := hR2.c2
  have hzw : w.heap.size < w2.heap.size := cell_lt kk
  clear hb1 hb2 hO1
  obtain ⟨q, hq⟩ : ∃ q, Hid (s.may o = q) := ⟨_, Lib.hid rfl⟩
  rw [hq.out]
  rw [h1] at kk
  obtain ⟨hl, hl2⟩ := hR2.innN hbo hi
  have ka := hA2.a3
  have hfn := fn_not
  have hfz := fn_nil
  have hmb := ofD_bd o.b
  have hmo : i64ok (ofD o.b) := by unfold i64ok; omega
  have e : Hid (q = s.askRemove o (ofD o.b)) := Lib.hid (by rw [← hq.out]; unfold RS.may; rw [if_neg (by omega), if_neg (by rw [hi]; simp)]; unfold RS.ask; rw [if_neg (by omega), if_pos h1])
  replace hi := Lib.hid hi
  replace h1 := Lib.hid h1
  go_enter Tryd.func16, Tryd.ntmps16
  go_wp2_with (first | (rw [hw2.out]) | (first | (go_at_call 37; refine (of_any _ y s _ (by first | assumption | exact RollAt.drewN (by assumption) _) (by assumption)).mono ?_; rintro e w' ⟨rfl, rfl⟩) | (go_at_call 38; refine (fresh_any _ y s _ (by first | assumption | exact RollAt.drewN (by assumption) _) (by assumption)).mono ?_; rintro e w' ⟨rfl, rfl⟩; rw [hf.out]) | (go_at_call 122; refine (rules_any _ y s _ (by first | assumption | exact RollAt.drewN (by assumption) _) (by assumption)).mono ?_; rintro e w' ⟨rfl, rfl⟩; rw [hr.out]) | fail))
  go_quiet (first | (go_at_call 37; exact Calls.quietE (of_any _ y s _ (RollAt.drewN (by assumption) _) (by assumption))) | fail)
  go_wp2_with fail
  have hbn : Below w.heap.size w (w2.drewN nq) := belowN hb _
  have hRn := hR2.drewN nq
  have hUn := hU2.drewN nq
  have hRx : ∀ z : GrIn (w2.drewN nq), RollAt z.at_ y s := fun z => hRn.below z.gr
  have hUx : ∀ z : GrIn (w2.drewN nq), UI z.at_ gp o.gs.length o.gs := fun z => hUn.below z.gr
  have hOx : ∀ W, (∃ z : GrIn (w2.drewN nq), W = z.at_) → OpAt W w.heap.size o gp gc := fun W ⟨z, hz⟩ => by rw [hz]; exact (show OpAt (w2.drewN nq) w.heap.size o gp gc from hO).below z.gr hzw
  have kkx : ∀ z : GrIn (w2.drewN nq), z.at_.cell? ⟨w.heap.size, 2, none⟩ = some (.int .i64 3) := GrIn.cells kk
  have kbx : ∀ z : GrIn (w2.drewN nq), z.at_.cell? ⟨w.heap.size, 0, none⟩ = some (.int .i64 o.b) := GrIn.cells kb
  have kax : ∀ z : GrIn (w2.drewN nq), z.at_.cell? ⟨0, 3, none⟩ = some (.func (.func 123) #[] #[]) := GrIn.cells ka
  refine wp_region_gr (by kernel_rfl) (by kernel_rfl) ?_
  repeat (first
    | (go_big_quiet_want; refine quiet_whole _ rfl rfl hOx ?_; simp only [Act.put, List.setIfInBounds_toArray, List.set_cons_succ, List.set_cons_zero]; go_big_quiet_on)
    | go_big_quiet_step (first
      | (go_at_call 37; rename_i z; refine (of_any _ y s _ (hRx z) hbo).mono ?_; rintro e w' ⟨rfl, rfl⟩; exact ⟨rfl, ⟨_, rfl⟩⟩)
      | (go_at_call 123; rename_i z; refine (askRemove_any _ y s o gp gc _ (hRx z) hmo ho).mono ?_; rintro e w' ⟨rfl, hbz⟩; exact ⟨rfl, z.on hbz⟩)))
  refine wpQuiet_nil ?_
  intro w10 hw10'
  obtain ⟨⟨_, hw10⟩, rfl⟩ := hw10'
  go_wp2_with fail
  go_ret
  exact ⟨ret_int e.out.symm, hbn.trans (Below.mono hw10 hbn.size)⟩
set_option maxRecDepth 100000 in
set_option maxHeartbeats 4000000 in
theorem May_k5 (w : World) (y : Lay) (s : RS) (o : OpI) (gp : Option Addr) (gc : Nat) (i : Idn) (k : Nat) (_hk : k ≤ 1000) (hA : Asks w) (hR : RollAt w y s) (_hs : s.Ok k) (ho : o.Ok) (hU : UI w gp o.gs.length o.gs) (h1 : o.k = 5) (hi : s.inB o.b = true) :
    Calls Tryd.prog 16 #[.pointer (some ⟨y.r, 0, none⟩), .agg (opC o gp gc), .agg #[.int .i64 i.b, .int .i64 i.s, .int .u64 i.u]] w fun e w' => e = .returned (.int .i64 (s.may o)) ∧ Below w.heap.size w w' := by
  have hb1 := Below.lit w (.cells (opC o gp gc) 42)
  have hb2 := Below.lit (w.alloc (.cells (opC o gp gc) 42)) (.cells #[.int .i64 i.b, .int .i64 i.s, .int .u64 i.u] 34)
  have hO1 := OpAt.made w o gp gc
  have hO := hO1.below hb2 (by simp)
  obtain ⟨w2, hw2⟩ : ∃ w2, Hid ((w.alloc (.cells (opC o gp gc) 42)).alloc (.cells #[.int .i64 i.b, .int .i64 i.s, .int .u64 i.u] 34) = w2) := ⟨_, Lib.hid rfl⟩
  have hb : Below w.heap.size w w2 := by rw [← hw2.out]; exact hb1.trans (hb2.mono hb1.size)
  rw [hw2.out] at hO
  have hR2 := hR.below hb
  have hA2 := hA.below hb
  have hU2 := hU.below hb
  have hbo := i64_small ho.hb
  have kk := hO.ck
  have kb := hO.cb
  have c1 := hR2.c1
  have c2 := hR2.c2
  have hzw : w.heap.size < w2.heap.size := cell_lt kk
  clear hb1 hb2 hO1
  obtain ⟨q, hq⟩ : ∃ q, Hid (s.may o = q) := ⟨_, Lib.hid rfl⟩
  rw [hq.out]
  rw [h1] at kk
  obtain ⟨hl, hl2⟩ := hR2.innN hbo hi
  have ka := hA2.a5
  have hfn := fn_not
  have hfz := fn_nil
  have hmb := ofD_bd o.b
  have hmo : i64ok (ofD o.b) := by unfold i64ok; omega
  have e : Hid (q = s.askPromote o (ofD o.b)) := Lib.hid (by rw [← hq.out]; unfold RS.may; rw [if_neg (by omega), if_neg (by rw [hi]; simp)]; unfold RS.ask; rw [if_neg (by omega), if_neg (by omega), if_pos h1])
  replace hi := Lib.hid hi
  replace h1 := Lib.hid h1
  go_enter Tryd.func16, Tryd.ntmps16
  go_wp2_with (first | (rw [hw2.out]) | (first | (go_at_call 37; refine (of_any _ y s _ (by first | assumption | exact RollAt.drewN (by assumption) _) (by assumption)).mono ?_; rintro e w' ⟨rfl, rfl⟩) | (go_at_call 38; refine (fresh_any _ y s _ (by first | assumption | exact RollAt.drewN (by assumption) _) (by assumption)).mono ?_; rintro e w' ⟨rfl, rfl⟩; rw [hf.out]) | (go_at_call 122; refine (rules_any _ y s _ (by first | assumption | exact RollAt.drewN (by assumption) _) (by assumption)).mono ?_; rintro e w' ⟨rfl, rfl⟩; rw [hr.out]) | fail))
  go_quiet (first | (go_at_call 37; exact Calls.quietE (of_any _ y s _ (RollAt.drewN (by assumption) _) (by assumption))) | fail)
  go_wp2_with fail
  have hbn : Below w.heap.size w (w2.drewN nq) := belowN hb _
  have hRn := hR2.drewN nq
  have hUn := hU2.drewN nq
  have hRx : ∀ z : GrIn (w2.drewN nq), RollAt z.at_ y s := fun z => hRn.below z.gr
  have hUx : ∀ z : GrIn (w2.drewN nq), UI z.at_ gp o.gs.length o.gs := fun z => hUn.below z.gr
  have hOx : ∀ W, (∃ z : GrIn (w2.drewN nq), W = z.at_) → OpAt W w.heap.size o gp gc := fun W ⟨z, hz⟩ => by rw [hz]; exact (show OpAt (w2.drewN nq) w.heap.size o gp gc from hO).below z.gr hzw
  have kkx : ∀ z : GrIn (w2.drewN nq), z.at_.cell? ⟨w.heap.size, 2, none⟩ = some (.int .i64 5) := GrIn.cells kk
  have kbx : ∀ z : GrIn (w2.drewN nq), z.at_.cell? ⟨w.heap.size, 0, none⟩ = some (.int .i64 o.b) := GrIn.cells kb
  have kax : ∀ z : GrIn (w2.drewN nq), z.at_.cell? ⟨0, 5, none⟩ = some (.func (.func 124) #[] #[]) := GrIn.cells ka
  refine wp_region_gr (by kernel_rfl) (by kernel_rfl) ?_
  repeat (first
    | (go_big_quiet_want; refine quiet_whole _ rfl rfl hOx ?_; simp only [Act.put, List.setIfInBounds_toArray, List.set_cons_succ, List.set_cons_zero]; go_big_quiet_on)
    | go_big_quiet_step (first
      | (go_at_call 37; rename_i z; refine (of_any _ y s _ (hRx z) hbo).mono ?_; rintro e w' ⟨rfl, rfl⟩; exact ⟨rfl, ⟨_, rfl⟩⟩)
      | (go_at_call 124; rename_i z; refine (askPromote_any _ y s o gp gc _ (hRx z) hmo ho).mono ?_; rintro e w' ⟨rfl, hbz⟩; exact ⟨rfl, z.on hbz⟩)))
  refine wpQuiet_nil ?_
  intro w10 hw10'
  obtain ⟨⟨_, hw10⟩, rfl⟩ := hw10'
  go_wp2_with fail
  go_ret
  exact ⟨ret_int e.out.symm, hbn.trans (Below.mono hw10 hbn.size)⟩
set_option maxRecDepth 100000 in
set_option maxHeartbeats 4000000 in
theorem May_k6 (w : World) (y : Lay) (s : RS) (o : OpI) (gp : Option Addr) (gc : Nat) (i : Idn) (k : Nat) (_hk : k ≤ 1000) (hA : Asks w) (hR : RollAt w y s) (_hs : s.Ok k) (ho : o.Ok) (hU : UI w gp o.gs.length o.gs) (h1 : o.k = 6) (hi : s.inB o.b = true) :
    Calls Tryd.prog 16 #[.pointer (some ⟨y.r, 0, none⟩), .agg (opC o gp gc), .agg #[.int .i64 i.b, .int .i64 i.s, .int .u64 i.u]] w fun e w' => e = .returned (.int .i64 (s.may o)) ∧ Below w.heap.size w w' := by
  have hb1 := Below.lit w (.cells (opC o gp gc) 42)
  have hb2 := Below.lit (w.alloc (.cells (opC o gp gc) 42)) (.cells #[.int .i64 i.b, .int .i64 i.s, .int .u64 i.u] 34)
  have hO1 := OpAt.made w o gp gc
  have hO := hO1.below hb2 (by simp)
  obtain ⟨w2, hw2⟩ : ∃ w2, Hid ((w.alloc (.cells (opC o gp gc) 42)).alloc (.cells #[.int .i64 i.b, .int .i64 i.s, .int .u64 i.u] 34) = w2) := ⟨_, Lib.hid rfl⟩
  have hb : Below w.heap.size w w2 := by rw [← hw2.out]; exact hb1.trans (hb2.mono hb1.size)
  rw [hw2.out] at hO
  have hR2 := hR.below hb
  have hA2 := hA.below hb
  have hU2 := hU.below hb
  have hbo := i64_small ho.hb
  have kk := hO.ck
  have kb := hO.cb
  have c1 := hR2.c1
  have c2 := hR2.c2
  have hzw : w.heap.size < w2.heap.size := cell_lt kk
  clear hb1 hb2 hO1
  obtain ⟨q, hq⟩ : ∃ q, Hid (s.may o = q) := ⟨_, Lib.hid rfl⟩
  rw [hq.out]
  rw [h1] at kk
  obtain ⟨hl, hl2⟩ := hR2.innN hbo hi
  have ka := hA2.a6
  have hfn := fn_not
  have hfz := fn_nil
  have hmb := ofD_bd o.b
  have hmo : i64ok (ofD o.b) := by unfold i64ok; omega
  have e : Hid (q = s.askMessage o (ofD o.b)) := Lib.hid (by rw [← hq.out]; unfold RS.may; rw [if_neg (by omega), if_neg (by rw [hi]; simp)]; unfold RS.ask; rw [if_neg (by omega), if_neg (by omega), if_neg (by omega), if_pos h1])
  replace hi := Lib.hid hi
  replace h1 := Lib.hid h1
  go_enter Tryd.func16, Tryd.ntmps16
  go_wp2_with (first | (rw [hw2.out]) | (first | (go_at_call 37; refine (of_any _ y s _ (by first | assumption | exact RollAt.drewN (by assumption) _) (by assumption)).mono ?_; rintro e w' ⟨rfl, rfl⟩) | (go_at_call 38; refine (fresh_any _ y s _ (by first | assumption | exact RollAt.drewN (by assumption) _) (by assumption)).mono ?_; rintro e w' ⟨rfl, rfl⟩; rw [hf.out]) | (go_at_call 122; refine (rules_any _ y s _ (by first | assumption | exact RollAt.drewN (by assumption) _) (by assumption)).mono ?_; rintro e w' ⟨rfl, rfl⟩; rw [hr.out]) | fail))
  go_quiet (first | (go_at_call 37; exact Calls.quietE (of_any _ y s _ (RollAt.drewN (by assumption) _) (by assumption))) | fail)
  go_wp2_with fail
  have hbn : Below w.heap.size w (w2.drewN nq) := belowN hb _
  have hRn := hR2.drewN nq
  have hUn := hU2.drewN nq
  have hRx : ∀ z : GrIn (w2.drewN nq), RollAt z.at_ y s := fun z => hRn.below z.gr
  have hUx : ∀ z : GrIn (w2.drewN nq), UI z.at_ gp o.gs.length o.gs := fun z => hUn.below z.gr
  have hOx : ∀ W, (∃ z : GrIn (w2.drewN nq), W = z.at_) → OpAt W w.heap.size o gp gc := fun W ⟨z, hz⟩ => by rw [hz]; exact (show OpAt (w2.drewN nq) w.heap.size o gp gc from hO).below z.gr hzw
  have kkx : ∀ z : GrIn (w2.drewN nq), z.at_.cell? ⟨w.heap.size, 2, none⟩ = some (.int .i64 6) := GrIn.cells kk
  have kbx : ∀ z : GrIn (w2.drewN nq), z.at_.cell? ⟨w.heap.size, 0, none⟩ = some (.int .i64 o.b) := GrIn.cells kb
  have kax : ∀ z : GrIn (w2.drewN nq), z.at_.cell? ⟨0, 6, none⟩ = some (.func (.func 125) #[] #[]) := GrIn.cells ka
  refine wp_region_gr (by kernel_rfl) (by kernel_rfl) ?_
  repeat (first
    | (go_big_quiet_want; refine quiet_whole _ rfl rfl hOx ?_; simp only [Act.put, List.setIfInBounds_toArray, List.set_cons_succ, List.set_cons_zero]; go_big_quiet_on)
    | go_big_quiet_step (first
      | (go_at_call 37; rename_i z; refine (of_any _ y s _ (hRx z) hbo).mono ?_; rintro e w' ⟨rfl, rfl⟩; exact ⟨rfl, ⟨_, rfl⟩⟩)
      | (go_at_call 125; rename_i z; refine (askMessage_any _ y s o gp gc _ (hRx z) hmo).mono ?_; rintro e w' ⟨rfl, hbz⟩; exact ⟨rfl, z.on hbz⟩)))
  refine wpQuiet_nil ?_
  intro w10 hw10'
  obtain ⟨⟨_, hw10⟩, rfl⟩ := hw10'
  go_wp2_with fail
  go_ret
  exact ⟨ret_int e.out.symm, hbn.trans (Below.mono hw10 hbn.size)⟩
set_option maxRecDepth 100000 in
set_option maxHeartbeats 4000000 in
theorem May_k8 (w : World) (y : Lay) (s : RS) (o : OpI) (gp : Option Addr) (gc : Nat) (i : Idn) (k : Nat) (_hk : k ≤ 1000) (hA : Asks w) (hR : RollAt w y s) (_hs : s.Ok k) (ho : o.Ok) (hU : UI w gp o.gs.length o.gs) (h1 : o.k = 8) (hi : s.inB o.b = true) :
    Calls Tryd.prog 16 #[.pointer (some ⟨y.r, 0, none⟩), .agg (opC o gp gc), .agg #[.int .i64 i.b, .int .i64 i.s, .int .u64 i.u]] w fun e w' => e = .returned (.int .i64 (s.may o)) ∧ Below w.heap.size w w' := by
  have hb1 := Below.lit w (.cells (opC o gp gc) 42)
  have hb2 := Below.lit (w.alloc (.cells (opC o gp gc) 42)) (.cells #[.int .i64 i.b, .int .i64 i.s, .int .u64 i.u] 34)
  have hO1 := OpAt.made w o gp gc
  have hO := hO1.below hb2 (by simp)
  obtain ⟨w2, hw2⟩ : ∃ w2, Hid ((w.alloc (.cells (opC o gp gc) 42)).alloc (.cells #[.int .i64 i.b, .int .i64 i.s, .int .u64 i.u] 34) = w2) := ⟨_, Lib.hid rfl⟩
  have hb : Below w.heap.size w w2 := by rw [← hw2.out]; exact hb1.trans (hb2.mono hb1.size)
  rw [hw2.out] at hO
  have hR2 := hR.below hb
  have hA2 := hA.below hb
  have hU2 := hU.below hb
  have hbo := i64_small ho.hb
  have kk := hO.ck
  have kb := hO.cb
  have c1 := hR2.c1
  have c2 := hR2.c2
  have hzw : w.heap.size < w2.heap.size := cell_lt kk
  clear hb1 hb2 hO1
  obtain ⟨q, hq⟩ : ∃ q, Hid (s.may o = q) := ⟨_, Lib.hid rfl⟩
  rw [hq.out]
  rw [h1] at kk
  obtain ⟨hl, hl2⟩ := hR2.innN hbo hi
  have ka := hA2.a8
  have hfn := fn_not
  have hfz := fn_nil
  have hmb := ofD_bd o.b
  have hmo : i64ok (ofD o.b) := by unfold i64ok; omega
  have e : Hid (q = s.askErase o (ofD o.b)) := Lib.hid (by rw [← hq.out]; unfold RS.may; rw [if_neg (by omega), if_neg (by rw [hi]; simp)]; unfold RS.ask; rw [if_neg (by omega), if_neg (by omega), if_neg (by omega), if_neg (by omega), if_pos h1])
  replace hi := Lib.hid hi
  replace h1 := Lib.hid h1
  go_enter Tryd.func16, Tryd.ntmps16
  go_wp2_with (first | (rw [hw2.out]) | (first | (go_at_call 37; refine (of_any _ y s _ (by first | assumption | exact RollAt.drewN (by assumption) _) (by assumption)).mono ?_; rintro e w' ⟨rfl, rfl⟩) | (go_at_call 38; refine (fresh_any _ y s _ (by first | assumption | exact RollAt.drewN (by assumption) _) (by assumption)).mono ?_; rintro e w' ⟨rfl, rfl⟩; rw [hf.out]) | (go_at_call 122; refine (rules_any _ y s _ (by first | assumption | exact RollAt.drewN (by assumption) _) (by assumption)).mono ?_; rintro e w' ⟨rfl, rfl⟩; rw [hr.out]) | fail))
  go_quiet (first | (go_at_call 37; exact Calls.quietE (of_any _ y s _ (RollAt.drewN (by assumption) _) (by assumption))) | fail)
  go_wp2_with fail
  have hbn : Below w.heap.size w (w2.drewN nq) := belowN hb _
  have hRn := hR2.drewN nq
  have hUn := hU2.drewN nq
  have hRx : ∀ z : GrIn (w2.drewN nq), RollAt z.at_ y s := fun z => hRn.below z.gr
  have hUx : ∀ z : GrIn (w2.drewN nq), UI z.at_ gp o.gs.length o.gs := fun z => hUn.below z.gr
  have hOx : ∀ W, (∃ z : GrIn (w2.drewN nq), W = z.at_) → OpAt W w.heap.size o gp gc := fun W ⟨z, hz⟩ => by rw [hz]; exact (show OpAt (w2.drewN nq) w.heap.size o gp gc from hO).below z.gr hzw
  have kkx : ∀ z : GrIn (w2.drewN nq), z.at_.cell? ⟨w.heap.size, 2, none⟩ = some (.int .i64 8) := GrIn.cells kk
  have kbx : ∀ z : GrIn (w2.drewN nq), z.at_.cell? ⟨w.heap.size, 0, none⟩ = some (.int .i64 o.b) := GrIn.cells kb
  have kax : ∀ z : GrIn (w2.drewN nq), z.at_.cell? ⟨0, 8, none⟩ = some (.func (.func 126) #[] #[]) := GrIn.cells ka
  refine wp_region_gr (by kernel_rfl) (by kernel_rfl) ?_
  repeat (first
    | (go_big_quiet_want; refine quiet_whole _ rfl rfl hOx ?_; simp only [Act.put, List.setIfInBounds_toArray, List.set_cons_succ, List.set_cons_zero]; go_big_quiet_on)
    | go_big_quiet_step (first
      | (go_at_call 37; rename_i z; refine (of_any _ y s _ (hRx z) hbo).mono ?_; rintro e w' ⟨rfl, rfl⟩; exact ⟨rfl, ⟨_, rfl⟩⟩)
      | (go_at_call 126; rename_i z; refine (askErase_any _ y s o gp gc _ (hRx z) hmo ho).mono ?_; rintro e w' ⟨rfl, hbz⟩; exact ⟨rfl, z.on hbz⟩)))
  refine wpQuiet_nil ?_
  intro w10 hw10'
  obtain ⟨⟨_, hw10⟩, rfl⟩ := hw10'
  go_wp2_with fail
  go_ret
  exact ⟨ret_int e.out.symm, hbn.trans (Below.mono hw10 hbn.size)⟩
set_option maxRecDepth 100000 in
set_option maxHeartbeats 4000000 in
theorem May_k9 (w : World) (y : Lay) (s : RS) (o : OpI) (gp : Option Addr) (gc : Nat) (i : Idn) (k : Nat) (_hk : k ≤ 1000) (hA : Asks w) (hR : RollAt w y s) (_hs : s.Ok k) (ho : o.Ok) (hU : UI w gp o.gs.length o.gs) (h1 : o.k = 9) (hi : s.inB o.b = true) :
    Calls Tryd.prog 16 #[.pointer (some ⟨y.r, 0, none⟩), .agg (opC o gp gc), .agg #[.int .i64 i.b, .int .i64 i.s, .int .u64 i.u]] w fun e w' => e = .returned (.int .i64 (s.may o)) ∧ Below w.heap.size w w' := by
  have hb1 := Below.lit w (.cells (opC o gp gc) 42)
  have hb2 := Below.lit (w.alloc (.cells (opC o gp gc) 42)) (.cells #[.int .i64 i.b, .int .i64 i.s, .int .u64 i.u] 34)
  have hO1 := OpAt.made w o gp gc
  have hO := hO1.below hb2 (by simp)
  obtain ⟨w2, hw2⟩ : ∃ w2, Hid ((w.alloc (.cells (opC o gp gc) 42)).alloc (.cells #[.int .i64 i.b, .int .i64 i.s, .int .u64 i.u] 34) = w2) := ⟨_, Lib.hid rfl⟩
  have hb : Below w.heap.size w w2 := by rw [← hw2.out]; exact hb1.trans (hb2.mono hb1.size)
  rw [hw2.out] at hO
  have hR2 := hR.below hb
  have hA2 := hA.below hb
  have hU2 := hU.below hb
  have hbo := i64_small ho.hb
  have kk := hO.ck
  have kb := hO.cb
  have c1 := hR2.c1
  have c2 := hR2.c2
  have hzw : w.heap.size < w2.heap.size := cell_lt kk
  clear hb1 hb2 hO1
  obtain ⟨q, hq⟩ : ∃ q, Hid (s.may o = q) := ⟨_, Lib.hid rfl⟩
  rw [hq.out]
  rw [h1] at kk
  obtain ⟨hl, hl2⟩ := hR2.innN hbo hi
  have ka := hA2.a9
  have hfn := fn_not
  have hfz := fn_nil
  have hmb := ofD_bd o.b
  have hmo : i64ok (ofD o.b) := by unfold i64ok; omega
  have e : Hid (q = s.askGuard o (ofD o.b)) := Lib.hid (by rw [← hq.out]; unfold RS.may; rw [if_neg (by omega), if_neg (by rw [hi]; simp)]; unfold RS.ask; rw [if_neg (by omega), if_neg (by omega), if_neg (by omega), if_neg (by omega), if_neg (by omega), if_pos h1])
  replace hi := Lib.hid hi
  replace h1 := Lib.hid h1
  go_enter Tryd.func16, Tryd.ntmps16
  go_wp2_with (first | (rw [hw2.out]) | (first | (go_at_call 37; refine (of_any _ y s _ (by first | assumption | exact RollAt.drewN (by assumption) _) (by assumption)).mono ?_; rintro e w' ⟨rfl, rfl⟩) | (go_at_call 38; refine (fresh_any _ y s _ (by first | assumption | exact RollAt.drewN (by assumption) _) (by assumption)).mono ?_; rintro e w' ⟨rfl, rfl⟩; rw [hf.out]) | (go_at_call 122; refine (rules_any _ y s _ (by first | assumption | exact RollAt.drewN (by assumption) _) (by assumption)).mono ?_; rintro e w' ⟨rfl, rfl⟩; rw [hr.out]) | fail))
  go_quiet (first | (go_at_call 37; exact Calls.quietE (of_any _ y s _ (RollAt.drewN (by assumption) _) (by assumption))) | fail)
  go_wp2_with fail
  have hbn : Below w.heap.size w (w2.drewN nq) := belowN hb _
  have hRn := hR2.drewN nq
  have hUn := hU2.drewN nq
  have hRx : ∀ z : GrIn (w2.drewN nq), RollAt z.at_ y s := fun z => hRn.below z.gr
  have hUx : ∀ z : GrIn (w2.drewN nq), UI z.at_ gp o.gs.length o.gs := fun z => hUn.below z.gr
  have hOx : ∀ W, (∃ z : GrIn (w2.drewN nq), W = z.at_) → OpAt W w.heap.size o gp gc := fun W ⟨z, hz⟩ => by rw [hz]; exact (show OpAt (w2.drewN nq) w.heap.size o gp gc from hO).below z.gr hzw
  have kkx : ∀ z : GrIn (w2.drewN nq), z.at_.cell? ⟨w.heap.size, 2, none⟩ = some (.int .i64 9) := GrIn.cells kk
  have kbx : ∀ z : GrIn (w2.drewN nq), z.at_.cell? ⟨w.heap.size, 0, none⟩ = some (.int .i64 o.b) := GrIn.cells kb
  have kax : ∀ z : GrIn (w2.drewN nq), z.at_.cell? ⟨0, 9, none⟩ = some (.func (.func 127) #[] #[]) := GrIn.cells ka
  refine wp_region_gr (by kernel_rfl) (by kernel_rfl) ?_
  repeat (first
    | (go_big_quiet_want; refine quiet_whole _ rfl rfl hOx ?_; simp only [Act.put, List.setIfInBounds_toArray, List.set_cons_succ, List.set_cons_zero]; go_big_quiet_on)
    | go_big_quiet_step (first
      | (go_at_call 37; rename_i z; refine (of_any _ y s _ (hRx z) hbo).mono ?_; rintro e w' ⟨rfl, rfl⟩; exact ⟨rfl, ⟨_, rfl⟩⟩)
      | (go_at_call 127; rename_i z; refine (askGuard_any _ y s o gp gc _ (hRx z) (hUx z) ho.hgl).mono ?_; rintro e w' ⟨rfl, hbz⟩; exact ⟨rfl, z.on hbz⟩)))
  refine wpQuiet_nil ?_
  intro w10 hw10'
  obtain ⟨⟨_, hw10⟩, rfl⟩ := hw10'
  go_wp2_with fail
  go_ret
  exact ⟨ret_int e.out.symm, hbn.trans (Below.mono hw10 hbn.size)⟩
set_option maxRecDepth 100000 in
set_option maxHeartbeats 4000000 in
theorem May_k10 (w : World) (y : Lay) (s : RS) (o : OpI) (gp : Option Addr) (gc : Nat) (i : Idn) (k : Nat) (_hk : k ≤ 1000) (hA : Asks w) (hR : RollAt w y s) (_hs : s.Ok k) (ho : o.Ok) (hU : UI w gp o.gs.length o.gs) (h1 : o.k = 10) (hi : s.inB o.b = true) :
    Calls Tryd.prog 16 #[.pointer (some ⟨y.r, 0, none⟩), .agg (opC o gp gc), .agg #[.int .i64 i.b, .int .i64 i.s, .int .u64 i.u]] w fun e w' => e = .returned (.int .i64 (s.may o)) ∧ Below w.heap.size w w' := by
  have hb1 := Below.lit w (.cells (opC o gp gc) 42)
  have hb2 := Below.lit (w.alloc (.cells (opC o gp gc) 42)) (.cells #[.int .i64 i.b, .int .i64 i.s, .int .u64 i.u] 34)
  have hO1 := OpAt.made w o gp gc
  have hO := hO1.below hb2 (by simp)
  obtain ⟨w2, hw2⟩ : ∃ w2, Hid ((w.alloc (.cells (opC o gp gc) 42)).alloc (.cells #[.int .i64 i.b, .int .i64 i.s, .int .u64 i.u] 34) = w2) := ⟨_, Lib.hid rfl⟩
  have hb : Below w.heap.size w w2 := by rw [← hw2.out]; exact hb1.trans (hb2.mono hb1.size)
  rw [hw2.out] at hO
  have hR2 := hR.below hb
  have hA2 := hA.below hb
  have hU2 := hU.below hb
  have hbo := i64_small ho.hb
  have kk := hO.ck
  have kb := hO.cb
  have c1 := hR2.c1
  have c2 := hR2.c2
  have hzw : w.heap.size < w2.heap.size := cell_lt kk
  clear hb1 hb2 hO1
  obtain ⟨q, hq⟩ : ∃ q, Hid (s.may o = q) := ⟨_, Lib.hid rfl⟩
  rw [hq.out]
  rw [h1] at kk
  obtain ⟨hl, hl2⟩ := hR2.innN hbo hi
  have ka := hA2.a10
  have hfn := fn_not
  have hfz := fn_nil
  have hmb := ofD_bd o.b
  have hmo : i64ok (ofD o.b) := by unfold i64ok; omega
  have e : Hid (q = s.askOwn o (ofD o.b)) := Lib.hid (by rw [← hq.out]; unfold RS.may; rw [if_neg (by omega), if_neg (by rw [hi]; simp)]; unfold RS.ask; rw [if_neg (by omega), if_neg (by omega), if_neg (by omega), if_neg (by omega), if_neg (by omega), if_neg (by omega), if_pos h1])
  replace hi := Lib.hid hi
  replace h1 := Lib.hid h1
  go_enter Tryd.func16, Tryd.ntmps16
  go_wp2_with (first | (rw [hw2.out]) | (first | (go_at_call 37; refine (of_any _ y s _ (by first | assumption | exact RollAt.drewN (by assumption) _) (by assumption)).mono ?_; rintro e w' ⟨rfl, rfl⟩) | (go_at_call 38; refine (fresh_any _ y s _ (by first | assumption | exact RollAt.drewN (by assumption) _) (by assumption)).mono ?_; rintro e w' ⟨rfl, rfl⟩; rw [hf.out]) | (go_at_call 122; refine (rules_any _ y s _ (by first | assumption | exact RollAt.drewN (by assumption) _) (by assumption)).mono ?_; rintro e w' ⟨rfl, rfl⟩; rw [hr.out]) | fail))
  go_quiet (first | (go_at_call 37; exact Calls.quietE (of_any _ y s _ (RollAt.drewN (by assumption) _) (by assumption))) | fail)
  go_wp2_with fail
  have hbn : Below w.heap.size w (w2.drewN nq) := belowN hb _
  have hRn := hR2.drewN nq
  have hUn := hU2.drewN nq
  have hRx : ∀ z : GrIn (w2.drewN nq), RollAt z.at_ y s := fun z => hRn.below z.gr
  have hUx : ∀ z : GrIn (w2.drewN nq), UI z.at_ gp o.gs.length o.gs := fun z => hUn.below z.gr
  have hOx : ∀ W, (∃ z : GrIn (w2.drewN nq), W = z.at_) → OpAt W w.heap.size o gp gc := fun W ⟨z, hz⟩ => by rw [hz]; exact (show OpAt (w2.drewN nq) w.heap.size o gp gc from hO).below z.gr hzw
  have kkx : ∀ z : GrIn (w2.drewN nq), z.at_.cell? ⟨w.heap.size, 2, none⟩ = some (.int .i64 10) := GrIn.cells kk
  have kbx : ∀ z : GrIn (w2.drewN nq), z.at_.cell? ⟨w.heap.size, 0, none⟩ = some (.int .i64 o.b) := GrIn.cells kb
  have kax : ∀ z : GrIn (w2.drewN nq), z.at_.cell? ⟨0, 10, none⟩ = some (.func (.func 130) #[] #[]) := GrIn.cells ka
  refine wp_region_gr (by kernel_rfl) (by kernel_rfl) ?_
  repeat (first
    | (go_big_quiet_want; refine quiet_whole _ rfl rfl hOx ?_; simp only [Act.put, List.setIfInBounds_toArray, List.set_cons_succ, List.set_cons_zero]; go_big_quiet_on)
    | go_big_quiet_step (first
      | (go_at_call 37; rename_i z; refine (of_any _ y s _ (hRx z) hbo).mono ?_; rintro e w' ⟨rfl, rfl⟩; exact ⟨rfl, ⟨_, rfl⟩⟩)
      | (go_at_call 130; rename_i z; refine (own_any _ y s o gp gc _ (hRx z) hmo).mono ?_; rintro e w' ⟨rfl, hbz⟩; exact ⟨rfl, z.on hbz⟩)))
  refine wpQuiet_nil ?_
  intro w10 hw10'
  obtain ⟨⟨_, hw10⟩, rfl⟩ := hw10'
  go_wp2_with fail
  go_ret
  exact ⟨ret_int e.out.symm, hbn.trans (Below.mono hw10 hbn.size)⟩
set_option maxRecDepth 100000 in
set_option maxHeartbeats 4000000 in
theorem May_k11 (w : World) (y : Lay) (s : RS) (o : OpI) (gp : Option Addr) (gc : Nat) (i : Idn) (k : Nat) (hk : k ≤ 1000) (hA : Asks w) (hR : RollAt w y s) (hs : s.Ok k) (ho : o.Ok) (hU : UI w gp o.gs.length o.gs) (h1 : o.k = 11) (hi : s.inB o.b = true) :
    Calls Tryd.prog 16 #[.pointer (some ⟨y.r, 0, none⟩), .agg (opC o gp gc), .agg #[.int .i64 i.b, .int .i64 i.s, .int .u64 i.u]] w fun e w' => e = .returned (.int .i64 (s.may o)) ∧ Below w.heap.size w w' := by
  have hb1 := Below.lit w (.cells (opC o gp gc) 42)
  have hb2 := Below.lit (w.alloc (.cells (opC o gp gc) 42)) (.cells #[.int .i64 i.b, .int .i64 i.s, .int .u64 i.u] 34)
  have hO1 := OpAt.made w o gp gc
  have hO := hO1.below hb2 (by simp)
  obtain ⟨w2, hw2⟩ : ∃ w2, Hid ((w.alloc (.cells (opC o gp gc) 42)).alloc (.cells #[.int .i64 i.b, .int .i64 i.s, .int .u64 i.u] 34) = w2) := ⟨_, Lib.hid rfl⟩
  have hb : Below w.heap.size w w2 := by rw [← hw2.out]; exact hb1.trans (hb2.mono hb1.size)
  rw [hw2.out] at hO
  have hR2 := hR.below hb
  have hA2 := hA.below hb
  have hU2 := hU.below hb
  have hbo := i64_small ho.hb
  have kk := hO.ck
  have kb := hO.cb
  have c1 := hR2.c1
  have c2 := hR2.c2
  have hzw : w.heap.size < w2.heap.size := cell_lt kk
  clear hb1 hb2 hO1
  obtain ⟨q, hq⟩ : ∃ q, Hid (s.may o = q) := ⟨_, Lib.hid rfl⟩
  rw [hq.out]
  rw [h1] at kk
  obtain ⟨hl, hl2⟩ := hR2.innN hbo hi
  have ka := hA2.a11
  have hfn := fn_not
  have hfz := fn_nil
  have hmb := ofD_bd o.b
  have hmo : i64ok (ofD o.b) := by unfold i64ok; omega
  have e : Hid (q = s.askVouch o (ofD o.b)) := Lib.hid (by rw [← hq.out]; unfold RS.may; rw [if_neg (by omega), if_neg (by rw [hi]; simp)]; unfold RS.ask; rw [if_neg (by omega), if_neg (by omega), if_neg (by omega), if_neg (by omega), if_neg (by omega), if_neg (by omega), if_neg (by omega), if_pos h1])
  replace hi := Lib.hid hi
  replace h1 := Lib.hid h1
  go_enter Tryd.func16, Tryd.ntmps16
  go_wp2_with (first | (rw [hw2.out]) | (first | (go_at_call 37; refine (of_any _ y s _ (by first | assumption | exact RollAt.drewN (by assumption) _) (by assumption)).mono ?_; rintro e w' ⟨rfl, rfl⟩) | (go_at_call 38; refine (fresh_any _ y s _ (by first | assumption | exact RollAt.drewN (by assumption) _) (by assumption)).mono ?_; rintro e w' ⟨rfl, rfl⟩; rw [hf.out]) | (go_at_call 122; refine (rules_any _ y s _ (by first | assumption | exact RollAt.drewN (by assumption) _) (by assumption)).mono ?_; rintro e w' ⟨rfl, rfl⟩; rw [hr.out]) | fail))
  go_quiet (first | (go_at_call 37; exact Calls.quietE (of_any _ y s _ (RollAt.drewN (by assumption) _) (by assumption))) | fail)
  go_wp2_with fail
  have hbn : Below w.heap.size w (w2.drewN nq) := belowN hb _
  have hRn := hR2.drewN nq
  have hUn := hU2.drewN nq
  have hRx : ∀ z : GrIn (w2.drewN nq), RollAt z.at_ y s := fun z => hRn.below z.gr
  have hUx : ∀ z : GrIn (w2.drewN nq), UI z.at_ gp o.gs.length o.gs := fun z => hUn.below z.gr
  have hOx : ∀ W, (∃ z : GrIn (w2.drewN nq), W = z.at_) → OpAt W w.heap.size o gp gc := fun W ⟨z, hz⟩ => by rw [hz]; exact (show OpAt (w2.drewN nq) w.heap.size o gp gc from hO).below z.gr hzw
  have kkx : ∀ z : GrIn (w2.drewN nq), z.at_.cell? ⟨w.heap.size, 2, none⟩ = some (.int .i64 11) := GrIn.cells kk
  have kbx : ∀ z : GrIn (w2.drewN nq), z.at_.cell? ⟨w.heap.size, 0, none⟩ = some (.int .i64 o.b) := GrIn.cells kb
  have kax : ∀ z : GrIn (w2.drewN nq), z.at_.cell? ⟨0, 11, none⟩ = some (.func (.func 131) #[] #[]) := GrIn.cells ka
  refine wp_region_gr (by kernel_rfl) (by kernel_rfl) ?_
  repeat (first
    | (go_big_quiet_want; refine quiet_whole _ rfl rfl hOx ?_; simp only [Act.put, List.setIfInBounds_toArray, List.set_cons_succ, List.set_cons_zero]; go_big_quiet_on)
    | go_big_quiet_step (first
      | (go_at_call 37; rename_i z; refine (of_any _ y s _ (hRx z) hbo).mono ?_; rintro e w' ⟨rfl, rfl⟩; exact ⟨rfl, ⟨_, rfl⟩⟩)
      | (go_at_call 131; rename_i z; refine (askVouch_any _ y s o gp gc _ k hk (hRx z) hs ho).mono ?_; rintro e w' ⟨rfl, hbz⟩; exact ⟨rfl, z.on hbz⟩)))
  refine wpQuiet_nil ?_
  intro w10 hw10'
  obtain ⟨⟨_, hw10⟩, rfl⟩ := hw10'
  go_wp2_with fail
  go_ret
  exact ⟨ret_int e.out.symm, hbn.trans (Below.mono hw10 hbn.size)⟩
set_option maxRecDepth 100000 in
set_option maxHeartbeats 4000000 in
theorem May_k12 (w : World) (y : Lay) (s : RS) (o : OpI) (gp : Option Addr) (gc : Nat) (i : Idn) (k : Nat) (_hk : k ≤ 1000) (hA : Asks w) (hR : RollAt w y s) (_hs : s.Ok k) (ho : o.Ok) (hU : UI w gp o.gs.length o.gs) (h1 : o.k = 12) (hi : s.inB o.b = true) :
    Calls Tryd.prog 16 #[.pointer (some ⟨y.r, 0, none⟩), .agg (opC o gp gc), .agg #[.int .i64 i.b, .int .i64 i.s, .int .u64 i.u]] w fun e w' => e = .returned (.int .i64 (s.may o)) ∧ Below w.heap.size w w' := by
  have hb1 := Below.lit w (.cells (opC o gp gc) 42)
  have hb2 := Below.lit (w.alloc (.cells (opC o gp gc) 42)) (.cells #[.int .i64 i.b, .int .i64 i.s, .int .u64 i.u] 34)
  have hO1 := OpAt.made w o gp gc
  have hO := hO1.below hb2 (by simp)
  obtain ⟨w2, hw2⟩ : ∃ w2, Hid ((w.alloc (.cells (opC o gp gc) 42)).alloc (.cells #[.int .i64 i.b, .int .i64 i.s, .int .u64 i.u] 34) = w2) := ⟨_, Lib.hid rfl⟩
  have hb : Below w.heap.size w w2 := by rw [← hw2.out]; exact hb1.trans (hb2.mono hb1.size)
  rw [hw2.out] at hO
  have hR2 := hR.below hb
  have hA2 := hA.below hb
  have hU2 := hU.below hb
  have hbo := i64_small ho.hb
  have kk := hO.ck
  have kb := hO.cb
  have c1 := hR2.c1
  have c2 := hR2.c2
  have hzw : w.heap.size < w2.heap.size := cell_lt kk
  clear hb1 hb2 hO1
  obtain ⟨q, hq⟩ : ∃ q, Hid (s.may o = q) := ⟨_, Lib.hid rfl⟩
  rw [hq.out]
  rw [h1] at kk
  obtain ⟨hl, hl2⟩ := hR2.innN hbo hi
  have ka := hA2.a12
  have hfn := fn_not
  have hfz := fn_nil
  have hmb := ofD_bd o.b
  have hmo : i64ok (ofD o.b) := by unfold i64ok; omega
  have e : Hid (q = s.askOwn o (ofD o.b)) := Lib.hid (by rw [← hq.out]; unfold RS.may; rw [if_neg (by omega), if_neg (by rw [hi]; simp)]; unfold RS.ask; rw [if_neg (by omega), if_neg (by omega), if_neg (by omega), if_neg (by omega), if_neg (by omega), if_neg (by omega), if_neg (by omega), if_neg (by omega), if_pos h1])
  replace hi := Lib.hid hi
  replace h1 := Lib.hid h1
  go_enter Tryd.func16, Tryd.ntmps16
  go_wp2_with (first | (rw [hw2.out]) | (first | (go_at_call 37; refine (of_any _ y s _ (by first | assumption | exact RollAt.drewN (by assumption) _) (by assumption)).mono ?_; rintro e w' ⟨rfl, rfl⟩) | (go_at_call 38; refine (fresh_any _ y s _ (by first | assumption | exact RollAt.drewN (by assumption) _) (by assumption)).mono ?_; rintro e w' ⟨rfl, rfl⟩; rw [hf.out]) | (go_at_call 122; refine (rules_any _ y s _ (by first | assumption | exact RollAt.drewN (by assumption) _) (by assumption)).mono ?_; rintro e w' ⟨rfl, rfl⟩; rw [hr.out]) | fail))
  go_quiet (first | (go_at_call 37; exact Calls.quietE (of_any _ y s _ (RollAt.drewN (by assumption) _) (by assumption))) | fail)
  go_wp2_with fail
  have hbn : Below w.heap.size w (w2.drewN nq) := belowN hb _
  have hRn := hR2.drewN nq
  have hUn := hU2.drewN nq
  have hRx : ∀ z : GrIn (w2.drewN nq), RollAt z.at_ y s := fun z => hRn.below z.gr
  have hUx : ∀ z : GrIn (w2.drewN nq), UI z.at_ gp o.gs.length o.gs := fun z => hUn.below z.gr
  have hOx : ∀ W, (∃ z : GrIn (w2.drewN nq), W = z.at_) → OpAt W w.heap.size o gp gc := fun W ⟨z, hz⟩ => by rw [hz]; exact (show OpAt (w2.drewN nq) w.heap.size o gp gc from hO).below z.gr hzw
  have kkx : ∀ z : GrIn (w2.drewN nq), z.at_.cell? ⟨w.heap.size, 2, none⟩ = some (.int .i64 12) := GrIn.cells kk
  have kbx : ∀ z : GrIn (w2.drewN nq), z.at_.cell? ⟨w.heap.size, 0, none⟩ = some (.int .i64 o.b) := GrIn.cells kb
  have kax : ∀ z : GrIn (w2.drewN nq), z.at_.cell? ⟨0, 12, none⟩ = some (.func (.func 130) #[] #[]) := GrIn.cells ka
  refine wp_region_gr (by kernel_rfl) (by kernel_rfl) ?_
  repeat (first
    | (go_big_quiet_want; refine quiet_whole _ rfl rfl hOx ?_; simp only [Act.put, List.setIfInBounds_toArray, List.set_cons_succ, List.set_cons_zero]; go_big_quiet_on)
    | go_big_quiet_step (first
      | (go_at_call 37; rename_i z; refine (of_any _ y s _ (hRx z) hbo).mono ?_; rintro e w' ⟨rfl, rfl⟩; exact ⟨rfl, ⟨_, rfl⟩⟩)
      | (go_at_call 130; rename_i z; refine (own_any _ y s o gp gc _ (hRx z) hmo).mono ?_; rintro e w' ⟨rfl, hbz⟩; exact ⟨rfl, z.on hbz⟩)))
  refine wpQuiet_nil ?_
  intro w10 hw10'
  obtain ⟨⟨_, hw10⟩, rfl⟩ := hw10'
  go_wp2_with fail
  go_ret
  exact ⟨ret_int e.out.symm, hbn.trans (Below.mono hw10 hbn.size)⟩
set_option maxRecDepth 100000 in
set_option maxHeartbeats 4000000 in
theorem May_k13 (w : World) (y : Lay) (s : RS) (o : OpI) (gp : Option Addr) (gc : Nat) (i : Idn) (k : Nat) (hk : k ≤ 1000) (hA : Asks w) (hR : RollAt w y s) (hs : s.Ok k) (ho : o.Ok) (hU : UI w gp o.gs.length o.gs) (h1 : o.k = 13) (hi : s.inB o.b = true) :
    Calls Tryd.prog 16 #[.pointer (some ⟨y.r, 0, none⟩), .agg (opC o gp gc), .agg #[.int .i64 i.b, .int .i64 i.s, .int .u64 i.u]] w fun e w' => e = .returned (.int .i64 (s.may o)) ∧ Below w.heap.size w w' := by
  have hb1 := Below.lit w (.cells (opC o gp gc) 42)
  have hb2 := Below.lit (w.alloc (.cells (opC o gp gc) 42)) (.cells #[.int .i64 i.b, .int .i64 i.s, .int .u64 i.u] 34)
  have hO1 := OpAt.made w o gp gc
  have hO := hO1.below hb2 (by simp)
  obtain ⟨w2, hw2⟩ : ∃ w2, Hid ((w.alloc (.cells (opC o gp gc) 42)).alloc (.cells #[.int .i64 i.b, .int .i64 i.s, .int .u64 i.u] 34) = w2) := ⟨_, Lib.hid rfl⟩
  have hb : Below w.heap.size w w2 := by rw [← hw2.out]; exact hb1.trans (hb2.mono hb1.size)
  rw [hw2.out] at hO
  have hR2 := hR.below hb
  have hA2 := hA.below hb
  have hU2 := hU.below hb
  have hbo := i64_small ho.hb
  have kk := hO.ck
  have kb := hO.cb
  have c1 := hR2.c1
  have c2 := hR2.c2
  have hzw : w.heap.size < w2.heap.size := cell_lt kk
  clear hb1 hb2 hO1
  obtain ⟨q, hq⟩ : ∃ q, Hid (s.may o = q) := ⟨_, Lib.hid rfl⟩
  rw [hq.out]
  rw [h1] at kk
  obtain ⟨hl, hl2⟩ := hR2.innN hbo hi
  have ka := hA2.a13
  have hfn := fn_not
  have hfz := fn_nil
  have hmb := ofD_bd o.b
  have hmo : i64ok (ofD o.b) := by unfold i64ok; omega
  have e : Hid (q = s.askReplace o (ofD o.b)) := Lib.hid (by rw [← hq.out]; unfold RS.may; rw [if_neg (by omega), if_neg (by rw [hi]; simp)]; unfold RS.ask; rw [if_neg (by omega), if_neg (by omega), if_neg (by omega), if_neg (by omega), if_neg (by omega), if_neg (by omega), if_neg (by omega), if_neg (by omega), if_neg (by omega), if_pos h1])
  replace hi := Lib.hid hi
  replace h1 := Lib.hid h1
  go_enter Tryd.func16, Tryd.ntmps16
  go_wp2_with (first | (rw [hw2.out]) | (first | (go_at_call 37; refine (of_any _ y s _ (by first | assumption | exact RollAt.drewN (by assumption) _) (by assumption)).mono ?_; rintro e w' ⟨rfl, rfl⟩) | (go_at_call 38; refine (fresh_any _ y s _ (by first | assumption | exact RollAt.drewN (by assumption) _) (by assumption)).mono ?_; rintro e w' ⟨rfl, rfl⟩; rw [hf.out]) | (go_at_call 122; refine (rules_any _ y s _ (by first | assumption | exact RollAt.drewN (by assumption) _) (by assumption)).mono ?_; rintro e w' ⟨rfl, rfl⟩; rw [hr.out]) | fail))
  go_quiet (first | (go_at_call 37; exact Calls.quietE (of_any _ y s _ (RollAt.drewN (by assumption) _) (by assumption))) | fail)
  go_wp2_with fail
  have hbn : Below w.heap.size w (w2.drewN nq) := belowN hb _
  have hRn := hR2.drewN nq
  have hUn := hU2.drewN nq
  have hRx : ∀ z : GrIn (w2.drewN nq), RollAt z.at_ y s := fun z => hRn.below z.gr
  have hUx : ∀ z : GrIn (w2.drewN nq), UI z.at_ gp o.gs.length o.gs := fun z => hUn.below z.gr
  have hOx : ∀ W, (∃ z : GrIn (w2.drewN nq), W = z.at_) → OpAt W w.heap.size o gp gc := fun W ⟨z, hz⟩ => by rw [hz]; exact (show OpAt (w2.drewN nq) w.heap.size o gp gc from hO).below z.gr hzw
  have kkx : ∀ z : GrIn (w2.drewN nq), z.at_.cell? ⟨w.heap.size, 2, none⟩ = some (.int .i64 13) := GrIn.cells kk
  have kbx : ∀ z : GrIn (w2.drewN nq), z.at_.cell? ⟨w.heap.size, 0, none⟩ = some (.int .i64 o.b) := GrIn.cells kb
  have kax : ∀ z : GrIn (w2.drewN nq), z.at_.cell? ⟨0, 13, none⟩ = some (.func (.func 132) #[] #[]) := GrIn.cells ka
  refine wp_region_gr (by kernel_rfl) (by kernel_rfl) ?_
  repeat (first
    | (go_big_quiet_want; refine quiet_whole _ rfl rfl hOx ?_; simp only [Act.put, List.setIfInBounds_toArray, List.set_cons_succ, List.set_cons_zero]; go_big_quiet_on)
    | go_big_quiet_step (first
      | (go_at_call 37; rename_i z; refine (of_any _ y s _ (hRx z) hbo).mono ?_; rintro e w' ⟨rfl, rfl⟩; exact ⟨rfl, ⟨_, rfl⟩⟩)
      | (go_at_call 132; rename_i z; refine (askReplace_any _ y s o gp gc _ k hk (hRx z) hs ho).mono ?_; rintro e w' ⟨rfl, hbz⟩; exact ⟨rfl, z.on hbz⟩)))
  refine wpQuiet_nil ?_
  intro w10 hw10'
  obtain ⟨⟨_, hw10⟩, rfl⟩ := hw10'
  go_wp2_with fail
  go_ret
  exact ⟨ret_int e.out.symm, hbn.trans (Below.mono hw10 hbn.size)⟩
theorem May_any (w : World) (y : Lay) (s : RS) (o : OpI) (gp : Option Addr) (gc : Nat) (i : Idn) (k : Nat) (hk : k ≤ 1000) (hA : Asks w) (hR : RollAt w y s) (hs : s.Ok k) (ho : o.Ok) (hU : UI w gp o.gs.length o.gs) :
    Calls Tryd.prog 16 #[.pointer (some ⟨y.r, 0, none⟩), .agg (opC o gp gc), .agg #[.int .i64 i.b, .int .i64 i.s, .int .u64 i.u]] w fun e w' => e = .returned (.int .i64 (s.may o)) ∧ Below w.heap.size w w' := by
  by_cases h1 : o.k = 1
  · exact May_create w y s o gp gc i k hk hA hR hs ho hU h1
  cases hi : s.inB o.b with
  | false => exact May_gone w y s o gp gc i k hk hA hR hs ho hU h1 hi
  | true =>
    by_cases h14 : 14 ≤ o.k
    · exact May_high w y s o gp gc i k hk hA hR hs ho hU h14 hi
    by_cases h : o.k = 0
    · exact May_none0 w y s o gp gc i k hk hA hR hs ho hU h hi
    by_cases h : o.k = 2
    · exact May_k2 w y s o gp gc i k hk hA hR hs ho hU h hi
    by_cases h : o.k = 3
    · exact May_k3 w y s o gp gc i k hk hA hR hs ho hU h hi
    by_cases h : o.k = 4
    · exact May_none4 w y s o gp gc i k hk hA hR hs ho hU h hi
    by_cases h : o.k = 5
    · exact May_k5 w y s o gp gc i k hk hA hR hs ho hU h hi
    by_cases h : o.k = 6
    · exact May_k6 w y s o gp gc i k hk hA hR hs ho hU h hi
    by_cases h : o.k = 7
    · exact May_none7 w y s o gp gc i k hk hA hR hs ho hU h hi
    by_cases h : o.k = 8
    · exact May_k8 w y s o gp gc i k hk hA hR hs ho hU h hi
    by_cases h : o.k = 9
    · exact May_k9 w y s o gp gc i k hk hA hR hs ho hU h hi
    by_cases h : o.k = 10
    · exact May_k10 w y s o gp gc i k hk hA hR hs ho hU h hi
    by_cases h : o.k = 11
    · exact May_k11 w y s o gp gc i k hk hA hR hs ho hU h hi
    by_cases h : o.k = 12
    · exact May_k12 w y s o gp gc i k hk hA hR hs ho hU h hi
    by_cases h : o.k = 13
    · exact May_k13 w y s o gp gc i k hk hA hR hs ho hU h hi
    have := ho.hk.1
    omega
end Go.Proofs.YtkolilbebkkpdaaDoor
