/-
  Devices, Members.
  A roll, one of its members turned; its number of messages turned.
  Do: a Create, an Add, a Remove, a Promote, a Replace; and what does nothing.
  Do: a Remove of a member.
  Do: a Replace.
  Do: a Vouch.
  Do: an Object.
  A region that draws its order, where all operations leave some facts as they are: what yields one value wherever these facts hold may be taken first.
  Do: a Guard.
  Do.
-/
import Derived.Test.YtkolilbebkkpdaaDoorRmC
import Derived.Orders
import Derived.RegionTactic
import Derived.Lib.SliceRun
import Derived.Laws.AppendOwnNone
namespace Go.Proofs.YtkolilbebkkpdaaDoor
open Go.RowKit Go.Maps

theorem UI.same {w w' : World} {p : Option Addr} {n : Nat} {xs : List Int} (h : UI w p n xs) (hb : ∀ a, p = some a → w'.heap[a.block]? = w.heap[a.block]?) : UI w' p n xs := by
 refine ⟨h.len, ?_, h.bd⟩
 rcases h.rd with h1 | ⟨b, off, he, hc⟩
 ·exact .inl h1
 ·refine .inr ⟨b, off, he, fun i hi => ?_⟩
  rw [← hc i hi]
  unfold World.cell?
  have := hb _ he
  simp only at this
  simp only [this]
theorem GoesTo.after {w w1 w' : World} {y : Lay} {s : RS} (h : GoesTo w1 y s w') (hb : Below w.heap.size w w1) : GoesTo w y s w' := by
 obtain ⟨y', h1, h2, h3⟩ := h
 exact ⟨y', h1, h2, (Turn.of_below hb).trans h3⟩
theorem GoesTo.stay {w w' : World} {y : Lay} {s : RS} (hR : RollAt w y s) (hb : Below w.heap.size w w') : GoesTo w y s w' := ⟨y, hR.below hb, rfl, Turn.of_below hb⟩
set_option maxRecDepth 100000 in
theorem Devices_any (w : World) (y : Lay) (s : RS) (k : Nat) (hR : RollAt w y s) (hs : s.Ok k) :
  Calls Tryd.prog 23 #[.pointer (some ⟨y.r, 0, none⟩)] w fun e w' => ∃ (p : Option Addr) (c : Nat), e = .returned (.slice p s.ins.length c) ∧ UI w' p s.ins.length (sortI s.ins) ∧ FarP w.heap.size p ∧ Below w.heap.size w w' := by
 have c1 := hR.c1
 have hb0 := Below.lit w (.cells #[.map (some y.i)] 78)
 have hm1 : (w.alloc (.cells #[.map (some y.i)] 78)).cell? ⟨w.heap.size, 0, none⟩ = some (.map (some y.i)) := cell_of_one (World.alloc_heap_new w _)
 have hown1 := (hR.below hb0).ins
 have hl : (setV s.ins).length = s.ins.length := by unfold setV; rw [List.length_map]
 have hf : (setV s.ins).length ≤ 1000 := by
  have := hs.few
  rw [List.length_append] at this
  omega
 have hbd : ∀ x ∈ (setV s.ins).map Prod.fst, i64ok x := fun x hx => by
  rw [keys_setV] at hx
  have := hs.ins x (List.mem_append_left _ hx)
  unfold i64ok; omega
 have hS := Sorted_I w.heap.size y.i (setV s.ins) _ hm1 hown1 hf hbd
 rw [keys_setV, hl] at hS
 replace hf := Lib.hid hf
 replace hbd := Lib.hid hbd
 replace hl := Lib.hid hl
 go_enter Tryd.func23, Tryd.ntmps23
 go_wp2_with fail
 refine (KeysF_I (some y.i) w).mono ?_
 rintro e w1 ⟨rfl, rfl⟩
 go_wp2_with fail
 refine hS.mono ?_
 rintro e w2 ⟨p, cp, rfl, hu, hf, hb2⟩
 go_wp2_with fail
 go_ret
 exact ⟨p, cp, rfl, hu, fun a h => Nat.le_trans hb0.size (hf a h), hb0.trans (hb2.mono hb0.size)⟩
end Go.Proofs.YtkolilbebkkpdaaDoor

namespace Go.Proofs.YtkolilbebkkpdaaDoor
open Go.RowKit Go.Maps

theorem RollAt.setB {w : World} {y : Lay} {s : RS} (h : RollAt w y s) (n : Int) : RollAt (w.setCell ⟨y.r, 4, none⟩ (.int .i64 n)) y ⟨s.ins, s.gone, s.ms, n⟩ ∧ But w (w.setCell ⟨y.r, 4, none⟩ (.int .i64 n)) y.r := by
 have hB : But w (w.setCell ⟨y.r, 4, none⟩ (.int .i64 n)) y.r := But.of_grown (grown_cell w y.r 4 _)
 have k := Lay.ne h.nd
 refine ⟨⟨?_, h.cards.keep (hB.blk _ h.cards.lt k.r.1.symm), h.ins.keep (hB.blk _ h.ins.lt k.r.2.1.symm), h.was.keep (hB.blk _ h.was.lt k.r.2.2.1.symm), h.ms.keep (hB.blk _ h.ms.lt k.r.2.2.2.1.symm), fun x hx => (h.mb x hx).but hB (k.r.2.2.2.2 x hx), h.eq, h.nd⟩, hB⟩
 show (w.heap.modify y.r _)[y.r]? = _
 rw [Array.getElem?_modify, if_pos rfl, h.blk]; rfl
theorem nodup_mid {A F F' B : List Nat} {N : Nat} (h : (A ++ (F ++ B)).Nodup) (hF : F'.Nodup) (hn : ∀ i ∈ F', i ∈ F ∨ N ≤ i) (hl : ∀ i ∈ A ++ (F ++ B), i < N) : (A ++ (F' ++ B)).Nodup := by
 obtain ⟨h1, h2, h3⟩ := List.nodup_append.1 h
 obtain ⟨h4, h5, h6⟩ := List.nodup_append.1 h2
 refine List.nodup_append.2 ⟨h1, List.nodup_append.2 ⟨hF, h5, fun a ha b hb e => ?_⟩, fun a ha b hb e => ?_⟩
 ·rcases hn a ha with h7 | h7
  ·exact h6 a h7 b hb e
  ·have := hl b (List.mem_append_right _ (List.mem_append_right _ hb))
   omega
 ·rcases List.mem_append.1 hb with hb | hb
  ·rcases hn b hb with h7 | h7
   ·exact h3 a ha b (List.mem_append_left _ h7) e
   ·have := hl a (List.mem_append_left _ ha)
    omega
  ·exact h3 a ha b (List.mem_append_right _ hb) e
/-- One of the members is another one. -/
theorem RollAt.updM {w : World} {y : Lay} {s : RS} (h : RollAt w y s) {x x' : MRec} (hx : x ∈ y.l) {w' : World} {b : Nat} (hb : b ∈ x.foot) (hB : But w w' b) (hn : x'.n = x.n) (ha : x'.a = x.a) (hm : MbAt w' x') (hf : x'.foot.Nodup) (hnew : ∀ i ∈ x'.foot, i ∈ x.foot ∨ w.heap.size ≤ i) :
  ∃ y', RollAt w' y' (s.setM x.n x'.m) ∧ y'.r = y.r ∧ Turn w w' y.foot y'.foot := by
 obtain ⟨l1, l2, hl⟩ := List.append_of_mem hx
 have hkn : (y.l.map MRec.n).Nodup := by have := h.ms.nd; rwa [keys_memV] at this
 have hmap : (y.l.map fun z => if z.n = x.n then x' else z) = l1 ++ x' :: l2 := by
  rw [hl, List.map_append, List.map_cons, List.nodup_append] at hkn
  obtain ⟨_, h2, h3⟩ := hkn
  obtain ⟨h4, _⟩ := List.nodup_cons.1 h2
  rw [hl, List.map_append, List.map_cons, if_pos rfl]
  have e1 : (l1.map fun z => if z.n = x.n then x' else z) = l1 := by
   refine (List.map_congr_left fun z hz => ?_).trans (List.map_id' l1)
   rw [if_neg (fun e => h3 z.n (List.mem_map.2 ⟨z, hz, rfl⟩) x.n (List.mem_cons_self ..) e)]
  have e2 : (l2.map fun z => if z.n = x.n then x' else z) = l2 := by
   refine (List.map_congr_left fun z hz => ?_).trans (List.map_id' l2)
   rw [if_neg (fun e => h4 (by rw [← e]; exact List.mem_map.2 ⟨z, hz, rfl⟩))]
  rw [e1, e2]
 have hfoot : y.foot = (y.r :: y.c :: y.i :: y.w :: y.m :: l1.flatMap MRec.foot) ++ (x.foot ++ l2.flatMap MRec.foot) := by
  unfold Lay.foot
  rw [hl, List.flatMap_append, List.flatMap_cons]
  simp
 have hnd := h.nd
 have hlt := h.lt
 rw [hfoot] at hnd hlt
 obtain ⟨q1, q2, q3⟩ := List.nodup_append.1 hnd
 obtain ⟨q4, q5, q6⟩ := List.nodup_append.1 q2
 have hbF : b ∈ x.foot ++ l2.flatMap MRec.foot := List.mem_append_left _ hb
 have hne : ∀ j ∈ (y.r :: y.c :: y.i :: y.w :: y.m :: l1.flatMap MRec.foot), j ≠ b := fun j hj => q3 j hj b hbF
 have o1 : ∀ z ∈ l1, b ∉ z.foot := fun z hz hbz => hne b (by simp only [List.mem_cons, List.mem_flatMap]; exact .inr (.inr (.inr (.inr (.inr ⟨z, hz, hbz⟩))))) rfl
 have o2 : ∀ z ∈ l2, b ∉ z.foot := fun z hz hbz => q6 b hb b (List.mem_flatMap.2 ⟨z, hz, hbz⟩) rfl
 have hfoot' : Lay.foot ⟨y.r, y.c, y.i, y.w, y.m, l1 ++ x' :: l2⟩ = (y.r :: y.c :: y.i :: y.w :: y.m :: l1.flatMap MRec.foot) ++ (x'.foot ++ l2.flatMap MRec.foot) := by
  unfold Lay.foot
  rw [List.flatMap_append, List.flatMap_cons]
  simp
 have hvm : memV (l1 ++ x' :: l2) = memV y.l := by
  rw [hl]
  unfold memV
  rw [List.map_append, List.map_append, List.map_cons, List.map_cons, hn, ha]
 refine ⟨⟨y.r, y.c, y.i, y.w, y.m, l1 ++ x' :: l2⟩, ⟨?_, ?_, ?_, ?_, ?_, ?_, ?_, ?_⟩, rfl, ?_⟩
 ·exact (hB.blk _ (blk_lt h.blk) (hne _ (by simp))).trans h.blk
 ·exact h.cards.keep (hB.blk _ h.cards.lt (hne _ (by simp)))
 ·exact h.ins.keep (hB.blk _ h.ins.lt (hne _ (by simp)))
 ·exact h.was.keep (hB.blk _ h.was.lt (hne _ (by simp)))
 ·show MapV KI w' y.m (memV (l1 ++ x' :: l2))
  rw [hvm]
  exact h.ms.keep (hB.blk _ h.ms.lt (hne _ (by simp)))
 ·intro z hz
  rcases List.mem_append.1 hz with hz | hz
  ·exact (h.mb z (by rw [hl]; exact List.mem_append_left _ hz)).but hB (o1 z hz)
  ·rcases List.mem_cons.1 hz with rfl | hz
   ·exact hm
   ·exact (h.mb z (by rw [hl]; exact List.mem_append_right _ (List.mem_cons_of_mem _ hz))).but hB (o2 z hz)
 ·show (l1 ++ x' :: l2).map (fun x => (x.n, x.m)) = s.ms.map fun p => if p.1 = x.n then (x.n, x'.m) else p
  rw [← h.eq, ← hmap, List.map_map, List.map_map]
  refine List.map_congr_left fun z _ => ?_
  show ((if z.n = x.n then x' else z).n, (if z.n = x.n then x' else z).m) = if z.n = x.n then (x.n, x'.m) else (z.n, z.m)
  by_cases e : z.n = x.n
  ·rw [if_pos e, if_pos e, hn]
  ·rw [if_neg e, if_neg e]
 ·rw [hfoot']
  exact nodup_mid hnd hf hnew hlt
 ·rw [hfoot', hfoot]
  refine ⟨hB.os, hB.tape, hB.out, hB.size, fun i hi hf2 => hB.blk i hi fun e => hf2 (by rw [e]; exact List.mem_append_right _ hbF), fun i hi => ?_⟩
  rcases List.mem_append.1 hi with hi | hi
  ·exact .inl (List.mem_append_left _ hi)
  ·rcases List.mem_append.1 hi with hi | hi
   ·rcases hnew i hi with h7 | h7
    ·exact .inl (List.mem_append_right _ (List.mem_append_left _ h7))
    ·exact .inr h7
   ·exact .inl (List.mem_append_right _ (List.mem_append_right _ hi))
theorem GdAt.but {w w' : World} {g v e c : Nat} {d : Gd} {b : Nat} (h : GdAt w g v e c d) (hB : But w w' b) (h1 : g ≠ b) (h2 : v ≠ b) (h3 : e ≠ b) : GdAt w' g v e c d :=
 h.keep hB.size (hB.blk _ (blk_lt h.blk) h1) (hB.blk _ h.vo.lt h2) (hB.blk _ h.lt h3)
/-- A member's blocks. -/
theorem RollAt.mfoot {w : World} {y : Lay} {s : RS} (h : RollAt w y s) {x : MRec} (hx : x ∈ y.l) : x.foot.Nodup := by
 have := (Lay.ne h.nd).l
 obtain ⟨l1, l2, hl⟩ := List.append_of_mem hx
 rw [hl, List.flatMap_append, List.flatMap_cons] at this
 exact (List.nodup_append.1 (List.nodup_append.1 this).2.1).1
/-- A member's role is another one. -/
theorem RollAt.setR {w : World} {y : Lay} {s : RS} (h : RollAt w y s) {x : MRec} (hx : x ∈ y.l) (r : Int) : ∃ y', RollAt (w.setCell ⟨x.a, 0, none⟩ (.int .i64 r)) y' (s.setM x.n ⟨r, x.m.g⟩) ∧ y'.r = y.r ∧ Turn w (w.setCell ⟨x.a, 0, none⟩ (.int .i64 r)) y.foot y'.foot := by
 have hB : But w (w.setCell ⟨x.a, 0, none⟩ (.int .i64 r)) x.a := But.of_grown (grown_cell w x.a 0 _)
 have hM := h.mb x hx
 have hnf := h.mfoot hx
 refine h.updM (x' := ⟨x.n, ⟨r, x.m.g⟩, x.a, x.g, x.v, x.e, x.c⟩) hx (b := x.a) (List.mem_cons_self ..) hB rfl rfl ⟨?_, fun d hd => ?_⟩ hnf (fun i hi => .inl hi)
 ·show (w.heap.modify x.a _)[x.a]? = _
  rw [Array.getElem?_modify, if_pos rfl, hM.blk]; rfl
 ·have hg : x.m.g = some d := hd
  have hf : x.foot = [x.a, x.g, x.v, x.e] := by unfold MRec.foot gfoot; rw [hg]
  rw [hf] at hnf
  simp only [List.nodup_cons, List.mem_cons, List.not_mem_nil, or_false, not_or] at hnf
  exact (hM.gd d hg).but hB (fun e => hnf.1.1 e.symm) (fun e => hnf.1.2.1 e.symm) (fun e => hnf.1.2.2 e.symm)
theorem RollAt.memP {w : World} {y : Lay} {s : RS} (h : RollAt w y s) {n : Int} (hn : i64ok n) :
  ∃ v : Value, ∀ k, (Instr.lookup 79 (.map (some y.m)) (.int .i64 n) false).run Tryd.prog (w.drewN k) = .ok v (w.drewN k) := by
 rcases h.memN hn with ⟨_, _, h2⟩ | ⟨x, _, _, _, _, h2⟩
 ·exact ⟨_, h2⟩
 ·exact ⟨_, h2⟩
end Go.Proofs.YtkolilbebkkpdaaDoor

namespace Go.Proofs.YtkolilbebkkpdaaDoor
open Go.RowKit Go.Maps

theorem RS.act_eq (s : RS) (o : OpI) (i : Idn) {j : Int} (h : o.k = j) : s.act o i = if j = 1 then s.doCreate o else if j = 2 then s.comes o.d o.r
 else if j = 3 then (if o.d ≠ 0 then s.goes o.d else s.goAll o.m (sortI s.ins))
 else if j = 5 then s.doPromote o else if j = 9 then s.doGuard o i else if j = 11 then s.doVouch o
 else if j = 12 then s.doObject o else if j = 13 then s.doReplace o else s := by
 subst h; rfl
set_option maxRecDepth 100000 in
set_option maxHeartbeats 8000000 in
theorem Do_no0 (w : World) (y : Lay) (s : RS) (o : OpI) (gp : Option Addr) (gc : Nat) (i : Idn) (k : Nat) (_hk : k ≤ 1000) (hR : RollAt w y s) (hs : s.Ok k) (ho : o.Ok) (h1 : o.k = 0) :
  Calls Tryd.prog 13 #[.pointer (some ⟨y.r, 0, none⟩), .agg (opC o gp gc), .agg #[.int .i64 i.b, .int .i64 i.s, .int .u64 i.u]] w fun e w' => e = .returned (.tuple #[]) ∧ GoesTo w y (s.act o i) w' := by
 have hb1 := Below.lit w (.cells (opC o gp gc) 42)
 have hb2 := Below.lit (w.alloc (.cells (opC o gp gc) 42)) (.cells #[.int .i64 i.b, .int .i64 i.s, .int .u64 i.u] 34)
 have hO1 := OpAt.made w o gp gc
 have hO := hO1.below hb2 (by simp)
 obtain ⟨w2, hw2⟩ : ∃ w2, Hid ((w.alloc (.cells (opC o gp gc) 42)).alloc (.cells #[.int .i64 i.b, .int .i64 i.s, .int .u64 i.u] 34) = w2) := ⟨_, Lib.hid rfl⟩
 have hb : Below w.heap.size w w2 := by rw [← hw2.out]; exact hb1.trans (hb2.mono hb1.size)
 rw [hw2.out] at hO
 have hR2 := hR.below hb
 have hbo := i64_small ho.hb
 have hd := i64_small ho.hd
 have hoo := i64_small ho.ho
 have hmm := i64_small ho.hm
 have kk := hO.ck
 have kb := hO.cb
 have kd := hO.cd
 have ko := hO.co
 have km := hO.cm
 have kr := hO.cr
 have kn := hO.cn
 have kf1 := hO.cfb
 have kf2 := hO.cfs
 have kf3 := hO.cfu
 have c1 := hR2.c1
 have c2 := hR2.c2
 have c3 := hR2.c3
 have hzw : w.heap.size < w2.heap.size := cell_lt kk
 have hf1 : (s.ins ++ s.gone).length ≤ 1000 := Nat.le_trans hs.few (by omega)
 have hf2 : s.ms.length ≤ 1000 := Nat.le_trans hs.fewM (by omega)
 have hmb := ofD_bd o.b
 have hmo : i64ok (ofD o.b) := by unfold i64ok; omega
 obtain ⟨pm, hl2⟩ := hR2.memP hmo
 clear hb1 hb2 hO1
 obtain ⟨z, hz⟩ : ∃ z, Hid (s.act o i = z) := ⟨_, Lib.hid rfl⟩
 rw [hz.out]
 have e : Hid (z = s) := Lib.hid (hz.out.symm.trans (RS.act_eq s o i h1))
 rw [h1] at kk
 go_enter Tryd.func13, Tryd.ntmps13
 go_wp2_with (first | (rw [hw2.out]) | (first | (go_at_call 37; refine (of_A _ y s _).mono ?_; rintro e w' ⟨rfl, rfl⟩) | (go_at_call 38; refine (fresh_A _ y s _).mono ?_; rintro e w' ⟨rfl, rfl⟩; rw [hf.out]) | (go_at_call 122; refine (rules_A _ y s _).mono ?_; rintro e w' ⟨rfl, rfl⟩; rw [hr.out]) | fail))
 go_quiet (first | (go_at_call 37; exact Calls.quietE (of_A _ y s _)) | fail)
 have hb3 : Below w.heap.size w (w2.drewN nq) := belowN hb _
 have hR3 := hR2.drewN nq
 go_wp2_with (first | (go_at_call 37; refine (of_A _ y s _).mono ?_; rintro e w' ⟨rfl, rfl⟩) | (go_at_call 38; refine (fresh_A _ y s _).mono ?_; rintro e w' ⟨rfl, rfl⟩; rw [hf.out]) | (go_at_call 122; refine (rules_A _ y s _).mono ?_; rintro e w' ⟨rfl, rfl⟩; rw [hr.out]) | fail)
 go_returns
 rw [e.out]
 exact ⟨rfl, GoesTo.stay hR hb3⟩
set_option maxRecDepth 100000 in
set_option maxHeartbeats 8000000 in
theorem Do_no4 (w : World) (y : Lay) (s : RS) (o : OpI) (gp : Option Addr) (gc : Nat) (i : Idn) (k : Nat) (_hk : k ≤ 1000) (hR : RollAt w y s) (hs : s.Ok k) (ho : o.Ok) (h1 : o.k = 4) :
  Calls Tryd.prog 13 #[.pointer (some ⟨y.r, 0, none⟩), .agg (opC o gp gc), .agg #[.int .i64 i.b, .int .i64 i.s, .int .u64 i.u]] w fun e w' => e = .returned (.tuple #[]) ∧ GoesTo w y (s.act o i) w' := by
 have hb1 := Below.lit w (.cells (opC o gp gc) 42)
 have hb2 := Below.lit (w.alloc (.cells (opC o gp gc) 42)) (.cells #[.int .i64 i.b, .int .i64 i.s, .int .u64 i.u] 34)
 have hO1 := OpAt.made w o gp gc
 have hO := hO1.below hb2 (by simp)
 obtain ⟨w2, hw2⟩ : ∃ w2, Hid ((w.alloc (.cells (opC o gp gc) 42)).alloc (.cells #[.int .i64 i.b, .int .i64 i.s, .int .u64 i.u] 34) = w2) := ⟨_, Lib.hid rfl⟩
 have hb : Below w.heap.size w w2 := by rw [← hw2.out]; exact hb1.trans (hb2.mono hb1.size)
 rw [hw2.out] at hO
 have hR2 := hR.below hb
 have hbo := i64_small ho.hb
 have hd := i64_small ho.hd
 have hoo := i64_small ho.ho
 have hmm := i64_small ho.hm
 have kk := hO.ck
 have kb := hO.cb
 have kd := hO.cd
 have ko := hO.co
 have km := hO.cm
 have kr := hO.cr
 have kn := hO.cn
 have kf1 := hO.cfb
 have kf2 := hO.cfs
 have kf3 := hO.cfu
 have c1 := hR2.c1
 have c2 := hR2.c2
 have c3 := hR2.c3
 have hzw : w.heap.size < w2.heap.size := cell_lt kk
 have hf1 : (s.ins ++ s.gone).length ≤ 1000 := Nat.le_trans hs.few (by omega)
 have hf2 : s.ms.length ≤ 1000 := Nat.le_trans hs.fewM (by omega)
 have hmb := ofD_bd o.b
 have hmo : i64ok (ofD o.b) := by unfold i64ok; omega
 obtain ⟨pm, hl2⟩ := hR2.memP hmo
 clear hb1 hb2 hO1
 obtain ⟨z, hz⟩ : ∃ z, Hid (s.act o i = z) := ⟨_, Lib.hid rfl⟩
 rw [hz.out]
 have e : Hid (z = s) := Lib.hid (hz.out.symm.trans (RS.act_eq s o i h1))
 rw [h1] at kk
 go_enter Tryd.func13, Tryd.ntmps13
 go_wp2_with (first | (rw [hw2.out]) | (first | (go_at_call 37; refine (of_A _ y s _).mono ?_; rintro e w' ⟨rfl, rfl⟩) | (go_at_call 38; refine (fresh_A _ y s _).mono ?_; rintro e w' ⟨rfl, rfl⟩; rw [hf.out]) | (go_at_call 122; refine (rules_A _ y s _).mono ?_; rintro e w' ⟨rfl, rfl⟩; rw [hr.out]) | fail))
 go_quiet (first | (go_at_call 37; exact Calls.quietE (of_A _ y s _)) | fail)
 have hb3 : Below w.heap.size w (w2.drewN nq) := belowN hb _
 have hR3 := hR2.drewN nq
 go_wp2_with (first | (go_at_call 37; refine (of_A _ y s _).mono ?_; rintro e w' ⟨rfl, rfl⟩) | (go_at_call 38; refine (fresh_A _ y s _).mono ?_; rintro e w' ⟨rfl, rfl⟩; rw [hf.out]) | (go_at_call 122; refine (rules_A _ y s _).mono ?_; rintro e w' ⟨rfl, rfl⟩; rw [hr.out]) | fail)
 go_returns
 rw [e.out]
 exact ⟨rfl, GoesTo.stay hR hb3⟩
set_option maxRecDepth 100000 in
set_option maxHeartbeats 8000000 in
theorem Do_no6 (w : World) (y : Lay) (s : RS) (o : OpI) (gp : Option Addr) (gc : Nat) (i : Idn) (k : Nat) (_hk : k ≤ 1000) (hR : RollAt w y s) (hs : s.Ok k) (ho : o.Ok) (h1 : o.k = 6) :
  Calls Tryd.prog 13 #[.pointer (some ⟨y.r, 0, none⟩), .agg (opC o gp gc), .agg #[.int .i64 i.b, .int .i64 i.s, .int .u64 i.u]] w fun e w' => e = .returned (.tuple #[]) ∧ GoesTo w y (s.act o i) w' := by
 have hb1 := Below.lit w (.cells (opC o gp gc) 42)
 have hb2 := Below.lit (w.alloc (.cells (opC o gp gc) 42)) (.cells #[.int .i64 i.b, .int .i64 i.s, .int .u64 i.u] 34)
 have hO1 := OpAt.made w o gp gc
 have hO := hO1.below hb2 (by simp)
 obtain ⟨w2, hw2⟩ : ∃ w2, Hid ((w.alloc (.cells (opC o gp gc) 42)).alloc (.cells #[.int .i64 i.b, .int .i64 i.s, .int .u64 i.u] 34) = w2) := ⟨_, Lib.hid rfl⟩
 have hb : Below w.heap.size w w2 := by rw [← hw2.out]; exact hb1.trans (hb2.mono hb1.size)
 rw [hw2.out] at hO
 have hR2 := hR.below hb
 have hbo := i64_small ho.hb
 have hd := i64_small ho.hd
 have hoo := i64_small ho.ho
 have hmm := i64_small ho.hm
 have kk := hO.ck
 have kb := hO.cb
 have kd := hO.cd
 have ko := hO.co
 have km := hO.cm
 have kr := hO.cr
 have kn := hO.cn
 have kf1 := hO.cfb
 have kf2 := hO.cfs
 have kf3 := hO.cfu
 have c1 := hR2.c1
 have c2 := hR2.c2
 have c3 := hR2.c3
 have hzw : w.heap.size < w2.heap.size := cell_lt kk
 have hf1 : (s.ins ++ s.gone).length ≤ 1000 := Nat.le_trans hs.few (by omega)
 have hf2 : s.ms.length ≤ 1000 := Nat.le_trans hs.fewM (by omega)
 have hmb := ofD_bd o.b
 have hmo : i64ok (ofD o.b) := by unfold i64ok; omega
 obtain ⟨pm, hl2⟩ := hR2.memP hmo
 clear hb1 hb2 hO1
 obtain ⟨z, hz⟩ : ∃ z, Hid (s.act o i = z) := ⟨_, Lib.hid rfl⟩
 rw [hz.out]
 have e : Hid (z = s) := Lib.hid (hz.out.symm.trans (RS.act_eq s o i h1))
 rw [h1] at kk
 go_enter Tryd.func13, Tryd.ntmps13
 go_wp2_with (first | (rw [hw2.out]) | (first | (go_at_call 37; refine (of_A _ y s _).mono ?_; rintro e w' ⟨rfl, rfl⟩) | (go_at_call 38; refine (fresh_A _ y s _).mono ?_; rintro e w' ⟨rfl, rfl⟩; rw [hf.out]) | (go_at_call 122; refine (rules_A _ y s _).mono ?_; rintro e w' ⟨rfl, rfl⟩; rw [hr.out]) | fail))
 go_quiet (first | (go_at_call 37; exact Calls.quietE (of_A _ y s _)) | fail)
 have hb3 : Below w.heap.size w (w2.drewN nq) := belowN hb _
 have hR3 := hR2.drewN nq
 go_wp2_with (first | (go_at_call 37; refine (of_A _ y s _).mono ?_; rintro e w' ⟨rfl, rfl⟩) | (go_at_call 38; refine (fresh_A _ y s _).mono ?_; rintro e w' ⟨rfl, rfl⟩; rw [hf.out]) | (go_at_call 122; refine (rules_A _ y s _).mono ?_; rintro e w' ⟨rfl, rfl⟩; rw [hr.out]) | fail)
 go_returns
 rw [e.out]
 exact ⟨rfl, GoesTo.stay hR hb3⟩
set_option maxRecDepth 100000 in
set_option maxHeartbeats 8000000 in
theorem Do_no7 (w : World) (y : Lay) (s : RS) (o : OpI) (gp : Option Addr) (gc : Nat) (i : Idn) (k : Nat) (_hk : k ≤ 1000) (hR : RollAt w y s) (hs : s.Ok k) (ho : o.Ok) (h1 : o.k = 7) :
  Calls Tryd.prog 13 #[.pointer (some ⟨y.r, 0, none⟩), .agg (opC o gp gc), .agg #[.int .i64 i.b, .int .i64 i.s, .int .u64 i.u]] w fun e w' => e = .returned (.tuple #[]) ∧ GoesTo w y (s.act o i) w' := by
 have hb1 := Below.lit w (.cells (opC o gp gc) 42)
 have hb2 := Below.lit (w.alloc (.cells (opC o gp gc) 42)) (.cells #[.int .i64 i.b, .int .i64 i.s, .int .u64 i.u] 34)
 have hO1 := OpAt.made w o gp gc
 have hO := hO1.below hb2 (by simp)
 obtain ⟨w2, hw2⟩ : ∃ w2, Hid ((w.alloc (.cells (opC o gp gc) 42)).alloc (.cells #[.int .i64 i.b, .int .i64 i.s, .int .u64 i.u] 34) = w2) := ⟨_, Lib.hid rfl⟩
 have hb : Below w.heap.size w w2 := by rw [← hw2.out]; exact hb1.trans (hb2.mono hb1.size)
 rw [hw2.out] at hO
 have hR2 := hR.below hb
 have hbo := i64_small ho.hb
 have hd := i64_small ho.hd
 have hoo := i64_small ho.ho
 have hmm := i64_small ho.hm
 have kk := hO.ck
 have kb := hO.cb
 have kd := hO.cd
 have ko := hO.co
 have km := hO.cm
 have kr := hO.cr
 have kn := hO.cn
 have kf1 := hO.cfb
 have kf2 := hO.cfs
 have kf3 := hO.cfu
 have c1 := hR2.c1
 have c2 := hR2.c2
 have c3 := hR2.c3
 have hzw : w.heap.size < w2.heap.size := cell_lt kk
 have hf1 : (s.ins ++ s.gone).length ≤ 1000 := Nat.le_trans hs.few (by omega)
 have hf2 : s.ms.length ≤ 1000 := Nat.le_trans hs.fewM (by omega)
 have hmb := ofD_bd o.b
 have hmo : i64ok (ofD o.b) := by unfold i64ok; omega
 obtain ⟨pm, hl2⟩ := hR2.memP hmo
 clear hb1 hb2 hO1
 obtain ⟨z, hz⟩ : ∃ z, Hid (s.act o i = z) := ⟨_, Lib.hid rfl⟩
 rw [hz.out]
 have e : Hid (z = s) := Lib.hid (hz.out.symm.trans (RS.act_eq s o i h1))
 rw [h1] at kk
 go_enter Tryd.func13, Tryd.ntmps13
 go_wp2_with (first | (rw [hw2.out]) | (first | (go_at_call 37; refine (of_A _ y s _).mono ?_; rintro e w' ⟨rfl, rfl⟩) | (go_at_call 38; refine (fresh_A _ y s _).mono ?_; rintro e w' ⟨rfl, rfl⟩; rw [hf.out]) | (go_at_call 122; refine (rules_A _ y s _).mono ?_; rintro e w' ⟨rfl, rfl⟩; rw [hr.out]) | fail))
 go_quiet (first | (go_at_call 37; exact Calls.quietE (of_A _ y s _)) | fail)
 have hb3 : Below w.heap.size w (w2.drewN nq) := belowN hb _
 have hR3 := hR2.drewN nq
 go_wp2_with (first | (go_at_call 37; refine (of_A _ y s _).mono ?_; rintro e w' ⟨rfl, rfl⟩) | (go_at_call 38; refine (fresh_A _ y s _).mono ?_; rintro e w' ⟨rfl, rfl⟩; rw [hf.out]) | (go_at_call 122; refine (rules_A _ y s _).mono ?_; rintro e w' ⟨rfl, rfl⟩; rw [hr.out]) | fail)
 go_returns
 rw [e.out]
 exact ⟨rfl, GoesTo.stay hR hb3⟩
set_option maxRecDepth 100000 in
set_option maxHeartbeats 8000000 in
theorem Do_no8 (w : World) (y : Lay) (s : RS) (o : OpI) (gp : Option Addr) (gc : Nat) (i : Idn) (k : Nat) (_hk : k ≤ 1000) (hR : RollAt w y s) (hs : s.Ok k) (ho : o.Ok) (h1 : o.k = 8) :
  Calls Tryd.prog 13 #[.pointer (some ⟨y.r, 0, none⟩), .agg (opC o gp gc), .agg #[.int .i64 i.b, .int .i64 i.s, .int .u64 i.u]] w fun e w' => e = .returned (.tuple #[]) ∧ GoesTo w y (s.act o i) w' := by
 have hb1 := Below.lit w (.cells (opC o gp gc) 42)
 have hb2 := Below.lit (w.alloc (.cells (opC o gp gc) 42)) (.cells #[.int .i64 i.b, .int .i64 i.s, .int .u64 i.u] 34)
 have hO1 := OpAt.made w o gp gc
 have hO := hO1.below hb2 (by simp)
 obtain ⟨w2, hw2⟩ : ∃ w2, Hid ((w.alloc (.cells (opC o gp gc) 42)).alloc (.cells #[.int .i64 i.b, .int .i64 i.s, .int .u64 i.u] 34) = w2) := ⟨_, Lib.hid rfl⟩
 have hb : Below w.heap.size w w2 := by rw [← hw2.out]; exact hb1.trans (hb2.mono hb1.size)
 rw [hw2.out] at hO
 have hR2 := hR.below hb
 have hbo := i64_small ho.hb
 have hd := i64_small ho.hd
 have hoo := i64_small ho.ho
 have hmm := i64_small ho.hm
 have kk := hO.ck
 have kb := hO.cb
 have kd := hO.cd
 have ko := hO.co
 have km := hO.cm
 have kr := hO.cr
 have kn := hO.cn
 have kf1 := hO.cfb
 have kf2 := hO.cfs
 have kf3 := hO.cfu
 have c1 := hR2.c1
 have c2 := hR2.c2
 have c3 := hR2.c3
 have hzw : w.heap.size < w2.heap.size := cell_lt kk
 have hf1 : (s.ins ++ s.gone).length ≤ 1000 := Nat.le_trans hs.few (by omega)
 have hf2 : s.ms.length ≤ 1000 := Nat.le_trans hs.fewM (by omega)
 have hmb := ofD_bd o.b
 have hmo : i64ok (ofD o.b) := by unfold i64ok; omega
 obtain ⟨pm, hl2⟩ := hR2.memP hmo
 clear hb1 hb2 hO1
 obtain ⟨z, hz⟩ : ∃ z, Hid (s.act o i = z) := ⟨_, Lib.hid rfl⟩
 rw [hz.out]
 have e : Hid (z = s) := Lib.hid (hz.out.symm.trans (RS.act_eq s o i h1))
 rw [h1] at kk
 go_enter Tryd.func13, Tryd.ntmps13
 go_wp2_with (first | (rw [hw2.out]) | (first | (go_at_call 37; refine (of_A _ y s _).mono ?_; rintro e w' ⟨rfl, rfl⟩) | (go_at_call 38; refine (fresh_A _ y s _).mono ?_; rintro e w' ⟨rfl, rfl⟩; rw [hf.out]) | (go_at_call 122; refine (rules_A _ y s _).mono ?_; rintro e w' ⟨rfl, rfl⟩; rw [hr.out]) | fail))
 go_quiet (first | (go_at_call 37; exact Calls.quietE (of_A _ y s _)) | fail)
 have hb3 : Below w.heap.size w (w2.drewN nq) := belowN hb _
 have hR3 := hR2.drewN nq
 go_wp2_with (first | (go_at_call 37; refine (of_A _ y s _).mono ?_; rintro e w' ⟨rfl, rfl⟩) | (go_at_call 38; refine (fresh_A _ y s _).mono ?_; rintro e w' ⟨rfl, rfl⟩; rw [hf.out]) | (go_at_call 122; refine (rules_A _ y s _).mono ?_; rintro e w' ⟨rfl, rfl⟩; rw [hr.out]) | fail)
 go_returns
 rw [e.out]
 exact ⟨rfl, GoesTo.stay hR hb3⟩
set_option maxRecDepth 100000 in
set_option maxHeartbeats 8000000 in
theorem Do_no10 (w : World) (y : Lay) (s : RS) (o : OpI) (gp : Option Addr) (gc : Nat) (i : Idn) (k : Nat) (_hk : k ≤ 1000) (hR : RollAt w y s) (hs : s.Ok k) (ho : o.Ok) (h1 : o.k = 10) :
  Calls Tryd.prog 13 #[.pointer (some ⟨y.r, 0, none⟩), .agg (opC o gp gc), .agg #[.int .i64 i.b, .int .i64 i.s, .int .u64 i.u]] w fun e w' => e = .returned (.tuple #[]) ∧ GoesTo w y (s.act o i) w' := by
 have hb1 := Below.lit w (.cells (opC o gp gc) 42)
 have hb2 := Below.lit (w.alloc (.cells (opC o gp gc) 42)) (.cells #[.int .i64 i.b, .int .i64 i.s, .int .u64 i.u] 34)
 have hO1 := OpAt.made w o gp gc
 have hO := hO1.below hb2 (by simp)
 obtain ⟨w2, hw2⟩ : ∃ w2, Hid ((w.alloc (.cells (opC o gp gc) 42)).alloc (.cells #[.int .i64 i.b, .int .i64 i.s, .int .u64 i.u] 34) = w2) := ⟨_, Lib.hid rfl⟩
 have hb : Below w.heap.size w w2 := by rw [← hw2.out]; exact hb1.trans (hb2.mono hb1.size)
 rw [hw2.out] at hO
 have hR2 := hR.below hb
 have hbo := i64_small ho.hb
 have hd := i64_small ho.hd
 have hoo := i64_small ho.ho
 have hmm := i64_small ho.hm
 have kk := hO.ck
 have kb := hO.cb
 have kd := hO.cd
 have ko := hO.co
 have km := hO.cm
 have kr := hO.cr
 have kn := hO.cn
 have kf1 := hO.cfb
 have kf2 := hO.cfs
 have kf3 := hO.cfu
 have c1 := hR2.c1
 have c2 := hR2.c2
 have c3 := hR2.c3
 have hzw : w.heap.size < w2.heap.size := cell_lt kk
 have hf1 : (s.ins ++ s.gone).length ≤ 1000 := Nat.le_trans hs.few (by omega)
 have hf2 : s.ms.length ≤ 1000 := Nat.le_trans hs.fewM (by omega)
 have hmb := ofD_bd o.b
 have hmo : i64ok (ofD o.b) := by unfold i64ok; omega
 obtain ⟨pm, hl2⟩ := hR2.memP hmo
 clear hb1 hb2 hO1
 obtain ⟨z, hz⟩ : ∃ z, Hid (s.act o i = z) := ⟨_, Lib.hid rfl⟩
 rw [hz.out]
 have e : Hid (z = s) := Lib.hid (hz.out.symm.trans (RS.act_eq s o i h1))
 rw [h1] at kk
 go_enter Tryd.func13, Tryd.ntmps13
 go_wp2_with (first | (rw [hw2.out]) | (first | (go_at_call 37; refine (of_A _ y s _).mono ?_; rintro e w' ⟨rfl, rfl⟩) | (go_at_call 38; refine (fresh_A _ y s _).mono ?_; rintro e w' ⟨rfl, rfl⟩; rw [hf.out]) | (go_at_call 122; refine (rules_A _ y s _).mono ?_; rintro e w' ⟨rfl, rfl⟩; rw [hr.out]) | fail))
 go_quiet (first | (go_at_call 37; exact Calls.quietE (of_A _ y s _)) | fail)
 have hb3 : Below w.heap.size w (w2.drewN nq) := belowN hb _
 have hR3 := hR2.drewN nq
 go_wp2_with (first | (go_at_call 37; refine (of_A _ y s _).mono ?_; rintro e w' ⟨rfl, rfl⟩) | (go_at_call 38; refine (fresh_A _ y s _).mono ?_; rintro e w' ⟨rfl, rfl⟩; rw [hf.out]) | (go_at_call 122; refine (rules_A _ y s _).mono ?_; rintro e w' ⟨rfl, rfl⟩; rw [hr.out]) | fail)
 go_returns
 rw [e.out]
 exact ⟨rfl, GoesTo.stay hR hb3⟩
set_option maxRecDepth 100000 in
set_option maxHeartbeats 8000000 in
theorem Do_high (w : World) (y : Lay) (s : RS) (o : OpI) (gp : Option Addr) (gc : Nat) (i : Idn) (k : Nat) (_hk : k ≤ 1000) (hR : RollAt w y s) (hs : s.Ok k) (ho : o.Ok) (h1 : 14 ≤ o.k) :
  Calls Tryd.prog 13 #[.pointer (some ⟨y.r, 0, none⟩), .agg (opC o gp gc), .agg #[.int .i64 i.b, .int .i64 i.s, .int .u64 i.u]] w fun e w' => e = .returned (.tuple #[]) ∧ GoesTo w y (s.act o i) w' := by
 have hb1 := Below.lit w (.cells (opC o gp gc) 42)
 have hb2 := Below.lit (w.alloc (.cells (opC o gp gc) 42)) (.cells #[.int .i64 i.b, .int .i64 i.s, .int .u64 i.u] 34)
 have hO1 := OpAt.made w o gp gc
 have hO := hO1.below hb2 (by simp)
 obtain ⟨w2, hw2⟩ : ∃ w2, Hid ((w.alloc (.cells (opC o gp gc) 42)).alloc (.cells #[.int .i64 i.b, .int .i64 i.s, .int .u64 i.u] 34) = w2) := ⟨_, Lib.hid rfl⟩
 have hb : Below w.heap.size w w2 := by rw [← hw2.out]; exact hb1.trans (hb2.mono hb1.size)
 rw [hw2.out] at hO
 have hR2 := hR.below hb
 have hbo := i64_small ho.hb
 have hd := i64_small ho.hd
 have hoo := i64_small ho.ho
 have hmm := i64_small ho.hm
 have kk := hO.ck
 have kb := hO.cb
 have kd := hO.cd
 have ko := hO.co
 have km := hO.cm
 have kr := hO.cr
 have kn := hO.cn
 have kf1 := hO.cfb
 have kf2 := hO.cfs
 have kf3 := hO.cfu
 have c1 := hR2.c1
 have c2 := hR2.c2
 have c3 := hR2.c3
 have hzw : w.heap.size < w2.heap.size := cell_lt kk
 have hf1 : (s.ins ++ s.gone).length ≤ 1000 := Nat.le_trans hs.few (by omega)
 have hf2 : s.ms.length ≤ 1000 := Nat.le_trans hs.fewM (by omega)
 have hmb := ofD_bd o.b
 have hmo : i64ok (ofD o.b) := by unfold i64ok; omega
 obtain ⟨pm, hl2⟩ := hR2.memP hmo
 clear hb1 hb2 hO1
 obtain ⟨z, hz⟩ : ∃ z, Hid (s.act o i = z) := ⟨_, Lib.hid rfl⟩
 rw [hz.out]
 have e : Hid (z = s) := Lib.hid (hz.out.symm.trans (by unfold RS.act; rw [if_neg (by omega), if_neg (by omega), if_neg (by omega), if_neg (by omega), if_neg (by omega), if_neg (by omega), if_neg (by omega), if_neg (by omega)]))
 have t1 : (o.k == 1) = false := beq_eq_false_iff_ne.2 (by omega)
 have t2 : (o.k == 2) = false := beq_eq_false_iff_ne.2 (by omega)
 have t3 : (o.k == 3) = false := beq_eq_false_iff_ne.2 (by omega)
 have t5 : (o.k == 5) = false := beq_eq_false_iff_ne.2 (by omega)
 have t9 : (o.k == 9) = false := beq_eq_false_iff_ne.2 (by omega)
 have t11 : (o.k == 11) = false := beq_eq_false_iff_ne.2 (by omega)
 have t12 : (o.k == 12) = false := beq_eq_false_iff_ne.2 (by omega)
 have t13 : (o.k == 13) = false := beq_eq_false_iff_ne.2 (by omega)
 go_enter Tryd.func13, Tryd.ntmps13
 go_wp2_with (first | (rw [hw2.out]) | (first | (go_at_call 37; refine (of_A _ y s _).mono ?_; rintro e w' ⟨rfl, rfl⟩) | (go_at_call 38; refine (fresh_A _ y s _).mono ?_; rintro e w' ⟨rfl, rfl⟩; rw [hf.out]) | (go_at_call 122; refine (rules_A _ y s _).mono ?_; rintro e w' ⟨rfl, rfl⟩; rw [hr.out]) | fail))
 go_quiet (first | (go_at_call 37; exact Calls.quietE (of_A _ y s _)) | fail)
 have hb3 : Below w.heap.size w (w2.drewN nq) := belowN hb _
 have hR3 := hR2.drewN nq
 go_wp2_with (first | (go_at_call 37; refine (of_A _ y s _).mono ?_; rintro e w' ⟨rfl, rfl⟩) | (go_at_call 38; refine (fresh_A _ y s _).mono ?_; rintro e w' ⟨rfl, rfl⟩; rw [hf.out]) | (go_at_call 122; refine (rules_A _ y s _).mono ?_; rintro e w' ⟨rfl, rfl⟩; rw [hr.out]) | fail)
 go_returns
 rw [e.out]
 exact ⟨rfl, GoesTo.stay hR hb3⟩
set_option maxRecDepth 100000 in
set_option maxHeartbeats 8000000 in
theorem Do_add (w : World) (y : Lay) (s : RS) (o : OpI) (gp : Option Addr) (gc : Nat) (i : Idn) (k : Nat) (_hk : k ≤ 1000) (hR : RollAt w y s) (hs : s.Ok k) (ho : o.Ok) (h1 : o.k = 2) :
  Calls Tryd.prog 13 #[.pointer (some ⟨y.r, 0, none⟩), .agg (opC o gp gc), .agg #[.int .i64 i.b, .int .i64 i.s, .int .u64 i.u]] w fun e w' => e = .returned (.tuple #[]) ∧ GoesTo w y (s.act o i) w' := by
 have hb1 := Below.lit w (.cells (opC o gp gc) 42)
 have hb2 := Below.lit (w.alloc (.cells (opC o gp gc) 42)) (.cells #[.int .i64 i.b, .int .i64 i.s, .int .u64 i.u] 34)
 have hO1 := OpAt.made w o gp gc
 have hO := hO1.below hb2 (by simp)
 obtain ⟨w2, hw2⟩ : ∃ w2, Hid ((w.alloc (.cells (opC o gp gc) 42)).alloc (.cells #[.int .i64 i.b, .int .i64 i.s, .int .u64 i.u] 34) = w2) := ⟨_, Lib.hid rfl⟩
 have hb : Below w.heap.size w w2 := by rw [← hw2.out]; exact hb1.trans (hb2.mono hb1.size)
 rw [hw2.out] at hO
 have hR2 := hR.below hb
 have hbo := i64_small ho.hb
 have hd := i64_small ho.hd
 have hoo := i64_small ho.ho
 have hmm := i64_small ho.hm
 have kk := hO.ck
 have kb := hO.cb
 have kd := hO.cd
 have ko := hO.co
 have km := hO.cm
 have kr := hO.cr
 have kn := hO.cn
 have kf1 := hO.cfb
 have kf2 := hO.cfs
 have kf3 := hO.cfu
 have c1 := hR2.c1
 have c2 := hR2.c2
 have c3 := hR2.c3
 have hzw : w.heap.size < w2.heap.size := cell_lt kk
 have hf1 : (s.ins ++ s.gone).length ≤ 1000 := Nat.le_trans hs.few (by omega)
 have hf2 : s.ms.length ≤ 1000 := Nat.le_trans hs.fewM (by omega)
 have hmb := ofD_bd o.b
 have hmo : i64ok (ofD o.b) := by unfold i64ok; omega
 obtain ⟨pm, hl2⟩ := hR2.memP hmo
 clear hb1 hb2 hO1
 obtain ⟨z, hz⟩ : ∃ z, Hid (s.act o i = z) := ⟨_, Lib.hid rfl⟩
 rw [hz.out]
 have e : Hid (z = s.comes o.d o.r) := Lib.hid (hz.out.symm.trans (RS.act_eq s o i h1))
 rw [h1] at kk
 go_enter Tryd.func13, Tryd.ntmps13
 go_wp2_with (first | (rw [hw2.out]) | (first | (go_at_call 37; refine (of_A _ y s _).mono ?_; rintro e w' ⟨rfl, rfl⟩) | (go_at_call 38; refine (fresh_A _ y s _).mono ?_; rintro e w' ⟨rfl, rfl⟩; rw [hf.out]) | (go_at_call 122; refine (rules_A _ y s _).mono ?_; rintro e w' ⟨rfl, rfl⟩; rw [hr.out]) | fail))
 go_quiet (first | (go_at_call 37; exact Calls.quietE (of_A _ y s _)) | fail)
 have hb3 : Below w.heap.size w (w2.drewN nq) := belowN hb _
 have hR3 := hR2.drewN nq
 go_wp2_with (first | (go_at_call 39; refine (comes_any _ y s _ _ (by assumption) (by assumption) hf1 hf2).mono ?_; rintro e w4 ⟨rfl, hG⟩) | (first | (go_at_call 37; refine (of_A _ y s _).mono ?_; rintro e w' ⟨rfl, rfl⟩) | (go_at_call 38; refine (fresh_A _ y s _).mono ?_; rintro e w' ⟨rfl, rfl⟩; rw [hf.out]) | (go_at_call 122; refine (rules_A _ y s _).mono ?_; rintro e w' ⟨rfl, rfl⟩; rw [hr.out]) | fail))
 go_returns
 rw [e.out]
 exact ⟨rfl, hG.after hb3⟩
set_option maxRecDepth 100000 in
set_option maxHeartbeats 8000000 in
theorem Do_promote (w : World) (y : Lay) (s : RS) (o : OpI) (gp : Option Addr) (gc : Nat) (i : Idn) (k : Nat) (_hk : k ≤ 1000) (hR : RollAt w y s) (hs : s.Ok k) (ho : o.Ok) (h1 : o.k = 5) :
  Calls Tryd.prog 13 #[.pointer (some ⟨y.r, 0, none⟩), .agg (opC o gp gc), .agg #[.int .i64 i.b, .int .i64 i.s, .int .u64 i.u]] w fun e w' => e = .returned (.tuple #[]) ∧ GoesTo w y (s.act o i) w' := by
 have hb1 := Below.lit w (.cells (opC o gp gc) 42)
 have hb2 := Below.lit (w.alloc (.cells (opC o gp gc) 42)) (.cells #[.int .i64 i.b, .int .i64 i.s, .int .u64 i.u] 34)
 have hO1 := OpAt.made w o gp gc
 have hO := hO1.below hb2 (by simp)
 obtain ⟨w2, hw2⟩ : ∃ w2, Hid ((w.alloc (.cells (opC o gp gc) 42)).alloc (.cells #[.int .i64 i.b, .int .i64 i.s, .int .u64 i.u] 34) = w2) := ⟨_, Lib.hid rfl⟩
 have hb : Below w.heap.size w w2 := by rw [← hw2.out]; exact hb1.trans (hb2.mono hb1.size)
 rw [hw2.out] at hO
 have hR2 := hR.below hb
 have hbo := i64_small ho.hb
 have hd := i64_small ho.hd
 have hoo := i64_small ho.ho
 have hmm := i64_small ho.hm
 have kk := hO.ck
 have kb := hO.cb
 have kd := hO.cd
 have ko := hO.co
 have km := hO.cm
 have kr := hO.cr
 have kn := hO.cn
 have kf1 := hO.cfb
 have kf2 := hO.cfs
 have kf3 := hO.cfu
 have c1 := hR2.c1
 have c2 := hR2.c2
 have c3 := hR2.c3
 have hzw : w.heap.size < w2.heap.size := cell_lt kk
 have hf1 : (s.ins ++ s.gone).length ≤ 1000 := Nat.le_trans hs.few (by omega)
 have hf2 : s.ms.length ≤ 1000 := Nat.le_trans hs.fewM (by omega)
 have hmb := ofD_bd o.b
 have hmo : i64ok (ofD o.b) := by unfold i64ok; omega
 obtain ⟨pm, hl2⟩ := hR2.memP hmo
 clear hb1 hb2 hO1
 obtain ⟨z, hz⟩ : ∃ z, Hid (s.act o i = z) := ⟨_, Lib.hid rfl⟩
 rw [hz.out]
 have e0 : s.act o i = s.doPromote o := RS.act_eq s o i h1
 rw [h1] at kk
 rcases hR2.memN hmm with ⟨g1, hq, hq2⟩ | ⟨x, hx, hxn, g1, hq, hq2⟩
 ·have e : Hid (z = s) := Lib.hid (hz.out.symm.trans (e0.trans (by unfold RS.doPromote; rw [g1])))
  go_enter Tryd.func13, Tryd.ntmps13
  go_wp2_with (first | (rw [hw2.out]) | (first | (go_at_call 37; refine (of_A _ y s _).mono ?_; rintro e w' ⟨rfl, rfl⟩) | (go_at_call 38; refine (fresh_A _ y s _).mono ?_; rintro e w' ⟨rfl, rfl⟩; rw [hf.out]) | (go_at_call 122; refine (rules_A _ y s _).mono ?_; rintro e w' ⟨rfl, rfl⟩; rw [hr.out]) | fail))
  go_quiet (first | (go_at_call 37; exact Calls.quietE (of_A _ y s _)) | fail)
  have hb3 : Below w.heap.size w (w2.drewN nq) := belowN hb _
  have hR3 := hR2.drewN nq
  go_wp2_with (first | (go_at_call 37; refine (of_A _ y s _).mono ?_; rintro e w' ⟨rfl, rfl⟩) | (go_at_call 38; refine (fresh_A _ y s _).mono ?_; rintro e w' ⟨rfl, rfl⟩; rw [hf.out]) | (go_at_call 122; refine (rules_A _ y s _).mono ?_; rintro e w' ⟨rfl, rfl⟩; rw [hr.out]) | fail)
  go_quiet (first | (go_at_call 37; exact Calls.quietE (of_A _ y s _)) | fail)
  go_wp2_with (first | (go_at_call 37; refine (of_A _ y s _).mono ?_; rintro e w' ⟨rfl, rfl⟩) | (go_at_call 38; refine (fresh_A _ y s _).mono ?_; rintro e w' ⟨rfl, rfl⟩; rw [hf.out]) | (go_at_call 122; refine (rules_A _ y s _).mono ?_; rintro e w' ⟨rfl, rfl⟩; rw [hr.out]) | fail)
  go_returns
  rw [e.out]
  exact ⟨rfl, GoesTo.stay hR (belowN hb _)⟩
 ·have e : Hid (z = s.setM x.n ⟨o.r, x.m.g⟩) := Lib.hid (hz.out.symm.trans (e0.trans (by unfold RS.doPromote; rw [g1, hxn])))
  have x0 := (hR2.mb x hx).c0
  have xf := (hR2.mb x hx).free 0
  replace g1 := Lib.hid g1
  replace hxn := Lib.hid hxn
  go_enter Tryd.func13, Tryd.ntmps13
  go_wp2_with (first | (rw [hw2.out]) | (first | (go_at_call 37; refine (of_A _ y s _).mono ?_; rintro e w' ⟨rfl, rfl⟩) | (go_at_call 38; refine (fresh_A _ y s _).mono ?_; rintro e w' ⟨rfl, rfl⟩; rw [hf.out]) | (go_at_call 122; refine (rules_A _ y s _).mono ?_; rintro e w' ⟨rfl, rfl⟩; rw [hr.out]) | fail))
  go_quiet (first | (go_at_call 37; exact Calls.quietE (of_A _ y s _)) | fail)
  have hb3 : Below w.heap.size w (w2.drewN nq) := belowN hb _
  have hR3 := hR2.drewN nq
  go_wp2_with (first | (go_at_call 37; refine (of_A _ y s _).mono ?_; rintro e w' ⟨rfl, rfl⟩) | (go_at_call 38; refine (fresh_A _ y s _).mono ?_; rintro e w' ⟨rfl, rfl⟩; rw [hf.out]) | (go_at_call 122; refine (rules_A _ y s _).mono ?_; rintro e w' ⟨rfl, rfl⟩; rw [hr.out]) | fail)
  go_quiet (first | (go_at_call 37; exact Calls.quietE (of_A _ y s _)) | fail)
  go_wp2_with (first | (go_at_call 37; refine (of_A _ y s _).mono ?_; rintro e w' ⟨rfl, rfl⟩) | (go_at_call 38; refine (fresh_A _ y s _).mono ?_; rintro e w' ⟨rfl, rfl⟩; rw [hf.out]) | (go_at_call 122; refine (rules_A _ y s _).mono ?_; rintro e w' ⟨rfl, rfl⟩; rw [hr.out]) | fail)
  go_returns
  rw [e.out]
  exact ⟨rfl, GoesTo.after ((hR2.drewN _).setR hx o.r) (belowN hb _)⟩
set_option maxRecDepth 100000 in
set_option maxHeartbeats 8000000 in
theorem Do_create (w : World) (y : Lay) (s : RS) (o : OpI) (gp : Option Addr) (gc : Nat) (i : Idn) (k : Nat) (_hk : k ≤ 1000) (hR : RollAt w y s) (hs : s.Ok k) (ho : o.Ok) (h1 : o.k = 1) :
  Calls Tryd.prog 13 #[.pointer (some ⟨y.r, 0, none⟩), .agg (opC o gp gc), .agg #[.int .i64 i.b, .int .i64 i.s, .int .u64 i.u]] w fun e w' => e = .returned (.tuple #[]) ∧ GoesTo w y (s.act o i) w' := by
 have hb1 := Below.lit w (.cells (opC o gp gc) 42)
 have hb2 := Below.lit (w.alloc (.cells (opC o gp gc) 42)) (.cells #[.int .i64 i.b, .int .i64 i.s, .int .u64 i.u] 34)
 have hO1 := OpAt.made w o gp gc
 have hO := hO1.below hb2 (by simp)
 obtain ⟨w2, hw2⟩ : ∃ w2, Hid ((w.alloc (.cells (opC o gp gc) 42)).alloc (.cells #[.int .i64 i.b, .int .i64 i.s, .int .u64 i.u] 34) = w2) := ⟨_, Lib.hid rfl⟩
 have hb : Below w.heap.size w w2 := by rw [← hw2.out]; exact hb1.trans (hb2.mono hb1.size)
 rw [hw2.out] at hO
 have hR2 := hR.below hb
 have hbo := i64_small ho.hb
 have hd := i64_small ho.hd
 have hoo := i64_small ho.ho
 have hmm := i64_small ho.hm
 have kk := hO.ck
 have kb := hO.cb
 have kd := hO.cd
 have ko := hO.co
 have km := hO.cm
 have kr := hO.cr
 have kn := hO.cn
 have kf1 := hO.cfb
 have kf2 := hO.cfs
 have kf3 := hO.cfu
 have c1 := hR2.c1
 have c2 := hR2.c2
 have c3 := hR2.c3
 have hzw : w.heap.size < w2.heap.size := cell_lt kk
 have hf1 : (s.ins ++ s.gone).length ≤ 1000 := Nat.le_trans hs.few (by omega)
 have hf2 : s.ms.length ≤ 1000 := Nat.le_trans hs.fewM (by omega)
 have hmb := ofD_bd o.b
 have hmo : i64ok (ofD o.b) := by unfold i64ok; omega
 obtain ⟨pm, hl2⟩ := hR2.memP hmo
 clear hb1 hb2 hO1
 obtain ⟨z, hz⟩ : ∃ z, Hid (s.act o i = z) := ⟨_, Lib.hid rfl⟩
 rw [hz.out]
 have e0 : s.act o i = s.doCreate o := RS.act_eq s o i h1
 rw [h1] at kk
 have hlen := hR2.was.len (K := KI) Tryd.underlying78 3
 rw [show (setV (s.ins ++ s.gone)).length = (s.ins ++ s.gone).length by unfold setV; rw [List.length_map]] at hlen
 have hlenN := fun n => (hR2.drewN n).was.len (K := KI) Tryd.underlying78 3
 rw [show (setV (s.ins ++ s.gone)).length = (s.ins ++ s.gone).length by unfold setV; rw [List.length_map]] at hlenN
 by_cases hw : s.ins ++ s.gone = []
 ·rw [hw] at hlenN
  replace hlenN : ∀ n, (Builtin.len_ #[78] 3 #[.map (some y.w)]).run Tryd.prog (w2.drewN n) = .ok (.int .i64 0) (w2.drewN n) := hlenN
  clear hlen
  cases hf : s.fresh o.b with
  | false =>
   have e : Hid (z = s) := Lib.hid (hz.out.symm.trans (e0.trans (by unfold RS.doCreate; rw [if_neg (by rw [hf]; simp)])))
   replace hf := Lib.hid hf
   replace hw := Lib.hid hw
   go_enter Tryd.func13, Tryd.ntmps13
   go_wp2_with (first | (rw [hw2.out]) | (first | (go_at_call 37; refine (of_A _ y s _).mono ?_; rintro e w' ⟨rfl, rfl⟩) | (go_at_call 38; refine (fresh_A _ y s _).mono ?_; rintro e w' ⟨rfl, rfl⟩; rw [hf.out]) | (go_at_call 122; refine (rules_A _ y s _).mono ?_; rintro e w' ⟨rfl, rfl⟩; rw [hr.out]) | fail))
   go_quiet (first | (go_at_call 37; exact Calls.quietE (of_A _ y s _)) | fail)
   have hb3 : Below w.heap.size w (w2.drewN nq) := belowN hb _
   have hR3 := hR2.drewN nq
   go_wp2_with (first | (go_at_call 37; refine (of_A _ y s _).mono ?_; rintro e w' ⟨rfl, rfl⟩) | (go_at_call 38; refine (fresh_A _ y s _).mono ?_; rintro e w' ⟨rfl, rfl⟩; rw [hf.out]) | (go_at_call 122; refine (rules_A _ y s _).mono ?_; rintro e w' ⟨rfl, rfl⟩; rw [hr.out]) | fail)
   go_returns
   rw [e.out]
   exact ⟨rfl, GoesTo.stay hR hb3⟩
  | true =>
   have e : Hid (z = ⟨(s.comes o.b 3).ins, (s.comes o.b 3).gone, (s.comes o.b 3).ms, o.n⟩) := Lib.hid (hz.out.symm.trans (e0.trans (by unfold RS.doCreate; rw [if_pos ⟨hw, hf⟩])))
   replace hf := Lib.hid hf
   replace hw := Lib.hid hw
   go_enter Tryd.func13, Tryd.ntmps13
   go_wp2_with (first | (rw [hw2.out]) | (first | (go_at_call 37; refine (of_A _ y s _).mono ?_; rintro e w' ⟨rfl, rfl⟩) | (go_at_call 38; refine (fresh_A _ y s _).mono ?_; rintro e w' ⟨rfl, rfl⟩; rw [hf.out]) | (go_at_call 122; refine (rules_A _ y s _).mono ?_; rintro e w' ⟨rfl, rfl⟩; rw [hr.out]) | fail))
   go_quiet (first | (go_at_call 37; exact Calls.quietE (of_A _ y s _)) | fail)
   have hb3 : Below w.heap.size w (w2.drewN nq) := belowN hb _
   have hR3 := hR2.drewN nq
   go_wp2_with (first | (go_at_call 37; refine (of_A _ y s _).mono ?_; rintro e w' ⟨rfl, rfl⟩) | (go_at_call 38; refine (fresh_A _ y s _).mono ?_; rintro e w' ⟨rfl, rfl⟩; rw [hf.out]) | (go_at_call 122; refine (rules_A _ y s _).mono ?_; rintro e w' ⟨rfl, rfl⟩; rw [hr.out]) | fail)
   refine (comes_any _ y s _ _ hR3 hbo hf1 hf2).mono ?_
   rintro e' w4 ⟨rfl, y4, hR4, hr4, hT4⟩
   have hz4 : w.heap.size ∉ y.foot := fun h => Nat.lt_irrefl _ (hR.lt _ h)
   have kn4 : w4.cell? ⟨w.heap.size, 16 + 4, none⟩ = some (.int .i64 o.n) := by
    have e4 : w4.heap[w.heap.size]? = w2.heap[w.heap.size]? := hT4.blk _ hzw hz4
    unfold World.cell? at kn ⊢
    rw [e4]; exact kn
   have x4 := hR4.c4
   have xf := hR4.free 4
   rw [hr4] at x4 xf
   go_wp2_with fail
   go_returns
   rw [e.out]
   refine ⟨rfl, GoesTo.after ?_ hb3⟩
   have hS := hR4.setB o.n
   rw [hr4] at hS
   exact ⟨y4, hS.1, hr4, hT4.trans (hS.2.turn (by unfold Lay.foot; rw [hr4]; simp) fun _ h => h)⟩
 ·have hl : 0 < (s.ins ++ s.gone).length := List.length_pos_iff.2 hw
  obtain ⟨n, hn⟩ : ∃ n, Hid ((s.ins ++ s.gone).length = n) := ⟨_, Lib.hid rfl⟩
  rw [hn.out] at hlen hl
  rw [hn.out] at hlenN
  have t2 : ((n : Int) == 0) = false := beq_eq_false_iff_ne.2 (by omega)
  have e : Hid (z = s) := Lib.hid (hz.out.symm.trans (e0.trans (by unfold RS.doCreate; rw [if_neg (fun h => hw h.1)])))
  replace hw := Lib.hid hw
  go_enter Tryd.func13, Tryd.ntmps13
  go_wp2_with (first | (rw [hw2.out]) | (first | (go_at_call 37; refine (of_A _ y s _).mono ?_; rintro e w' ⟨rfl, rfl⟩) | (go_at_call 38; refine (fresh_A _ y s _).mono ?_; rintro e w' ⟨rfl, rfl⟩; rw [hf.out]) | (go_at_call 122; refine (rules_A _ y s _).mono ?_; rintro e w' ⟨rfl, rfl⟩; rw [hr.out]) | fail))
  go_quiet (first | (go_at_call 37; exact Calls.quietE (of_A _ y s _)) | fail)
  have hb3 : Below w.heap.size w (w2.drewN nq) := belowN hb _
  have hR3 := hR2.drewN nq
  go_wp2_with (first | (go_at_call 37; refine (of_A _ y s _).mono ?_; rintro e w' ⟨rfl, rfl⟩) | (go_at_call 38; refine (fresh_A _ y s _).mono ?_; rintro e w' ⟨rfl, rfl⟩; rw [hf.out]) | (go_at_call 122; refine (rules_A _ y s _).mono ?_; rintro e w' ⟨rfl, rfl⟩; rw [hr.out]) | fail)
  go_returns
  rw [e.out]
  exact ⟨rfl, GoesTo.stay hR hb3⟩
theorem Turn.cell {w w' : World} {F F' : List Nat} (h : Turn w w' F F') {a : Addr} {v : Value} (hc : w.cell? a = some v) (hf : a.block ∉ F) : w'.cell? a = some v := by
 have := h.blk a.block (cell_lt hc) hf
 rw [← hc]
 unfold World.cell?
 rw [this]
theorem goAll_snoc (s : RS) (m : Int) (l : List Int) (d : Int) : s.goAll m (l ++ [d]) = if ofD d = m then (s.goAll m l).goes d else s.goAll m l := by
 unfold RS.goAll
 rw [List.foldl_append]
 rfl
theorem take_nth {l : List Int} {j : Nat} (h : j < l.length) : l.take (j + 1) = l.take j ++ [nth l j] := by
 rw [List.take_add_one, List.getElem?_eq_getElem h, ← nth_eq h]; rfl
set_option maxRecDepth 100000 in
set_option maxHeartbeats 8000000 in
theorem Do_removeOne (w : World) (y : Lay) (s : RS) (o : OpI) (gp : Option Addr) (gc : Nat) (i : Idn) (k : Nat) (_hk : k ≤ 1000) (hR : RollAt w y s) (hs : s.Ok k) (ho : o.Ok) (h1 : o.k = 3) (h0 : o.d ≠ 0) :
  Calls Tryd.prog 13 #[.pointer (some ⟨y.r, 0, none⟩), .agg (opC o gp gc), .agg #[.int .i64 i.b, .int .i64 i.s, .int .u64 i.u]] w fun e w' => e = .returned (.tuple #[]) ∧ GoesTo w y (s.act o i) w' := by
 have hb1 := Below.lit w (.cells (opC o gp gc) 42)
 have hb2 := Below.lit (w.alloc (.cells (opC o gp gc) 42)) (.cells #[.int .i64 i.b, .int .i64 i.s, .int .u64 i.u] 34)
 have hO1 := OpAt.made w o gp gc
 have hO := hO1.below hb2 (by simp)
 obtain ⟨w2, hw2⟩ : ∃ w2, Hid ((w.alloc (.cells (opC o gp gc) 42)).alloc (.cells #[.int .i64 i.b, .int .i64 i.s, .int .u64 i.u] 34) = w2) := ⟨_, Lib.hid rfl⟩
 have hb : Below w.heap.size w w2 := by rw [← hw2.out]; exact hb1.trans (hb2.mono hb1.size)
 rw [hw2.out] at hO
 have hR2 := hR.below hb
 have hbo := i64_small ho.hb
 have hd := i64_small ho.hd
 have hoo := i64_small ho.ho
 have hmm := i64_small ho.hm
 have kk := hO.ck
 have kb := hO.cb
 have kd := hO.cd
 have ko := hO.co
 have km := hO.cm
 have kr := hO.cr
 have kn := hO.cn
 have kf1 := hO.cfb
 have kf2 := hO.cfs
 have kf3 := hO.cfu
 have c1 := hR2.c1
 have c2 := hR2.c2
 have c3 := hR2.c3
 have hzw : w.heap.size < w2.heap.size := cell_lt kk
 have hf1 : (s.ins ++ s.gone).length ≤ 1000 := Nat.le_trans hs.few (by omega)
 have hf2 : s.ms.length ≤ 1000 := Nat.le_trans hs.fewM (by omega)
 have hmb := ofD_bd o.b
 have hmo : i64ok (ofD o.b) := by unfold i64ok; omega
 obtain ⟨pm, hl2⟩ := hR2.memP hmo
 clear hb1 hb2 hO1
 obtain ⟨z, hz⟩ : ∃ z, Hid (s.act o i = z) := ⟨_, Lib.hid rfl⟩
 rw [hz.out]
 have e : Hid (z = s.goes o.d) := Lib.hid (hz.out.symm.trans (by rw [RS.act_eq s o i h1]; exact if_pos h0))
 rw [h1] at kk
 have t : (o.d != 0) = true := bne_iff_ne.2 h0
 replace h0 := Lib.hid h0
 go_enter Tryd.func13, Tryd.ntmps13
 go_wp2_with (first | (rw [hw2.out]) | (first | (go_at_call 37; refine (of_A _ y s _).mono ?_; rintro e w' ⟨rfl, rfl⟩) | (go_at_call 38; refine (fresh_A _ y s _).mono ?_; rintro e w' ⟨rfl, rfl⟩; rw [hf.out]) | (go_at_call 122; refine (rules_A _ y s _).mono ?_; rintro e w' ⟨rfl, rfl⟩; rw [hr.out]) | fail))
 go_quiet (first | (go_at_call 37; exact Calls.quietE (of_A _ y s _)) | fail)
 have hb3 : Below w.heap.size w (w2.drewN nq) := belowN hb _
 have hR3 := hR2.drewN nq
 go_wp2_with (first | (go_at_call 40; refine (goes_any _ y s _ (by assumption) (by assumption)).mono ?_; rintro e w4 ⟨rfl, hG⟩) | (first | (go_at_call 37; refine (of_A _ y s _).mono ?_; rintro e w' ⟨rfl, rfl⟩) | (go_at_call 38; refine (fresh_A _ y s _).mono ?_; rintro e w' ⟨rfl, rfl⟩; rw [hf.out]) | (go_at_call 122; refine (rules_A _ y s _).mono ?_; rintro e w' ⟨rfl, rfl⟩; rw [hr.out]) | fail))
 go_returns
 rw [e.out]
 exact ⟨rfl, hG.after hb3⟩
end Go.Proofs.YtkolilbebkkpdaaDoor

namespace Go.Proofs.YtkolilbebkkpdaaDoor
open Go.RowKit Go.Maps

set_option maxRecDepth 100000 in
set_option maxHeartbeats 8000000 in
theorem Do_removeAll (w : World) (y : Lay) (s : RS) (o : OpI) (gp : Option Addr) (gc : Nat) (i : Idn) (k : Nat) (_hk : k ≤ 1000) (hR : RollAt w y s) (hs : s.Ok k) (ho : o.Ok) (h1 : o.k = 3) (h0 : o.d = 0) :
  Calls Tryd.prog 13 #[.pointer (some ⟨y.r, 0, none⟩), .agg (opC o gp gc), .agg #[.int .i64 i.b, .int .i64 i.s, .int .u64 i.u]] w fun e w' => e = .returned (.tuple #[]) ∧ GoesTo w y (s.act o i) w' := by
 have hb1 := Below.lit w (.cells (opC o gp gc) 42)
 have hb2 := Below.lit (w.alloc (.cells (opC o gp gc) 42)) (.cells #[.int .i64 i.b, .int .i64 i.s, .int .u64 i.u] 34)
 have hO1 := OpAt.made w o gp gc
 have hO := hO1.below hb2 (by simp)
 obtain ⟨w2, hw2⟩ : ∃ w2, Hid ((w.alloc (.cells (opC o gp gc) 42)).alloc (.cells #[.int .i64 i.b, .int .i64 i.s, .int .u64 i.u] 34) = w2) := ⟨_, Lib.hid rfl⟩
 have hb : Below w.heap.size w w2 := by rw [← hw2.out]; exact hb1.trans (hb2.mono hb1.size)
 rw [hw2.out] at hO
 have hR2 := hR.below hb
 have hbo := i64_small ho.hb
 have hd := i64_small ho.hd
 have hoo := i64_small ho.ho
 have hmm := i64_small ho.hm
 have kk := hO.ck
 have kb := hO.cb
 have kd := hO.cd
 have ko := hO.co
 have km := hO.cm
 have kr := hO.cr
 have kn := hO.cn
 have kf1 := hO.cfb
 have kf2 := hO.cfs
 have kf3 := hO.cfu
 have c1 := hR2.c1
 have c2 := hR2.c2
 have c3 := hR2.c3
 have hzw : w.heap.size < w2.heap.size := cell_lt kk
 have hf1 : (s.ins ++ s.gone).length ≤ 1000 := Nat.le_trans hs.few (by omega)
 have hf2 : s.ms.length ≤ 1000 := Nat.le_trans hs.fewM (by omega)
 have hmb := ofD_bd o.b
 have hmo : i64ok (ofD o.b) := by unfold i64ok; omega
 obtain ⟨pm, hl2⟩ := hR2.memP hmo
 clear hb1 hb2 hO1
 obtain ⟨z, hz⟩ : ∃ z, Hid (s.act o i = z) := ⟨_, Lib.hid rfl⟩
 rw [hz.out]
 have e : Hid (z = s.goAll o.m (sortI s.ins)) := Lib.hid (hz.out.symm.trans (by rw [RS.act_eq s o i h1]; exact (if_neg (Classical.not_not.2 h0) : (if o.d ≠ 0 then s.goes o.d else s.goAll o.m (sortI s.ins)) = _)))
 rw [h1] at kk
 rw [h0] at kd
 replace h0 := Lib.hid h0
 go_enter Tryd.func13, Tryd.ntmps13
 go_wp2_with (first | (rw [hw2.out]) | (first | (go_at_call 37; refine (of_A _ y s _).mono ?_; rintro e w' ⟨rfl, rfl⟩) | (go_at_call 38; refine (fresh_A _ y s _).mono ?_; rintro e w' ⟨rfl, rfl⟩; rw [hf.out]) | (go_at_call 122; refine (rules_A _ y s _).mono ?_; rintro e w' ⟨rfl, rfl⟩; rw [hr.out]) | fail))
 go_quiet (first | (go_at_call 37; exact Calls.quietE (of_A _ y s _)) | fail)
 have hb3 : Below w.heap.size w (w2.drewN nq) := belowN hb _
 have hR3 := hR2.drewN nq
 go_wp2_with (first | (go_at_call 37; refine (of_A _ y s _).mono ?_; rintro e w' ⟨rfl, rfl⟩) | (go_at_call 38; refine (fresh_A _ y s _).mono ?_; rintro e w' ⟨rfl, rfl⟩; rw [hf.out]) | (go_at_call 122; refine (rules_A _ y s _).mono ?_; rintro e w' ⟨rfl, rfl⟩; rw [hr.out]) | fail)
 refine (Devices_any _ y s k hR3 hs).mono ?_
 rintro e' w4 ⟨p, c, rfl, hu, hf, hb4⟩
 have hfoot : ∀ b, w.heap.size ≤ b → b ∉ y.foot := fun b hb h => by have := hR.lt _ h; omega
 have hz3 : w.heap.size ≤ (w2.drewN nq).heap.size := hb.size
 have hR4 := hR3.below hb4
 have km4 := (hb4.cell (p := ⟨w.heap.size, 7, none⟩) hzw).trans (show (w2.drewN nq).cell? ⟨w.heap.size, 7, none⟩ = _ from km)
 obtain ⟨ds, hds⟩ : ∃ ds, Hid (sortI s.ins = ds) := ⟨_, Lib.hid rfl⟩
 obtain ⟨n, hn⟩ : ∃ n, Hid (s.ins.length = n) := ⟨_, Lib.hid rfl⟩
 rw [hds.out, hn.out] at hu
 rw [hn.out]
 have hnn : n ≤ 7 := by have := hs.few; rw [List.length_append, hn.out] at this; omega
 rw [hds.out] at e
 have hlen := hu.len
 clear hl2 kk kb kd ko km kr kn kf1 kf2 kf3 c1 c2 c3 hO
 replace hlen := Lib.hid hlen
 replace hnn := Lib.hid hnn
 replace hfoot := Lib.hid hfoot
 replace hf := Lib.hid hf
 go_wp2_with fail
 go_loopw [71] (fun v wr => ∃ j : Nat, j ≤ n ∧ v = .int .i64 j ∧ ∃ y', RollAt wr y' (s.goAll o.m (ds.take j)) ∧ y'.r = y.r ∧ Turn w4 wr y.foot y'.foot)
  (fun v _ => n - (intOf v).toNat)
 case atStart => exact ⟨0, Nat.zero_le _, rfl, y, hR4, rfl, Turn.refl _ _⟩
 case round =>
  obtain ⟨j, hj, rfl, y5, hR5, hr5, hT5⟩ := hrel
  by_cases hlt : j < n
  ·obtain ⟨b, off, rfl, hbl, hc, hd0, hd1⟩ := hu.look hlt
   have hc5 := hT5.cell hc (hfoot.out b (Nat.le_trans hz3 (hf.out _ rfl)))
   have km5 := hT5.cell km4 (hfoot.out _ (Nat.le_refl _))
   have hix1 : (j : Int) < (n : Int) := by omega
   have hjb : (j : Int) ≤ 1000 := by have := hnn.out; omega
   have hdk : i64ok (nth ds j) := ⟨hd0, hd1⟩
   have htk : Hid (ds.take (j + 1) = ds.take j ++ [nth ds j]) := Lib.hid (take_nth (by rw [hlen.out]; exact hlt))
   by_cases hof : ofD (nth ds j) = o.m
   ·have t : (ofD (nth ds j) == o.m) = true := beq_iff_eq.2 hof
    have hgo : Hid (s.goAll o.m (ds.take (j + 1)) = (s.goAll o.m (ds.take j)).goes (nth ds j)) := Lib.hid (by rw [htk.out, goAll_snoc, if_pos hof])
    clear hof
    rw [← hr5]
    replace hr5 := Lib.hid hr5
    go_wp2_with fail
    go_quiet ((go_at_call 37; exact Calls.quietE (of_any _ y5 _ _ (RollAt.drewN hR5 _) hdk)))
    go_wp2_with (first | (go_at_call 40; refine (goes_any _ y5 _ _ (RollAt.drewN hR5 _) hdk).mono ?_; rintro e w6 ⟨rfl, y6, hR6, hr6, hT6⟩) | fail)
    rw [hr5.out]
    go_roundw
    case rel => exact ⟨j + 1, by omega, by go_num, y6, by rw [hgo.out]; exact hR6, hr6.trans hr5.out, hT5.trans ((Turn.of_below (belowN (Below.refl _ _) _)).trans hT6)⟩
    case measure => simp [intOf]; omega
   ·have t : (ofD (nth ds j) == o.m) = false := beq_eq_false_iff_ne.2 hof
    have hgo : Hid (s.goAll o.m (ds.take (j + 1)) = s.goAll o.m (ds.take j)) := Lib.hid (by rw [htk.out, goAll_snoc, if_neg hof])
    clear hof
    rw [← hr5]
    replace hr5 := Lib.hid hr5
    go_wp2_with fail
    go_quiet ((go_at_call 37; exact Calls.quietE (of_any _ y5 _ _ (RollAt.drewN hR5 _) hdk)))
    go_wp2_with fail
    rw [hr5.out]
    go_roundw
    case rel => exact ⟨j + 1, by omega, by go_num, y5, by rw [hgo.out]; exact RollAt.drewN hR5 _, hr5.out, hT5.trans (Turn.of_below (belowN (Below.refl _ _) _))⟩
    case measure => simp [intOf]; omega
  ·have hjn : j = n := by omega
   have hall : Hid (ds.take j = ds) := Lib.hid (List.take_of_length_le (by rw [hlen.out]; omega))
   go_wp2_with fail
   go_returns
   rw [e.out]
   rw [hall.out] at hR5
   exact ⟨rfl, GoesTo.after ⟨y5, hR5, hr5, hT5⟩ (hb3.trans (hb4.mono hb3.size))⟩
end Go.Proofs.YtkolilbebkkpdaaDoor

namespace Go.Proofs.YtkolilbebkkpdaaDoor
open Go.RowKit Go.Maps

theorem still_of {P : Program} {f : FuncId} {args : Array Value} {w : World} {v : Value} (h : Calls P f args w fun e w' => e = .returned v ∧ w = w') : Calls P f args w fun e w' => e = .returned v ∧ w' = w :=
 h.mono fun _ _ ⟨h1, h2⟩ => ⟨h1, h2.symm⟩
set_option maxRecDepth 100000 in
set_option maxHeartbeats 8000000 in
theorem Do_replace (w : World) (y : Lay) (s : RS) (o : OpI) (gp : Option Addr) (gc : Nat) (i : Idn) (k : Nat) (_hk : k ≤ 1000) (hR : RollAt w y s) (hs : s.Ok k) (ho : o.Ok) (h1 : o.k = 13) :
  Calls Tryd.prog 13 #[.pointer (some ⟨y.r, 0, none⟩), .agg (opC o gp gc), .agg #[.int .i64 i.b, .int .i64 i.s, .int .u64 i.u]] w fun e w' => e = .returned (.tuple #[]) ∧ GoesTo w y (s.act o i) w' := by
 have hb1 := Below.lit w (.cells (opC o gp gc) 42)
 have hb2 := Below.lit (w.alloc (.cells (opC o gp gc) 42)) (.cells #[.int .i64 i.b, .int .i64 i.s, .int .u64 i.u] 34)
 have hO1 := OpAt.made w o gp gc
 have hO := hO1.below hb2 (by simp)
 obtain ⟨w2, hw2⟩ : ∃ w2, Hid ((w.alloc (.cells (opC o gp gc) 42)).alloc (.cells #[.int .i64 i.b, .int .i64 i.s, .int .u64 i.u] 34) = w2) := ⟨_, Lib.hid rfl⟩
 have hb : Below w.heap.size w w2 := by rw [← hw2.out]; exact hb1.trans (hb2.mono hb1.size)
 rw [hw2.out] at hO
 have hR2 := hR.below hb
 have hbo := i64_small ho.hb
 have hd := i64_small ho.hd
 have hoo := i64_small ho.ho
 have hmm := i64_small ho.hm
 have kk := hO.ck
 have kb := hO.cb
 have kd := hO.cd
 have ko := hO.co
 have km := hO.cm
 have kr := hO.cr
 have kn := hO.cn
 have kf1 := hO.cfb
 have kf2 := hO.cfs
 have kf3 := hO.cfu
 have c1 := hR2.c1
 have c2 := hR2.c2
 have c3 := hR2.c3
 have hzw : w.heap.size < w2.heap.size := cell_lt kk
 have hf1 : (s.ins ++ s.gone).length ≤ 1000 := Nat.le_trans hs.few (by omega)
 have hf2 : s.ms.length ≤ 1000 := Nat.le_trans hs.fewM (by omega)
 have hmb := ofD_bd o.b
 have hmo : i64ok (ofD o.b) := by unfold i64ok; omega
 obtain ⟨pm, hl2⟩ := hR2.memP hmo
 clear hb1 hb2 hO1
 obtain ⟨z, hz⟩ : ∃ z, Hid (s.act o i = z) := ⟨_, Lib.hid rfl⟩
 rw [hz.out]
 have e0 : s.act o i = s.doReplace o := RS.act_eq s o i h1
 rw [h1] at kk
 have hwb := RS.whose_bd hs o.f
 obtain ⟨wv, hwv⟩ : ∃ wv, Hid (s.whose o.f = wv) := ⟨_, Lib.hid rfl⟩
 rw [hwv.out] at hwb
 go_enter Tryd.func13, Tryd.ntmps13
 go_wp2_with (first | (rw [hw2.out]) | (first | (go_at_call 37; refine (of_A _ y s _).mono ?_; rintro e w' ⟨rfl, rfl⟩) | (go_at_call 38; refine (fresh_A _ y s _).mono ?_; rintro e w' ⟨rfl, rfl⟩; rw [hf.out]) | (go_at_call 122; refine (rules_A _ y s _).mono ?_; rintro e w' ⟨rfl, rfl⟩; rw [hr.out]) | fail))
 go_quiet (first | (go_at_call 37; exact Calls.quietE (of_A _ y s _)) | fail)
 have hb3 : Below w.heap.size w (w2.drewN nq) := belowN hb _
 have hR3 := hR2.drewN nq
 go_wp2_with (first | (go_at_call 37; refine (of_A _ y s _).mono ?_; rintro e w' ⟨rfl, rfl⟩) | (go_at_call 38; refine (fresh_A _ y s _).mono ?_; rintro e w' ⟨rfl, rfl⟩; rw [hf.out]) | (go_at_call 122; refine (rules_A _ y s _).mono ?_; rintro e w' ⟨rfl, rfl⟩; rw [hr.out]) | fail)
 refine (whose_any _ y s o.f hR3 hs.ids).mono ?_
 rintro e' w4 ⟨rfl, hb4⟩
 rw [hwv.out]
 have hB4 := hb3.trans (hb4.mono hb3.size)
 have hR4 := hR3.below hb4
 have ko4 := (hb4.cell (p := ⟨w.heap.size, 6, none⟩) hzw).trans (show (w2.drewN nq).cell? ⟨w.heap.size, 6, none⟩ = _ from ko)
 have kd4 := (hb4.cell (p := ⟨w.heap.size, 5, none⟩) hzw).trans (show (w2.drewN nq).cell? ⟨w.heap.size, 5, none⟩ = _ from kd)
 have hzw4 : w.heap.size < w4.heap.size := cell_lt ko4
 clear hl2 kk kb kd ko km kr kn kf1 kf2 kf3 c1 c2 c3 hO hR2
 have c1 := hR4.c1
 by_cases h0 : 0 < wv
 ·cases hi : s.inB o.o with
  | false =>
   have e : Hid (z = s) := Lib.hid (hz.out.symm.trans (e0.trans (by unfold RS.doReplace; rw [if_neg (fun h => by have := h.2.1; unfold RS.inB at hi; simp only [decide_eq_false_iff_not] at hi; exact hi this)])))
   obtain ⟨hl, hl2⟩ := hR4.innN hoo hi
   replace hi := Lib.hid hi
   go_wp2_with fail
   go_quiet (first | (go_at_call 37; exact Calls.quietE (of_A _ y s _)) | fail)
   go_wp2_with fail
   go_returns
   rw [e.out]
   exact ⟨rfl, GoesTo.stay hR (belowN hB4 _)⟩
  | true =>
   obtain ⟨hl, hl2⟩ := hR4.innN hoo hi
   have hin : Hid (o.o ∈ s.ins) := Lib.hid (of_decide_eq_true hi)
   replace hi := Lib.hid hi
   by_cases hu : ofD o.o = wv
   ·have t1 : (ofD o.o == wv) = true := beq_iff_eq.2 hu
    by_cases hv : ofD o.d = wv
    ·have t2 : (ofD o.d == wv) = true := beq_iff_eq.2 hv
     have e : Hid (z = (s.comes o.d (s.role (ofD o.d))).goes o.o) := Lib.hid (hz.out.symm.trans (e0.trans (by unfold RS.doReplace; rw [if_pos (by rw [hwv.out]; exact ⟨h0, hin.out, hu, hv⟩)])))
     have hdm : i64ok (ofD o.d) := by rw [hv]; unfold i64ok; omega
     replace hu := Lib.hid hu
     replace hv := Lib.hid hv
     go_wp2_with fail
     go_quiet (first | (go_at_call 37; exact Calls.quietE (of_A _ y s _)) | fail)
     go_wp2_with fail
     have kd5 : (w4.drewN nq).cell? ⟨w.heap.size, 5, none⟩ = some (.int .i64 o.d) := kd4
     have ko5 : (w4.drewN nq).cell? ⟨w.heap.size, 6, none⟩ = some (.int .i64 o.o) := ko4
     have hRq := hR4.drewN nq
     have hBq := belowN hB4 nq
     obtain ⟨w5, hw5⟩ : ∃ w5, Hid (w4.drewN nq = w5) := ⟨_, Lib.hid rfl⟩
     rw [hw5.out] at kd5 ko5 hRq hBq
     rw [hw5.out]
     have hR5 : RollAt w5.drew y s := hRq.drew
     refine wp_region_still_tail 9 (by kernel_rfl) (by kernel_rfl) ?_
     simp only [List.take_succ_cons, List.take_zero, List.drop_succ_cons, List.drop_zero]
     repeat (first
      | still_step
      | (still_call (still_of (of_any _ y s _ hR5 hd)))
      | (still_call (still_of (Role_any _ y s _ hR5 hdm))))
     refine wpStill_nil ?_
     change wpList _ _ _ _ _ w5.drew
     have hB5 : Below w.heap.size w w5.drew := hBq.drew
     go_wp2_with fail
     refine (comes_any _ y s _ _ hR5 hd hf1 hf2).mono ?_
     rintro e' w6 ⟨rfl, y6, hR6, hr6, hT6⟩
     have hz6 : w.heap.size ∉ y.foot := fun h => Nat.lt_irrefl _ (hR.lt _ h)
     have ko6 := hT6.cell (show w5.drew.cell? ⟨w.heap.size, 6, none⟩ = _ from ko5) hz6
     rw [← hr6]
     replace hr6 := Lib.hid hr6
     go_wp2_with (first
      | (go_at_call 40; refine (goes_any _ y6 _ _ hR6 hoo).mono ?_; rintro e w7 ⟨rfl, y7, hR7, hr7, hT7⟩)
      | fail)
     go_returns
     rw [e.out]
     exact ⟨rfl, GoesTo.after ⟨y7, hR7, hr7.trans hr6.out, hT6.trans hT7⟩ hB5⟩
    ·have t2 : (ofD o.d == wv) = false := beq_eq_false_iff_ne.2 hv
     have e : Hid (z = s) := Lib.hid (hz.out.symm.trans (e0.trans (by unfold RS.doReplace; rw [if_neg (by rw [hwv.out]; exact fun h => hv h.2.2.2)])))
     replace hu := Lib.hid hu
     clear hv
     go_wp2_with fail
     go_quiet (first | (go_at_call 37; exact Calls.quietE (of_A _ y s _)) | fail)
     go_wp2_with fail
     go_returns
     rw [e.out]
     exact ⟨rfl, GoesTo.stay hR (belowN hB4 _)⟩
   ·have t1 : (ofD o.o == wv) = false := beq_eq_false_iff_ne.2 hu
    have e : Hid (z = s) := Lib.hid (hz.out.symm.trans (e0.trans (by unfold RS.doReplace; rw [if_neg (by rw [hwv.out]; exact fun h => hu h.2.2.1)])))
    clear hu
    go_wp2_with fail
    go_quiet (first | (go_at_call 37; exact Calls.quietE (of_A _ y s _)) | fail)
    go_wp2_with fail
    go_returns
    rw [e.out]
    exact ⟨rfl, GoesTo.stay hR (belowN hB4 _)⟩
 ·have e : Hid (z = s) := Lib.hid (hz.out.symm.trans (e0.trans (by unfold RS.doReplace; rw [if_neg (by rw [hwv.out]; exact fun h => h0 h.1)])))
  have hw0 : wv = 0 := by omega
  subst hw0
  clear h0
  go_wp2_with fail
  go_quiet (first | (go_at_call 37; exact Calls.quietE (of_A _ y s _)) | fail)
  go_wp2_with fail
  go_returns
  rw [e.out]
  exact ⟨rfl, GoesTo.stay hR (belowN hB4 _)⟩
end Go.Proofs.YtkolilbebkkpdaaDoor

namespace Go.Proofs.YtkolilbebkkpdaaDoor
open Go.RowKit Go.Maps

theorem guards_ok {s : RS} {o : OpI} (h : (s.guards o).2 = 0) : ∃ p ∈ s.ms, (s.guards o).1 = p.1 ∧ ∃ d, p.2.g = some d := by
 rcases s.whose_cases o.f with ⟨h0, _⟩ | ⟨p, hp, hid, h0⟩
 ·unfold RS.guards at h
  rw [if_pos h0] at h
  cases h
 ·cases hg : p.2.g with
  | none => rw [hg] at hid; cases hid
  | some d =>
   refine ⟨p, hp, ?_, d, hg⟩
   unfold RS.guards at h ⊢
   by_cases hz : s.whose o.f = 0
   ·rw [if_pos hz] at h; cases h
   ·rw [if_neg hz] at h ⊢
    unfold grd1 at h ⊢
    split
    ·rename_i g hg2
     rw [hg2] at h
     simp only at h
     by_cases hb : o.b ∈ g.gs
     ·rw [if_pos hb]; exact h0
     ·rw [if_neg hb] at h; cases h
    ·rename_i hg2
     rw [hg2] at h
     cases h
theorem setM_same {s : RS} (hn : (s.ms.map Prod.fst).Nodup) {n : Int} {m : Mb} (h : (n, m) ∈ s.ms) : s.setM n m = s := by
 unfold RS.setM
 have e : (s.ms.map fun p => if p.1 = n then (n, m) else p) = s.ms := by
  refine (List.map_congr_left fun p hp => ?_).trans (List.map_id' s.ms)
  by_cases e : p.1 = n
  ·rw [if_pos e]
   have h1 := lk_of_mem hn h
   have h2 := lk_of_mem hn (show (p.1, p.2) ∈ s.ms from hp)
   rw [e, h1] at h2
   injection h2 with h2
   exact Prod.ext e.symm h2
  ·rw [if_neg e]
 rw [e]
theorem lk_voV (vo : List ((Int × Int) × Int)) (k : Int × Int) : lk (voV vo) k = (lk vo k).map (Value.int .i64) := lk_map (Value.int .i64) vo k
theorem putL_voV (vo : List ((Int × Int) × Int)) (k : Int × Int) (t : Int) : putL (voV vo) k (.int .i64 t) = voV (putL vo k t) := by
 unfold putL
 rw [lk_voV]
 cases h : lk vo k with
 | none => simp [voV]
 | some u =>
  simp only [Option.map_some, Option.isSome_some, if_true]
  unfold voV
  rw [List.map_map, List.map_map]
  refine List.map_congr_left fun p _ => ?_
  show (if p.1 = k then (k, Value.int .i64 t) else (p.1, Value.int .i64 p.2)) = ((if p.1 = k then (k, t) else p).1, Value.int .i64 (if p.1 = k then (k, t) else p).2)
  by_cases e : p.1 = k
  ·rw [if_pos e, if_pos e]
  ·rw [if_neg e, if_neg e]
theorem cells2 (w : World) (t : TypeId) (u v : Value) : (w.alloc (.cells #[u, v] t)).cell? ⟨w.heap.size, 0, none⟩ = some u ∧ (w.alloc (.cells #[u, v] t)).cell? ⟨w.heap.size, 1, none⟩ = some v := by
 have hA := Arr.new w t [u, v]
 exact ⟨hA.cell (i := 0) (by simp), hA.cell (i := 1) (by simp)⟩
/-- A vouch more. -/
theorem RollAt.vouch {w : World} {y : Lay} {s : RS} (h : RollAt w y s) {x : MRec} (hx : x ∈ y.l) {d : Gd} (hg : x.m.g = some d) {w' : World} (hB : But w w' x.v) {o : OpI} (hv : vouchG d o = ⟨d.id, d.gs, d.n, d.t, putL d.vo (o.b, o.d) o.a, d.ob, d.la⟩) (hM : MapV KV w' x.v (putL (voV d.vo) (o.b, o.d) (.int .i64 o.a))) :
  ∃ y', RollAt w' y' (s.setM x.n ⟨x.m.r, some (vouchG d o)⟩) ∧ y'.r = y.r ∧ Turn w w' y.foot y'.foot := by
 have hm := h.mb x hx
 have hD := hm.gd d hg
 have hnf := h.mfoot hx
 have hf : x.foot = [x.a, x.g, x.v, x.e] := by unfold MRec.foot gfoot; rw [hg]
 have hf' : (⟨x.n, ⟨x.m.r, some (vouchG d o)⟩, x.a, x.g, x.v, x.e, x.c⟩ : MRec).foot = x.foot := by rw [hf]; rfl
 rw [hf] at hnf
 simp only [List.nodup_cons, List.mem_cons, List.not_mem_nil, or_false, not_or] at hnf
 obtain ⟨⟨n1, n2, n3⟩, ⟨n4, n5⟩, n6, _⟩ := hnf
 refine h.updM (x' := ⟨x.n, ⟨x.m.r, some (vouchG d o)⟩, x.a, x.g, x.v, x.e, x.c⟩) hx (b := x.v) (by rw [hf]; simp) hB rfl rfl ⟨?_, fun g hgg => ?_⟩ (by rw [hf']; exact h.mfoot hx) (fun i hi => .inl (by rw [hf'] at hi; exact hi))
 ·have := hm.blk
  rw [hg] at this
  exact (hB.blk _ (blk_lt hm.blk) n2).trans this
 ·have hgg' : vouchG d o = g := by injection hgg
  subst hgg'
  rw [hv]
  refine ⟨(hB.blk _ (blk_lt hD.blk) n4).trans hD.blk, hD.gs.block (hB.blk _ hD.lt (fun e => n6 e.symm)), Nat.lt_of_lt_of_le hD.lt hB.size, hD.cap, ?_⟩
  show MapV KV w' x.v (voV (putL d.vo (o.b, o.d) o.a))
  rw [← putL_voV]
  exact hM
set_option maxRecDepth 100000 in
set_option maxHeartbeats 8000000 in
theorem Do_vouch (w : World) (y : Lay) (s : RS) (o : OpI) (gp : Option Addr) (gc : Nat) (i : Idn) (k : Nat) (hk : k ≤ 1000) (hR : RollAt w y s) (hs : s.Ok k) (ho : o.Ok) (h1 : o.k = 11) :
  Calls Tryd.prog 13 #[.pointer (some ⟨y.r, 0, none⟩), .agg (opC o gp gc), .agg #[.int .i64 i.b, .int .i64 i.s, .int .u64 i.u]] w fun e w' => e = .returned (.tuple #[]) ∧ GoesTo w y (s.act o i) w' := by
 have hb1 := Below.lit w (.cells (opC o gp gc) 42)
 have hb2 := Below.lit (w.alloc (.cells (opC o gp gc) 42)) (.cells #[.int .i64 i.b, .int .i64 i.s, .int .u64 i.u] 34)
 have hO1 := OpAt.made w o gp gc
 have hO := hO1.below hb2 (by simp)
 obtain ⟨w2, hw2⟩ : ∃ w2, Hid ((w.alloc (.cells (opC o gp gc) 42)).alloc (.cells #[.int .i64 i.b, .int .i64 i.s, .int .u64 i.u] 34) = w2) := ⟨_, Lib.hid rfl⟩
 have hb : Below w.heap.size w w2 := by rw [← hw2.out]; exact hb1.trans (hb2.mono hb1.size)
 rw [hw2.out] at hO
 have hR2 := hR.below hb
 have hbo := i64_small ho.hb
 have hd := i64_small ho.hd
 have hoo := i64_small ho.ho
 have hmm := i64_small ho.hm
 have kk := hO.ck
 have kb := hO.cb
 have kd := hO.cd
 have ko := hO.co
 have km := hO.cm
 have kr := hO.cr
 have kn := hO.cn
 have kf1 := hO.cfb
 have kf2 := hO.cfs
 have kf3 := hO.cfu
 have c1 := hR2.c1
 have c2 := hR2.c2
 have c3 := hR2.c3
 have hzw : w.heap.size < w2.heap.size := cell_lt kk
 have hf1 : (s.ins ++ s.gone).length ≤ 1000 := Nat.le_trans hs.few (by omega)
 have hf2 : s.ms.length ≤ 1000 := Nat.le_trans hs.fewM (by omega)
 have hmb := ofD_bd o.b
 have hmo : i64ok (ofD o.b) := by unfold i64ok; omega
 obtain ⟨pm, hl2⟩ := hR2.memP hmo
 clear hb1 hb2 hO1
 obtain ⟨z, hz⟩ : ∃ z, Hid (s.act o i = z) := ⟨_, Lib.hid rfl⟩
 rw [hz.out]
 have e0 : s.act o i = s.doVouch o := RS.act_eq s o i h1
 rw [h1] at kk
 have ka := hO.ca
 have hgb := guards_bd hs o
 obtain ⟨g1, hg1⟩ : ∃ g1, Hid ((s.guards o).1 = g1) := ⟨_, Lib.hid rfl⟩
 obtain ⟨g2, hg2⟩ : ∃ g2, Hid ((s.guards o).2 = g2) := ⟨_, Lib.hid rfl⟩
 rw [hg1.out] at hgb
 have hgo : i64ok g1 := by unfold i64ok; omega
 go_enter Tryd.func13, Tryd.ntmps13
 go_wp2_with (first | (rw [hw2.out]) | (first | (go_at_call 37; refine (of_A _ y s _).mono ?_; rintro e w' ⟨rfl, rfl⟩) | (go_at_call 38; refine (fresh_A _ y s _).mono ?_; rintro e w' ⟨rfl, rfl⟩; rw [hf.out]) | (go_at_call 122; refine (rules_A _ y s _).mono ?_; rintro e w' ⟨rfl, rfl⟩; rw [hr.out]) | fail))
 go_quiet (first | (go_at_call 37; exact Calls.quietE (of_A _ y s _)) | fail)
 have hb3 : Below w.heap.size w (w2.drewN nq) := belowN hb _
 have hR3 := hR2.drewN nq
 have hO3 : OpAt (w2.drewN nq) w.heap.size o gp gc := hO
 go_wp2_with (first | (refine wpList_load_row rfl 42 _ rfl w.heap.size rfl 42 (opC o gp gc) (0, 0) _ hO3 Tryd.underlying42 rfl (by kernel_rfl) ?_) | fail)
 refine (guards_any _ y s o gp gc k hR3 hs).mono ?_
 rintro e' w4 ⟨rfl, hb4⟩
 rw [hg1.out, hg2.out]
 have hB4 := hb3.trans (hb4.mono hb3.size)
 have hR4 := hR3.below hb4
 have ka4 := (hb4.cell (p := ⟨w.heap.size, 3, none⟩) hzw).trans (show (w2.drewN nq).cell? ⟨w.heap.size, 3, none⟩ = _ from ka)
 have kb4 := (hb4.cell (p := ⟨w.heap.size, 0, none⟩) hzw).trans (show (w2.drewN nq).cell? ⟨w.heap.size, 0, none⟩ = _ from kb)
 have kd4 := (hb4.cell (p := ⟨w.heap.size, 5, none⟩) hzw).trans (show (w2.drewN nq).cell? ⟨w.heap.size, 5, none⟩ = _ from kd)
 have hzw4 : w.heap.size < w4.heap.size := cell_lt ka4
 clear hl2 kk kb kd ko km kr kn kf1 kf2 kf3 c1 c2 c3 hO hR2 ka hO3
 have c3 := hR4.c3
 by_cases hz2 : g2 = 0
 ·have t1 : (g2 == 0) = true := beq_iff_eq.2 hz2
  obtain ⟨p, hp, hp1, d, hgd⟩ := guards_ok (hg2.out.trans hz2)
  rw [hg1.out] at hp1
  obtain ⟨x, hx, rfl⟩ := hR4.ofS hp
  simp only at hp1 hgd
  have hdk := hs.gd _ hp d hgd
  have hM := hR4.mb x hx
  have q1 := hM.c1
  rw [hgd] at q1
  replace q1 : w4.cell? ⟨x.a, 1, none⟩ = some (.pointer (some ⟨x.g, 0, none⟩)) := q1
  have hD := hM.gd d hgd
  have q4 := hD.c6
  have hl : (Instr.lookup 79 (.map (some y.m)) (.int .i64 g1) false).run Tryd.prog w4 = .ok (.pointer (some ⟨x.a, 0, none⟩)) w4 := by
   rcases hR4.mem hgo with ⟨h5, _⟩ | ⟨u, hu, hun, _, hl⟩
   ·have := lk_of_mem hR4.msnd (hR4.memS hx)
    rw [← hp1, RS.memb.eq_def] at *
    rw [this] at h5; cases h5
   ·rwa [hR4.same hu hx (hun.trans hp1)] at hl
  have hms : s.memb g1 = some x.m := by rw [hp1]; exact lk_of_mem hR4.msnd (hR4.memS hx)
  have hmx : x.m = ⟨x.m.r, some d⟩ := by cases hm : x.m; rw [hm] at hgd; simp only at hgd; rw [hgd]
  have e1 : Hid (z = s.setM x.n ⟨x.m.r, some (vouchG d o)⟩) := Lib.hid (hz.out.symm.trans (e0.trans (by
   unfold RS.doVouch
   rw [if_pos (hg2.out.trans hz2), hg1.out, hms, hmx, hp1])))
  have hbw := Below.lit w4 (.cells #[.int .i64 o.b, .int .i64 o.d] 93)
  obtain ⟨v0, v1⟩ := cells2 w4 93 (.int .i64 o.b) (.int .i64 o.d)
  have hR5 := hR4.below hbw
  have hD5 := ((hR5.mb x hx).gd d hgd)
  have r4 := hD5.c6
  have ka5 := (hbw.cell (p := ⟨w.heap.size, 3, none⟩) hzw4).trans ka4
  have hB5 := hB4.trans (hbw.mono hB4.size)
  have hkv : KV.ok (o.b, o.d) := ⟨hbo, hd⟩
  have hlen : (voV d.vo).length ≤ 1000000 := by unfold voV; rw [List.length_map]; have := hdk.vl; omega
  have hlk : ∀ j, (Instr.lookup 88 (.map (some x.v)) (.agg #[.int .i64 o.b, .int .i64 o.d]) true).run Tryd.prog ((w4.alloc (.cells #[.int .i64 o.b, .int .i64 o.d] 93)).drewN j) = .ok (.tuple #[lkv (voV d.vo) (o.b, o.d) (.int .i64 0), .bool (lk (voV d.vo) (o.b, o.d)).isSome]) ((w4.alloc (.cells #[.int .i64 o.b, .int .i64 o.d] 93)).drewN j) := fun j =>
   (show MapV KV ((w4.alloc (.cells #[.int .i64 o.b, .int .i64 o.d] 93)).drewN j) x.v (voV d.vo) from hD5.vo.keep rfl).look_ok (K := KV) Tryd.underlying88 (zero_int _) hkv
  unfold lkv at hlk
  rw [lk_voV] at hlk
  replace hms := Lib.hid hms
  replace hmx := Lib.hid hmx
  replace hgd := Lib.hid hgd
  replace hp1 := Lib.hid hp1
  replace hz2 := Lib.hid hz2
  cases hvo : lk d.vo (o.b, o.d) with
  | none =>
   rw [hvo] at hlk
   replace hlk : ∀ j, (Instr.lookup 88 (.map (some x.v)) (.agg #[.int .i64 o.b, .int .i64 o.d]) true).run Tryd.prog ((w4.alloc (.cells #[.int .i64 o.b, .int .i64 o.d] 93)).drewN j) = .ok (.tuple #[.int .i64 0, .bool false]) ((w4.alloc (.cells #[.int .i64 o.b, .int .i64 o.d] 93)).drewN j) := hlk
   have hvg : vouchG d o = ⟨d.id, d.gs, d.n, d.t, putL d.vo (o.b, o.d) o.a, d.ob, d.la⟩ := by unfold vouchG; rw [hvo]
   replace hvo := Lib.hid hvo
   replace hvg := Lib.hid hvg
   go_wp2_with fail
   go_quiet (fail)
   go_wp2_with fail
   have hRq := hR5.drewN nq
   have hBq := belowN hB5 nq
   have p0 : ((w4.alloc (.cells #[.int .i64 o.b, .int .i64 o.d] 93)).drewN nq).cell? ⟨w4.heap.size, 0, none⟩ = some (.int .i64 o.b) := v0
   have p1 : ((w4.alloc (.cells #[.int .i64 o.b, .int .i64 o.d] 93)).drewN nq).cell? ⟨w4.heap.size, 1, none⟩ = some (.int .i64 o.d) := v1
   have p2 : ((w4.alloc (.cells #[.int .i64 o.b, .int .i64 o.d] 93)).drewN nq).cell? ⟨x.g, 6, none⟩ = some (.map (some x.v)) := r4
   have p3 : ((w4.alloc (.cells #[.int .i64 o.b, .int .i64 o.d] 93)).drewN nq).cell? ⟨w.heap.size, 3, none⟩ = some (.int .i64 o.a) := ka5
   obtain ⟨w6, hw6⟩ : ∃ w6, Hid ((w4.alloc (.cells #[.int .i64 o.b, .int .i64 o.d] 93)).drewN nq = w6) := ⟨_, Lib.hid rfl⟩
   rw [hw6.out] at hRq hBq p0 p1 p2 p3
   rw [hw6.out]
   refine wp_region_still_tail 7 (by kernel_rfl) (by kernel_rfl) ?_
   simp only [List.take_succ_cons, List.take_zero, List.drop_succ_cons, List.drop_zero]
   repeat still_step
   refine wpStill_nil ?_
   change wpList _ _ _ _ _ w6.drew
   have hR7 : RollAt w6.drew y s := hRq.drew
   have hB7 : Below w.heap.size w w6.drew := hBq.drew
   have hD7 := (hR7.mb x hx).gd d hgd.out
   go_wp2_with (first
    | (at_mapUpdate; refine wp_upd (K := KV) _ rfl _ _ _ 88 rfl 3 Tryd.underlying88 x.v (voV d.vo) hlen rfl hD7.vo (o.b, o.d) (.int .i64 o.a) rfl rfl hkv ?_; intro w8 hM8 hB8 hz8)
    | fail)
   go_returns
   rw [e1.out]
   exact ⟨rfl, GoesTo.after (hR7.vouch hx hgd.out hB8 hvg.out hM8) hB7⟩
  | some t =>
   rw [hvo] at hlk
   replace hlk : ∀ j, (Instr.lookup 88 (.map (some x.v)) (.agg #[.int .i64 o.b, .int .i64 o.d]) true).run Tryd.prog ((w4.alloc (.cells #[.int .i64 o.b, .int .i64 o.d] 93)).drewN j) = .ok (.tuple #[.int .i64 t, .bool true]) ((w4.alloc (.cells #[.int .i64 o.b, .int .i64 o.d] 93)).drewN j) := hlk
   by_cases hlt : o.a < t
   ·have hvg : vouchG d o = ⟨d.id, d.gs, d.n, d.t, putL d.vo (o.b, o.d) o.a, d.ob, d.la⟩ := by unfold vouchG; rw [hvo]; exact if_pos hlt
    replace hvo := Lib.hid hvo
    replace hvg := Lib.hid hvg
    go_wp2_with fail
    go_quiet (fail)
    go_wp2_with fail
    have hRq := hR5.drewN nq
    have hBq := belowN hB5 nq
    have p0 : ((w4.alloc (.cells #[.int .i64 o.b, .int .i64 o.d] 93)).drewN nq).cell? ⟨w4.heap.size, 0, none⟩ = some (.int .i64 o.b) := v0
    have p1 : ((w4.alloc (.cells #[.int .i64 o.b, .int .i64 o.d] 93)).drewN nq).cell? ⟨w4.heap.size, 1, none⟩ = some (.int .i64 o.d) := v1
    have p2 : ((w4.alloc (.cells #[.int .i64 o.b, .int .i64 o.d] 93)).drewN nq).cell? ⟨x.g, 6, none⟩ = some (.map (some x.v)) := r4
    have p3 : ((w4.alloc (.cells #[.int .i64 o.b, .int .i64 o.d] 93)).drewN nq).cell? ⟨w.heap.size, 3, none⟩ = some (.int .i64 o.a) := ka5
    obtain ⟨w6, hw6⟩ : ∃ w6, Hid ((w4.alloc (.cells #[.int .i64 o.b, .int .i64 o.d] 93)).drewN nq = w6) := ⟨_, Lib.hid rfl⟩
    rw [hw6.out] at hRq hBq p0 p1 p2 p3
    rw [hw6.out]
    refine wp_region_still_tail 7 (by kernel_rfl) (by kernel_rfl) ?_
    simp only [List.take_succ_cons, List.take_zero, List.drop_succ_cons, List.drop_zero]
    repeat still_step
    refine wpStill_nil ?_
    change wpList _ _ _ _ _ w6.drew
    have hR7 : RollAt w6.drew y s := hRq.drew
    have hB7 : Below w.heap.size w w6.drew := hBq.drew
    have hD7 := (hR7.mb x hx).gd d hgd.out
    go_wp2_with (first
     | (at_mapUpdate; refine wp_upd (K := KV) _ rfl _ _ _ 88 rfl 3 Tryd.underlying88 x.v (voV d.vo) hlen rfl hD7.vo (o.b, o.d) (.int .i64 o.a) rfl rfl hkv ?_; intro w8 hM8 hB8 hz8)
     | fail)
    go_returns
    rw [e1.out]
    exact ⟨rfl, GoesTo.after (hR7.vouch hx hgd.out hB8 hvg.out hM8) hB7⟩
   ·have hvg : vouchG d o = d := by unfold vouchG; rw [hvo]; exact if_neg hlt
    have e : Hid (z = s) := Lib.hid (by rw [e1.out, hvg]; exact setM_same hR4.msnd (by rw [← hmx.out]; exact hp))
    replace hvo := Lib.hid hvo
    replace hvg := Lib.hid hvg
    go_wp2_with fail
    go_quiet (fail)
    go_wp2_with fail
    go_returns
    rw [e.out]
    exact ⟨rfl, GoesTo.stay hR (belowN hB5 _)⟩
 ·have t1 : (g2 == 0) = false := beq_eq_false_iff_ne.2 hz2
  have e : Hid (z = s) := Lib.hid (hz.out.symm.trans (e0.trans (by unfold RS.doVouch; rw [if_neg (by rw [hg2.out]; exact hz2)])))
  clear hz2
  go_wp2_with fail
  go_returns
  rw [e.out]
  exact ⟨rfl, GoesTo.stay hR hB4⟩
end Go.Proofs.YtkolilbebkkpdaaDoor

namespace Go.Proofs.YtkolilbebkkpdaaDoor
open Go.RowKit Go.Maps

theorem setCell_blk {w : World} {b : Nat} {cs : Array Value} {t : TypeId} {fr : Nat × Nat} (h : w.heap[b]? = some (.cells cs t fr)) (i : Nat) (v : Value) : (w.setCell ⟨b, i, none⟩ v).heap[b]? = some (.cells (cs.setIfInBounds i v) t fr) := by
 show (w.heap.modify b _)[b]? = _
 rw [Array.getElem?_modify, if_pos rfl, h]; rfl
theorem GoesTo.drew {w w' : World} {y : Lay} {s : RS} (h : GoesTo w y s w') : GoesTo w y s w'.drew := by
 obtain ⟨y', h1, h2, h3⟩ := h
 exact ⟨y', h1.drew, h2, h3.trans (Turn.of_below (Below.refl _ _).drew)⟩
theorem nameW {p : World → Prop} {w : World} (h : p w) : ∃ w', Hid (w = w') ∧ p w' := ⟨w, Lib.hid rfl, h⟩
/-- An objection. -/
theorem RollAt.object {w : World} {y : Lay} {s : RS} (h : RollAt w y s) {x : MRec} (hx : x ∈ y.l) {d : Gd} (hg : x.m.g = some d) (o : OpI) :
  ∃ y', RollAt ((w.setCell ⟨x.g, 7, none⟩ (.bool true)).setCell ⟨x.g, 8, none⟩ (.int .i64 (max d.la o.a))) y' (s.setM x.n ⟨x.m.r, some (objG d o)⟩) ∧ y'.r = y.r ∧ Turn w ((w.setCell ⟨x.g, 7, none⟩ (.bool true)).setCell ⟨x.g, 8, none⟩ (.int .i64 (max d.la o.a))) y.foot y'.foot := by
 have hB : But w ((w.setCell ⟨x.g, 7, none⟩ (.bool true)).setCell ⟨x.g, 8, none⟩ (.int .i64 (max d.la o.a))) x.g := (But.of_grown (grown_cell w x.g 7 _)).trans (But.of_grown (grown_cell _ x.g 8 _))
 have hm := h.mb x hx
 have hD := hm.gd d hg
 have hnf := h.mfoot hx
 have hf : x.foot = [x.a, x.g, x.v, x.e] := by unfold MRec.foot gfoot; rw [hg]
 have hf' : (⟨x.n, ⟨x.m.r, some (objG d o)⟩, x.a, x.g, x.v, x.e, x.c⟩ : MRec).foot = x.foot := by rw [hf]; rfl
 rw [hf] at hnf
 simp only [List.nodup_cons, List.mem_cons, List.not_mem_nil, or_false, not_or] at hnf
 obtain ⟨⟨n1, n2, n3⟩, ⟨n4, n5⟩, n6, _⟩ := hnf
 refine h.updM (x' := ⟨x.n, ⟨x.m.r, some (objG d o)⟩, x.a, x.g, x.v, x.e, x.c⟩) hx (b := x.g) (by rw [hf]; simp) hB rfl rfl ⟨?_, fun g hgg => ?_⟩ (by rw [hf']; exact h.mfoot hx) (fun i hi => .inl (by rw [hf'] at hi; exact hi))
 ·have := hm.blk
  rw [hg] at this
  exact (hB.blk _ (blk_lt hm.blk) n1).trans this
 ·have hgg' : objG d o = g := by injection hgg
  subst hgg'
  refine ⟨?_, hD.gs.block (hB.blk _ hD.lt (fun e => n5 e.symm)), Nat.lt_of_lt_of_le hD.lt hB.size, hD.cap, hD.vo.keep (hB.blk _ hD.vo.lt (fun e => n4 e.symm))⟩
  have h1 := setCell_blk (setCell_blk hD.blk 7 (.bool true)) 8 (.int .i64 (max d.la o.a))
  exact h1
set_option maxRecDepth 100000 in
set_option maxHeartbeats 8000000 in
theorem Do_object (w : World) (y : Lay) (s : RS) (o : OpI) (gp : Option Addr) (gc : Nat) (i : Idn) (k : Nat) (_hk : k ≤ 1000) (hR : RollAt w y s) (hs : s.Ok k) (ho : o.Ok) (h1 : o.k = 12) :
  Calls Tryd.prog 13 #[.pointer (some ⟨y.r, 0, none⟩), .agg (opC o gp gc), .agg #[.int .i64 i.b, .int .i64 i.s, .int .u64 i.u]] w fun e w' => e = .returned (.tuple #[]) ∧ GoesTo w y (s.act o i) w' := by
 have hb1 := Below.lit w (.cells (opC o gp gc) 42)
 have hb2 := Below.lit (w.alloc (.cells (opC o gp gc) 42)) (.cells #[.int .i64 i.b, .int .i64 i.s, .int .u64 i.u] 34)
 have hO1 := OpAt.made w o gp gc
 have hO := hO1.below hb2 (by simp)
 obtain ⟨w2, hw2⟩ : ∃ w2, Hid ((w.alloc (.cells (opC o gp gc) 42)).alloc (.cells #[.int .i64 i.b, .int .i64 i.s, .int .u64 i.u] 34) = w2) := ⟨_, Lib.hid rfl⟩
 have hb : Below w.heap.size w w2 := by rw [← hw2.out]; exact hb1.trans (hb2.mono hb1.size)
 rw [hw2.out] at hO
 have hR2 := hR.below hb
 have hbo := i64_small ho.hb
 have hd := i64_small ho.hd
 have hoo := i64_small ho.ho
 have hmm := i64_small ho.hm
 have kk := hO.ck
 have kb := hO.cb
 have kd := hO.cd
 have ko := hO.co
 have km := hO.cm
 have kr := hO.cr
 have kn := hO.cn
 have kf1 := hO.cfb
 have kf2 := hO.cfs
 have kf3 := hO.cfu
 have c1 := hR2.c1
 have c2 := hR2.c2
 have c3 := hR2.c3
 have hzw : w.heap.size < w2.heap.size := cell_lt kk
 have hf1 : (s.ins ++ s.gone).length ≤ 1000 := Nat.le_trans hs.few (by omega)
 have hf2 : s.ms.length ≤ 1000 := Nat.le_trans hs.fewM (by omega)
 have hmb := ofD_bd o.b
 have hmo : i64ok (ofD o.b) := by unfold i64ok; omega
 obtain ⟨pm, hl2⟩ := hR2.memP hmo
 clear hb1 hb2 hO1
 obtain ⟨z, hz⟩ : ∃ z, Hid (s.act o i = z) := ⟨_, Lib.hid rfl⟩
 rw [hz.out]
 have e0 : s.act o i = s.doObject o := RS.act_eq s o i h1
 rw [h1] at kk
 have ka := hO.ca
 have hst := id_stood
 have hgd := id_guard
 clear hl2
 rcases hR2.memN hmo with ⟨h1, hl, hl2⟩ | ⟨x, hx, hxn, h1, hl, hl2⟩
 ·have e : Hid (z = s) := Lib.hid (hz.out.symm.trans (e0.trans (by unfold RS.doObject; rw [h1])))
  go_enter Tryd.func13, Tryd.ntmps13
  go_wp2_with (first | (rw [hw2.out]) | (first | (go_at_call 37; refine (of_A _ y s _).mono ?_; rintro e w' ⟨rfl, rfl⟩) | (go_at_call 38; refine (fresh_A _ y s _).mono ?_; rintro e w' ⟨rfl, rfl⟩; rw [hf.out]) | (go_at_call 122; refine (rules_A _ y s _).mono ?_; rintro e w' ⟨rfl, rfl⟩; rw [hr.out]) | fail))
  go_quiet (first | (go_at_call 37; exact Calls.quietE (of_A _ y s _)) | fail)
  have hb3 : Below w.heap.size w (w2.drewN nq) := belowN hb _
  have hR3 := hR2.drewN nq
  go_wp2_with (first | (go_at_call 37; refine (of_A _ y s _).mono ?_; rintro e w' ⟨rfl, rfl⟩) | (go_at_call 38; refine (fresh_A _ y s _).mono ?_; rintro e w' ⟨rfl, rfl⟩; rw [hf.out]) | (go_at_call 122; refine (rules_A _ y s _).mono ?_; rintro e w' ⟨rfl, rfl⟩; rw [hr.out]) | fail)
  go_quiet ((first | (go_at_call 37; exact Calls.quietE (of_A _ y s _)) | fail))
  go_wp2_with (first | (go_at_call 37; refine (of_A _ y s _).mono ?_; rintro e w' ⟨rfl, rfl⟩) | (go_at_call 38; refine (fresh_A _ y s _).mono ?_; rintro e w' ⟨rfl, rfl⟩; rw [hf.out]) | (go_at_call 122; refine (rules_A _ y s _).mono ?_; rintro e w' ⟨rfl, rfl⟩; rw [hr.out]) | fail)
  go_returns
  rw [e.out]
  exact ⟨rfl, GoesTo.stay hR (belowN hb3 _)⟩
 ·have hM := hR2.mb x hx
  have q1 := hM.c1
  cases hg : x.m.g with
  | none =>
   have hmx : x.m = ⟨x.m.r, none⟩ := by cases hm : x.m; rw [hm] at hg; simp only at hg; rw [hg]
   have e : Hid (z = s) := Lib.hid (hz.out.symm.trans (e0.trans (by unfold RS.doObject; rw [h1, hmx])))
   rw [hg] at q1
   replace q1 : w2.cell? ⟨x.a, 1, none⟩ = some (.pointer none) := q1
   replace hg := Lib.hid hg
   replace h1 := Lib.hid h1
   replace hmx := Lib.hid hmx
   replace hxn := Lib.hid hxn
   go_enter Tryd.func13, Tryd.ntmps13
   go_wp2_with (first | (rw [hw2.out]) | (first | (go_at_call 37; refine (of_A _ y s _).mono ?_; rintro e w' ⟨rfl, rfl⟩) | (go_at_call 38; refine (fresh_A _ y s _).mono ?_; rintro e w' ⟨rfl, rfl⟩; rw [hf.out]) | (go_at_call 122; refine (rules_A _ y s _).mono ?_; rintro e w' ⟨rfl, rfl⟩; rw [hr.out]) | fail))
   go_quiet (first | (go_at_call 37; exact Calls.quietE (of_A _ y s _)) | fail)
   have hb3 : Below w.heap.size w (w2.drewN nq) := belowN hb _
   have hR3 := hR2.drewN nq
   go_wp2_with (first | (go_at_call 37; refine (of_A _ y s _).mono ?_; rintro e w' ⟨rfl, rfl⟩) | (go_at_call 38; refine (fresh_A _ y s _).mono ?_; rintro e w' ⟨rfl, rfl⟩; rw [hf.out]) | (go_at_call 122; refine (rules_A _ y s _).mono ?_; rintro e w' ⟨rfl, rfl⟩; rw [hr.out]) | fail)
   go_quiet ((first | (go_at_call 37; exact Calls.quietE (of_A _ y s _)) | fail))
   go_wp2_with (first | (go_at_call 37; refine (of_A _ y s _).mono ?_; rintro e w' ⟨rfl, rfl⟩) | (go_at_call 38; refine (fresh_A _ y s _).mono ?_; rintro e w' ⟨rfl, rfl⟩; rw [hf.out]) | (go_at_call 122; refine (rules_A _ y s _).mono ?_; rintro e w' ⟨rfl, rfl⟩; rw [hr.out]) | fail)
   go_returns
   rw [e.out]
   exact ⟨rfl, GoesTo.stay hR (belowN hb3 _)⟩
  | some d =>
   have hmx : x.m = ⟨x.m.r, some d⟩ := by cases hm : x.m; rw [hm] at hg; simp only at hg; rw [hg]
   rw [hg] at q1
   replace q1 : w2.cell? ⟨x.a, 1, none⟩ = some (.pointer (some ⟨x.g, 0, none⟩)) := q1
   have hD := hM.gd d hg
   have g0 := hD.c0
   have g1 := hD.c1
   have g2 := hD.c2
   have g8 := hD.c8
   have hie := id_eql d.id o.f
   by_cases hdi : d.id = o.f
   ·have e : Hid (z = s.setM x.n ⟨x.m.r, some (objG d o)⟩) := Lib.hid (hz.out.symm.trans (e0.trans (by unfold RS.doObject; rw [h1, hmx, hxn]; exact if_pos hdi)))
    rw [decide_eq_true hdi] at hie
    clear hdi
    replace hg := Lib.hid hg
    replace h1 := Lib.hid h1
    replace hmx := Lib.hid hmx
    replace hxn := Lib.hid hxn
    go_enter Tryd.func13, Tryd.ntmps13
    go_wp2_with (first | (rw [hw2.out]) | (first | (go_at_call 37; refine (of_A _ y s _).mono ?_; rintro e w' ⟨rfl, rfl⟩) | (go_at_call 38; refine (fresh_A _ y s _).mono ?_; rintro e w' ⟨rfl, rfl⟩; rw [hf.out]) | (go_at_call 122; refine (rules_A _ y s _).mono ?_; rintro e w' ⟨rfl, rfl⟩; rw [hr.out]) | fail))
    go_quiet (first | (go_at_call 37; exact Calls.quietE (of_A _ y s _)) | fail)
    have hb3 : Below w.heap.size w (w2.drewN nq) := belowN hb _
    have hR3 := hR2.drewN nq
    go_wp2_with (first | (go_at_call 37; refine (of_A _ y s _).mono ?_; rintro e w' ⟨rfl, rfl⟩) | (go_at_call 38; refine (fresh_A _ y s _).mono ?_; rintro e w' ⟨rfl, rfl⟩; rw [hf.out]) | (go_at_call 122; refine (rules_A _ y s _).mono ?_; rintro e w' ⟨rfl, rfl⟩; rw [hr.out]) | fail)
    go_quiet ((first | (go_at_call 37; exact Calls.quietE (of_A _ y s _)) | fail))
    go_wp2_with fail
    obtain ⟨w6, hw6, hRq⟩ := nameW (p := fun W => RollAt W y s) (hR3.drewN nq)
    have hBq := belowN hb3 nq
    have p0 : w6.cell? ⟨x.a, 1, none⟩ = some (.pointer (some ⟨x.g, 0, none⟩)) := by rw [← hw6.out]; exact q1
    have p1 : w6.cell? ⟨x.g, 8, none⟩ = some (.int .i64 d.la) := by rw [← hw6.out]; exact g8
    have p2 : w6.cell? ⟨w.heap.size, 3, none⟩ = some (.int .i64 o.a) := by rw [← hw6.out]; exact ka
    have hDq := (hRq.mb x hx).gd d hg.out
    rw [hw6.out] at hBq
    rw [hw6.out]
    have p3 := hDq.c7
    have p4 := hDq.free 7
    have p5 := hDq.free 8
    obtain ⟨mx, hmx2⟩ : ∃ mx, Hid (max d.la o.a = mx) := ⟨_, Lib.hid rfl⟩
    have hmax : ∀ u : World, (Builtin.max_ #[3, 3] 3 #[.int .i64 d.la, .int .i64 o.a]).run Tryd.prog u = .ok (.int .i64 mx) u := fun u => by
     have : (if d.la < o.a then o.a else d.la) = mx := by rw [← hmx2.out]; omega
     simp [Builtin.max_, Builtin.max2, this]
    go_region
    go_wp2_with fail
    go_returns
    rw [e.out]
    have hob := hRq.object hx hg.out o
    rw [hmx2.out] at hob
    exact ⟨rfl, GoesTo.drew (GoesTo.after hob hBq)⟩
   ·have e : Hid (z = s) := Lib.hid (hz.out.symm.trans (e0.trans (by unfold RS.doObject; rw [h1, hmx]; exact if_neg hdi)))
    rw [decide_eq_false hdi] at hie
    clear hdi
    replace hg := Lib.hid hg
    replace h1 := Lib.hid h1
    replace hmx := Lib.hid hmx
    replace hxn := Lib.hid hxn
    go_enter Tryd.func13, Tryd.ntmps13
    go_wp2_with (first | (rw [hw2.out]) | (first | (go_at_call 37; refine (of_A _ y s _).mono ?_; rintro e w' ⟨rfl, rfl⟩) | (go_at_call 38; refine (fresh_A _ y s _).mono ?_; rintro e w' ⟨rfl, rfl⟩; rw [hf.out]) | (go_at_call 122; refine (rules_A _ y s _).mono ?_; rintro e w' ⟨rfl, rfl⟩; rw [hr.out]) | fail))
    go_quiet (first | (go_at_call 37; exact Calls.quietE (of_A _ y s _)) | fail)
    have hb3 : Below w.heap.size w (w2.drewN nq) := belowN hb _
    have hR3 := hR2.drewN nq
    go_wp2_with (first | (go_at_call 37; refine (of_A _ y s _).mono ?_; rintro e w' ⟨rfl, rfl⟩) | (go_at_call 38; refine (fresh_A _ y s _).mono ?_; rintro e w' ⟨rfl, rfl⟩; rw [hf.out]) | (go_at_call 122; refine (rules_A _ y s _).mono ?_; rintro e w' ⟨rfl, rfl⟩; rw [hr.out]) | fail)
    go_quiet ((first | (go_at_call 37; exact Calls.quietE (of_A _ y s _)) | fail))
    go_wp2_with (first | (go_at_call 37; refine (of_A _ y s _).mono ?_; rintro e w' ⟨rfl, rfl⟩) | (go_at_call 38; refine (fresh_A _ y s _).mono ?_; rintro e w' ⟨rfl, rfl⟩; rw [hf.out]) | (go_at_call 122; refine (rules_A _ y s _).mono ?_; rintro e w' ⟨rfl, rfl⟩; rw [hr.out]) | fail)
    go_returns
    rw [e.out]
    exact ⟨rfl, GoesTo.stay hR (belowN hb3 _)⟩
end Go.Proofs.YtkolilbebkkpdaaDoor

namespace Go.Proofs.YtkolilbebkkpdaaDoor
open Go.RowKit

section
variable {P : Program} {md : Region.Mode} {ops : Array Oper} {Q : Exit → Act → World → Prop} {D : World → Prop}
def wpAnyD (P : Program) (md : Region.Mode) (ops : Array Oper) (Q : Exit → Act → World → Prop) (D : World → Prop) : Nat → Array Bool → Act → World → Prop
 | 0, listed, a, w => Region.ready md ops listed = [] ∧ Q .normal a w
 | fuel + 1, listed, a, w =>
  (Region.ready md ops listed = [] → Q .normal a w) ∧
  ∀ i ∈ Region.ready md ops listed, wpOp P ops Q i (fun a' w' => D w' ∧ wpAnyD P md ops Q D fuel (listed.setIfInBounds i true) a' w') a w
theorem wpAny_of_D : ∀ (fuel : Nat) (listed : Array Bool) (a : Act) (w : World), wpAnyD P md ops Q D fuel listed a w → wpAny P md ops Q fuel listed a w := by
 intro fuel
 induction fuel with
 | zero => intro _ _ _ h; exact h
 | succ fuel ih => intro listed a w h; exact ⟨h.1, fun i hi => wpOp_mono (fun a' w' h' => ih _ _ _ h'.2) (h.2 i hi)⟩
def YieldsD (P : Program) (ops : Array Oper) (D : World → Prop) (o : Oper) (v : Value) (a : Act) : Prop :=
 (Region.wanted o (yielded ops a.tmps) = true ∧ ∀ w, D w → (execOp a.eval o).run P w = .ok (.value v) w) ∨
 (Region.wanted o (yielded ops a.tmps) = false ∧ v = undef)
theorem YieldsD.wpOp {i : Nat} {o : Oper} {v : Value} {a : Act} (hi : ops[i]? = some o) (hy : YieldsD P ops D o v a)
  {K : Act → World → Prop} {w : World} (hw0 : D w) (h : K (a.put o.dst v) w) : wpOp P ops Q i K a w := by
 unfold Go.wpOp
 simp only [hi]
 rcases hy with ⟨hw, hv⟩ | ⟨hw, rfl⟩
 ·simp only [hw, if_true, Oper.wp, hv w hw0, Oper.upon]; exact .inl h
 ·simp only [hw, Bool.false_eq_true, if_false]; exact h
theorem YieldsD.of_same {o : Oper} {v : Value} {a a' : Act} (hy : YieldsD P ops D o v a) (he : execOp a'.eval o = execOp a.eval o)
  (hw : Region.wanted o (yielded ops a'.tmps) = Region.wanted o (yielded ops a.tmps)) : YieldsD P ops D o v a' := by
 unfold YieldsD at *
 rw [he, hw]
 exact hy
theorem wpOp_putD {j : Nat} {oi oj : Oper} {v : Value} (hj : ops[j]? = some oj) (hap : oi.apart ops oj = true)
  (hsi : ∀ cs b, oi.op ≠ .select cs b) (hsj : ∀ cs b, oj.op ≠ .select cs b)
  (hQ : ∀ c a w, Q (.panic c) (a.put oi.dst v) w → Q (.panic c) a w) {K : Act → World → Prop} {a : Act} {w : World}
  (hy : YieldsD P ops D oi v a) (h : wpOp P ops Q j K (a.put oi.dst v) w) :
  wpOp P ops Q j (fun a' w' => YieldsD P ops D oi v a' ∧ K (a'.put oi.dst v) w') a w := by
 obtain ⟨h1, h2, h3⟩ := Oper.apart_spec hap
 have keep : ∀ (a : Act), YieldsD P ops D oi v a → ∀ u, YieldsD P ops D oi v (a.put oj.dst u) := fun a hy u =>
  hy.of_same (execOp_put oi hsi a oj.dst u h3) (wanted_put oi a oj.dst u h3)
 have keepD : ∀ d, YieldsD P ops D oi v { a with defers := d :: a.defers } := fun d => hy.of_same rfl rfl
 unfold wpOp at *
 simp only [hj] at *
 rw [wanted_put oj a oi.dst v h1] at h
 split
 ·rename_i hw
  simp only [hw, if_true] at h
  rcases h with h | ⟨hasks, hlets⟩
  case inr => exact .inr ⟨by unfold Oper.asks at *; rw [execOp_put oj hsj a oi.dst v h1] at hasks; exact hasks, hlets⟩
  refine .inl ?_
  unfold Oper.wp at *
  rw [execOp_put oj hsj a oi.dst v h1] at h
  generalize (execOp a.eval oj).run P w = r at *
  cases r with
  | ok n w' =>
   cases n <;> simp only [Oper.upon] at h ⊢
   case value u => exact ⟨keep a hy u, by rw [← Act.put_comm a v u h2]; exact h⟩
   case skip => exact ⟨keep a hy _, by rw [← Act.put_comm a v undef h2]; exact h⟩
   case defer d =>
    refine ⟨keep _ (keepD d) _, ?_⟩
    rw [← Act.put_comm _ v undef h2, ← Act.put_defers]
    exact h
   case enter f args =>
    refine Calls.mono h fun e w'' he => ?_
    cases e with
    | returned u => exact ⟨keep a hy u, by rw [← Act.put_comm a v u h2]; exact he⟩
    | panicked c => exact hQ _ _ _ he
    | outgrown => exact he
   case row row args => exact Rows.mono h fun u w'' he => ⟨keep a hy u, by rw [← Act.put_comm a v u h2]; exact he⟩
  | halt x w' =>
   cases x <;> simp only [Oper.upon] at h ⊢
   case panic u => exact hQ _ _ _ h
 ·rename_i hw
  simp only [hw] at h
  exact ⟨keep a hy _, by rw [← Act.put_comm a v undef h2]; exact h⟩
theorem wpAnyD_first {i : Nat} {oi : Oper} {v : Value} (hi : ops[i]? = some oi) (hsel : ∀ (j : Nat) (o : Oper) cs b, ops[j]? = some o → o.op ≠ .select cs b)
  (hQ : ∀ c a w, Q (.panic c) (a.put oi.dst v) w → Q (.panic c) a w) :
  ∀ (fuel : Nat) (listed : Array Bool) (a : Act) (w : World), D w →
   (∀ j oj, ops[j]? = some oj → j ≠ i → listed.getD j true = false → (∀ e ∈ oj.after, Region.binds md e = true → e.on ≠ i) → oi.apart ops oj = true) →
   i ∈ Region.ready md ops listed → YieldsD P ops D oi v a →
   wpAnyD P md ops Q D fuel (listed.setIfInBounds i true) (a.put oi.dst v) w → wpAnyD P md ops Q D (fuel + 1) listed a w := by
 intro fuel
 induction fuel with
 | zero =>
  intro listed a w hD _ hr hy H
  refine ⟨fun h => (by rw [h] at hr; cases hr), fun j hj => ?_⟩
  by_cases hji : j = i
  ·subst hji; exact hy.wpOp hi hD ⟨hD, H⟩
  ·have := ready_mono hj hji
   rw [H.1] at this
   cases this
 | succ fuel ih =>
  intro listed a w hD hfree hr hy H
  refine ⟨fun h => (by rw [h] at hr; cases hr), fun j hj => ?_⟩
  by_cases hji : j = i
  ·subst hji; exact hy.wpOp hi hD ⟨hD, H⟩
  ·have h1 := H.2 j (ready_mono hj hji)
   obtain ⟨hjun, oj, hoj, hall⟩ := mem_ready.1 hj
   have hnot : ∀ e ∈ oj.after, Region.binds md e = true → e.on ≠ i := fun e he hb heq => by
    have h1 := hall e he hb
    have h0 := (mem_ready.1 hr).1
    rw [heq] at h1
    rcases Nat.lt_or_ge i listed.size with h' | h'
    ·simp [h'] at h0 h1; rw [h0] at h1; cases h1
    ·simp [Array.getElem?_eq_none h'] at h1
   have h2 := wpOp_putD hoj (hfree j oj hoj hji hjun hnot) (fun cs b => hsel i oi cs b hi) (fun cs b => hsel j oj cs b hoj) hQ hy h1
   have hfree' : ∀ k ok, ops[k]? = some ok → k ≠ i → (listed.setIfInBounds j true).getD k true = false →
     (∀ e ∈ ok.after, Region.binds md e = true → e.on ≠ i) → oi.apart ops ok = true := fun k ok hk hki hun hno => by
    refine hfree k ok hk hki ?_ hno
    by_cases hjk : j = k
    ·subst hjk; exact hjun
    ·rw [getD_set_ne true hjk] at hun; exact hun
   refine wpOp_mono (fun a' w' h3 => ⟨h3.2.1, ih (listed.setIfInBounds j true) a' w' h3.2.1 hfree' (ready_mono hr (Ne.symm hji)) h3.1 ?_⟩) h2
   rw [Array.setIfInBounds_comm _ _ hji]
   exact h3.2.2
/-- Taken first. -/
theorem wpAnyD_take {i : Nat} {oi : Oper} {v : Value} {fuel : Nat} {listed : Array Bool} {a : Act} {w : World} (hD : D w) (hi : ops[i]? = some oi)
  (hs : Region.noSelect ops = true) (hf : Region.free md ops listed i = true) (hr : (Region.ready md ops listed).contains i = true)
  (hQ : ∀ c a w, Q (.panic c) (a.put oi.dst v) w → Q (.panic c) a w) (hg : oi.guard = none) (hy : ∀ w, D w → (execOp a.eval oi).run P w = .ok (.value v) w)
  (h : wpAnyD P md ops Q D fuel (listed.setIfInBounds i true) (a.put oi.dst v) w) : wpAnyD P md ops Q D (fuel + 1) listed a w :=
 wpAnyD_first hi (Region.noSelect_spec hs) hQ fuel listed a w hD (Region.free_spec hi hf) (by simpa using hr) (.inl ⟨by simp [Region.wanted, hg], hy⟩) h
theorem wpAnyD_one {i : Nat} {fuel : Nat} {listed : Array Bool} {a : Act} {w : World} {o : Oper} (hr : Region.ready md ops listed = [i]) (ho : ops[i]? = some o) (hg : o.guard = none)
  (h : ∀ K : Act → World → Prop, (∀ a' w', D w' ∧ wpAnyD P md ops Q D fuel (listed.setIfInBounds i true) a' w' → K a' w') → o.wp P a w K Q) : wpAnyD P md ops Q D (fuel + 1) listed a w := by
 refine ⟨fun h0 => (by rw [h0] at hr; cases hr), fun j hj => ?_⟩
 rw [hr, List.mem_singleton] at hj
 subst hj
 unfold wpOp
 simp only [ho, Region.wanted, hg, if_true]
 exact .inl (h _ fun _ _ h => h)
theorem wpAnyD_two {i j : Nat} {fuel : Nat} {listed : Array Bool} {a : Act} {w : World} {o p : Oper} (hr : Region.ready md ops listed = [i, j]) (ho : ops[i]? = some o) (hp : ops[j]? = some p) (hg : o.guard = none) (hg2 : p.guard = none)
  (h : ∀ K : Act → World → Prop, (∀ a' w', D w' ∧ wpAnyD P md ops Q D fuel (listed.setIfInBounds i true) a' w' → K a' w') → o.wp P a w K Q)
  (h2 : ∀ K : Act → World → Prop, (∀ a' w', D w' ∧ wpAnyD P md ops Q D fuel (listed.setIfInBounds j true) a' w' → K a' w') → p.wp P a w K Q) : wpAnyD P md ops Q D (fuel + 1) listed a w := by
 refine ⟨fun h0 => (by rw [h0] at hr; cases hr), fun k hk => ?_⟩
 rw [hr] at hk
 rcases List.mem_cons.1 hk with rfl | hk
 ·unfold wpOp
  simp only [ho, Region.wanted, hg, if_true]
  exact .inl (h _ fun _ _ h => h)
 ·rw [List.mem_singleton] at hk
  subst hk
  unfold wpOp
  simp only [hp, Region.wanted, hg2, if_true]
  exact .inl (h2 _ fun _ _ h => h)
theorem wpAnyD_done {listed : Array Bool} {a : Act} {w : World} (hr : Region.ready md ops listed = []) (h : Q .normal a w) : ∀ fuel, wpAnyD P md ops Q D fuel listed a w
 | 0 => ⟨hr, h⟩
 | _ + 1 => ⟨fun _ => h, by rw [hr]; simp⟩
theorem wp_region_D {id : Nat} {a : Act} {w : World} (hm : P.follows .mixedOrders = true)
  (h : wpAnyD P .any ops Q D ops.size (Array.replicate ops.size false) a w.drew) : (Code.region id ops true).wp P Q a w :=
 wp_region_any hm (wpAny_of_D _ _ _ _ h)
end
end Go.Proofs.YtkolilbebkkpdaaDoor

namespace Go.Proofs.YtkolilbebkkpdaaDoor
open Go.RowKit Go.Maps

set_option maxRecDepth 100000 in
/-- append(out, ys...). -/
theorem app_manyI {ops : Array Oper} {rest : List Oper} {o : Oper} {a : Act} {Q : Exit → Act → World → Prop} (hgd : o.guard = none) (s x : Operand)
  (ho : o.op = .call { callee := .builtin .append, args := #[s, x], argTypes := #[22, 22] }) {base : Nat} {v : Value} {n m c : Nat} {q : Option Addr} {xs ys : List Int} {w : World}
  (hown : OwnI w base v n xs) (hs : a.eval s = v) (hx : a.eval x = .slice q m c) (hY : UI w q m ys) (hq : q = none → c = 0) (hn : n + m ≤ 8796093022208) (hbase : base ≤ w.heap.size)
  (h : ∀ v' w', OwnI w' base v' (n + m) (xs ++ ys) → Below base w w' → wpList Tryd.prog ops Q rest (a.put o.dst v') w') :
  wpList Tryd.prog ops Q (o :: rest) a w := by
 obtain ⟨i0, hi, hz0, hz1, hz2⟩ := info_parts int_info
 cases q with
 | none =>
  have hm : m = 0 := by
   rcases Nat.eq_zero_or_pos m with h0 | h0
   ·exact h0
   ·obtain ⟨_, _, he, _⟩ := hY.look h0
    cases he
  subst hm
  have hys : ys = [] := List.eq_nil_of_length_eq_zero hY.len
  rw [hq rfl] at hx
  refine wpList_append_own_none hgd s x 22 ho base 3 i0 1 Tryd.underlying22 hi v n _ hs hown.row hx ?_
  exact h v w (by rw [hys, List.append_nil]; exact hown) (Below.refl _ _)
 | some ad =>
  refine wpList_append_own _ hgd s x 22 ho base 3 i0 (.int .i64 0) 1 8 Tryd.underlying22 hi hz0 hz1 hz2 rfl (by decide) v n _ hs hown.row
   ad m c (ys.map (Value.int .i64)) hx (by rw [List.length_map, hY.len]; omega) ?_ ?_ (by unfold maxLen; omega) (by omega) hbase ?_
  ·intro j u hj
   rw [List.getElem?_map] at hj
   have hjl : j < ys.length := by
    rcases Nat.lt_or_ge j ys.length with h | h
    ·exact h
    ·rw [List.getElem?_eq_none h] at hj; cases hj
   rw [List.getElem?_eq_getElem hjl] at hj
   obtain ⟨b, off, he, _, hc, _⟩ := hY.look (i := j) (by rw [← hY.len]; exact hjl)
   injection he with he
   subst he
   simp only [Option.map_some, Option.some.injEq] at hj
   rw [← hj, ← nth_eq hjl, ← hc]
   unfold Addr.add
   by_cases h0 : j = 0
   ·subst h0; rfl
   ·rw [if_neg h0]
  ·intro u hu
   obtain ⟨y, _, rfl⟩ := List.mem_map.1 hu
   rfl
  ·intro v' w' h1 h2 _
   have hb : Below base w w' := (Below.refl _ _).grown h2 hbase (fun k e => (hown.row.lt k e).1)
   refine h v' w' ⟨by rw [List.length_append, hown.len, hY.len], by rw [List.map_append]; exact h1, ?_⟩ hb
   intro z hz
   rcases List.mem_append.1 hz with hz | hz
   ·exact hown.bd z hz
   ·exact hY.bd z hz


/-- A list of no numbers, of the call's own. -/
theorem OwnI.none_at (w : World) : OwnI (w.alloc (.cells #[] 3)) w.heap.size (.slice (some ⟨w.heap.size, 0, none⟩) 0 0) 0 [] := by
 refine ⟨rfl, ⟨rfl, .inr ⟨w.heap.size, 0, #[], rfl, Nat.le_refl _, ?_, Nat.zero_le _, by unfold maxLen; omega, by simp, by simp⟩⟩, fun _ h => by cases h⟩
 have := Arr.new w 3 []
 exact this
set_option maxRecDepth 100000 in
theorem Clone_any (p : Option Addr) (n : Nat) (xs : List Int) (c : Nat) (w : World) (hU : UI w p n xs) (hp : p = none → c = 0) (hn : n ≤ 1000000) :
  Calls Tryd.prog 41 #[.slice p n c] w fun e w' => ∃ v, e = .returned v ∧ OwnI w' w.heap.size v n xs ∧ Below w.heap.size w w' := by
 cases p with
 | none =>
  obtain rfl : c = 0 := hp rfl
  have hn0 : n = 0 := by
   rcases Nat.eq_zero_or_pos n with h0 | h0
   ·exact h0
   ·obtain ⟨_, _, he, _⟩ := hU.look h0
    cases he
  subst hn0
  have hx : xs = [] := List.eq_nil_of_length_eq_zero hU.len
  subst hx
  have hnil : (binOp .eql 22 (.slice none 0 0) (.slice none 0 0)).run Tryd.prog w = .ok (.bool true) w := Lib.run_eql_slice_nil w _ _ _ _ _ _ _ Tryd.underlying22
  clear hp
  go_enter Tryd.func41, Tryd.ntmps41
  go_wp2
  go_ret
  exact ⟨_, rfl, OwnI.nil _ _, Below.refl _ _⟩
 | some q =>
  have hb0 : Below w.heap.size w (w.alloc (.cells #[] 3)) := Below.lit w _
  have hown := OwnI.none_at w
  have hnil : (binOp .eql 22 (.slice (some q) n c) (.slice none 0 0)).run Tryd.prog w = .ok (.bool false) w := Lib.run_eql_slice_nil w _ _ _ _ _ _ _ Tryd.underlying22
  clear hp
  have hU1 := hU.below hb0
  go_enter Tryd.func41, Tryd.ntmps41
  go_wp2_with (at_builtin; refine app_manyI rfl _ _ rfl hown rfl rfl hU1 (fun h => by cases h) (by omega) hb0.size ?_; intro v' w1 hown1 hb1)
  go_ret
  rw [Nat.zero_add, List.nil_append] at hown1
  exact ⟨v', rfl, hown1, hb0.trans hb1⟩
theorem Clone_pos (ga : Addr) (n : Nat) (xs : List Int) (c : Nat) (w : World) (hU : UI w (some ga) n xs) (hn : n ≤ 1000000) (h0 : 0 < n) :
  Calls Tryd.prog 41 #[.slice (some ga) n c] w fun e w' => ∃ b c' : Nat, e = .returned (.slice (some ⟨b, 0, none⟩) n c') ∧ w.heap.size ≤ b ∧ b < w'.heap.size ∧ n ≤ c' ∧ UI w' (some ⟨b, 0, none⟩) n xs ∧ Below w.heap.size w w' := by
 refine (Clone_any (some ga) n xs c w hU (fun h => by cases h) hn).mono ?_
 rintro e w' ⟨v, rfl, hown, hb⟩
 rcases hown.row.2 with ⟨hv, hn0⟩ | ⟨g, cap, cur, rfl, hg, hgb, hnc, _⟩
 ·omega
 ·obtain ⟨p, c', hv, _, hu, _⟩ := hown.u
  injection hv with hp _ _
  subst hp
  exact ⟨g, cap, rfl, hg, (Array.getElem?_eq_some_iff.1 hgb).1, hnc, hu, hb⟩
theorem But.of_below {w w' : World} (h : Below w.heap.size w w') (b : Nat) : But w w' b := ⟨h.os, h.tape, h.output, h.size, fun i hi _ => h.block i hi⟩
/-- A member's guard is another one. -/
theorem RollAt.guarded {w W1 : World} {y : Lay} {s : RS} (h : RollAt w y s) {x : MRec} (hx : x ∈ y.l) (hb : Below w.heap.size w W1) {gk mb gb gcc : Nat} {G : Gd} (h1 : W1.heap[gk]? = some (.cells (gdCells mb gb gcc G) 90 (0, 0)))
  (hU : UI W1 (some ⟨gb, 0, none⟩) G.gs.length G.gs) (hc : G.gs.length ≤ gcc) (hgb : w.heap.size ≤ gb ∧ gb < W1.heap.size) (hmb : w.heap.size ≤ mb) (hgk : w.heap.size ≤ gk) (hM : MapV KV W1 mb (voV G.vo)) (hd : gk ≠ mb ∧ gk ≠ gb ∧ mb ≠ gb) :
  ∃ y', RollAt (W1.setCell ⟨x.a, 1, none⟩ (.pointer (some ⟨gk, 0, none⟩))) y' (s.setM x.n ⟨x.m.r, some G⟩) ∧ y'.r = y.r ∧ Turn w (W1.setCell ⟨x.a, 1, none⟩ (.pointer (some ⟨gk, 0, none⟩))) y.foot y'.foot := by
 have hm := h.mb x hx
 have hxa := blk_lt hm.blk
 have hB1 : But W1 (W1.setCell ⟨x.a, 1, none⟩ (.pointer (some ⟨gk, 0, none⟩))) x.a := But.of_grown (grown_cell W1 x.a 1 _)
 have hB : But w (W1.setCell ⟨x.a, 1, none⟩ (.pointer (some ⟨gk, 0, none⟩))) x.a := (But.of_below hb x.a).trans hB1
 obtain ⟨d1, d2, d3⟩ := hd
 refine h.updM (x' := ⟨x.n, ⟨x.m.r, some G⟩, x.a, gk, mb, gb, gcc⟩) hx (b := x.a) (List.mem_cons_self ..) hB rfl rfl ⟨?_, fun g hgg => ?_⟩ ?_ ?_
 ·exact setCell_blk ((hb.block _ hxa).trans hm.blk) 1 _
 ·have hgg' : G = g := by injection hgg
  subst hgg'
  refine ⟨(hB1.blk _ (blk_lt h1) (by show gk ≠ x.a; omega)).trans h1, hU.block (hB1.blk _ hgb.2 (by omega)), Nat.lt_of_lt_of_le hgb.2 hB1.size, hc, hM.keep (hB1.blk _ hM.lt (by show mb ≠ x.a; omega))⟩
 ·show (x.a :: [gk, mb, gb]).Nodup
  simp only [List.nodup_cons, List.mem_cons, List.not_mem_nil, or_false, not_or, not_false_eq_true, List.nodup_nil, and_true]
  refine ⟨⟨by omega, by omega, by omega⟩, ⟨d1, d2⟩, d3⟩
 ·intro i hi
  replace hi : i ∈ x.a :: [gk, mb, gb] := hi
  simp only [List.mem_cons, List.not_mem_nil, or_false] at hi
  rcases hi with rfl | rfl | rfl | rfl
  ·exact .inl (List.mem_cons_self ..)
  ·exact .inr hgk
  ·exact .inr hmb
  ·exact .inr hgb.1
theorem RS.guard_eq {s : RS} {o : OpI} {i : Idn} {m : Mb} (h : s.memb (ofD o.b) = some m) : s.doGuard o i = s.setM (ofD o.b) ⟨m.r, some ⟨i, o.gs, o.n, o.t, [], false, 0⟩⟩ := by unfold RS.doGuard; rw [h]
set_option maxRecDepth 100000 in
set_option maxHeartbeats 8000000 in
theorem Do_guard (w : World) (y : Lay) (s : RS) (o : OpI) (gp : Option Addr) (gc : Nat) (i : Idn) (k : Nat) (_hk : k ≤ 1000) (hR : RollAt w y s) (hs : s.Ok k) (ho : o.Ok) (h1 : o.k = 9) (hU : UI w gp o.gs.length o.gs) (hne : o.gs ≠ []) :
  Calls Tryd.prog 13 #[.pointer (some ⟨y.r, 0, none⟩), .agg (opC o gp gc), .agg #[.int .i64 i.b, .int .i64 i.s, .int .u64 i.u]] w fun e w' => e = .returned (.tuple #[]) ∧ GoesTo w y (s.act o i) w' := by
 have hb1 := Below.lit w (.cells (opC o gp gc) 42)
 have hb2 := Below.lit (w.alloc (.cells (opC o gp gc) 42)) (.cells #[.int .i64 i.b, .int .i64 i.s, .int .u64 i.u] 34)
 have hO1 := OpAt.made w o gp gc
 have hO := hO1.below hb2 (by simp)
 obtain ⟨w2, hw2⟩ : ∃ w2, Hid ((w.alloc (.cells (opC o gp gc) 42)).alloc (.cells #[.int .i64 i.b, .int .i64 i.s, .int .u64 i.u] 34) = w2) := ⟨_, Lib.hid rfl⟩
 have hb : Below w.heap.size w w2 := by rw [← hw2.out]; exact hb1.trans (hb2.mono hb1.size)
 rw [hw2.out] at hO
 have hR2 := hR.below hb
 have hbo := i64_small ho.hb
 have hd := i64_small ho.hd
 have hoo := i64_small ho.ho
 have hmm := i64_small ho.hm
 have kk := hO.ck
 have kb := hO.cb
 have kd := hO.cd
 have ko := hO.co
 have km := hO.cm
 have kr := hO.cr
 have kn := hO.cn
 have kf1 := hO.cfb
 have kf2 := hO.cfs
 have kf3 := hO.cfu
 have c1 := hR2.c1
 have c2 := hR2.c2
 have c3 := hR2.c3
 have hzw : w.heap.size < w2.heap.size := cell_lt kk
 have hf1 : (s.ins ++ s.gone).length ≤ 1000 := Nat.le_trans hs.few (by omega)
 have hf2 : s.ms.length ≤ 1000 := Nat.le_trans hs.fewM (by omega)
 have hmb := ofD_bd o.b
 have hmo : i64ok (ofD o.b) := by unfold i64ok; omega
 obtain ⟨pm, hl2⟩ := hR2.memP hmo
 clear hb1 hb2 hO1
 obtain ⟨z, hz⟩ : ∃ z, Hid (s.act o i = z) := ⟨_, Lib.hid rfl⟩
 rw [hz.out]
 have e0 : s.act o i = s.doGuard o i := RS.act_eq s o i h1
 rw [h1] at kk
 have kg := hO.cgs
 have kt := hO.ct
 clear hl2
 rcases hR2.memN hmo with ⟨h1, hl, hl2⟩ | ⟨x, hx, hxn, h1, hl, hl2⟩
 ·have e : Hid (z = s) := Lib.hid (hz.out.symm.trans (e0.trans (by unfold RS.doGuard; rw [h1])))
  go_enter Tryd.func13, Tryd.ntmps13
  go_wp2_with (first | (rw [hw2.out]) | (first | (go_at_call 37; refine (of_A _ y s _).mono ?_; rintro e w' ⟨rfl, rfl⟩) | (go_at_call 38; refine (fresh_A _ y s _).mono ?_; rintro e w' ⟨rfl, rfl⟩; rw [hf.out]) | (go_at_call 122; refine (rules_A _ y s _).mono ?_; rintro e w' ⟨rfl, rfl⟩; rw [hr.out]) | fail))
  go_quiet (first | (go_at_call 37; exact Calls.quietE (of_A _ y s _)) | fail)
  have hb3 : Below w.heap.size w (w2.drewN nq) := belowN hb _
  have hR3 := hR2.drewN nq
  go_wp2_with (first | (go_at_call 37; refine (of_A _ y s _).mono ?_; rintro e w' ⟨rfl, rfl⟩) | (go_at_call 38; refine (fresh_A _ y s _).mono ?_; rintro e w' ⟨rfl, rfl⟩; rw [hf.out]) | (go_at_call 122; refine (rules_A _ y s _).mono ?_; rintro e w' ⟨rfl, rfl⟩; rw [hr.out]) | fail)
  go_returns
  rw [e.out]
  exact ⟨rfl, GoesTo.stay hR hb3⟩
 ·have e : Hid (z = s.setM x.n ⟨x.m.r, some ⟨i, o.gs, o.n, o.t, [], false, 0⟩⟩) := Lib.hid (hz.out.symm.trans (e0.trans (by rw [RS.guard_eq h1, hxn])))
  replace h1 := Lib.hid h1
  replace hxn := Lib.hid hxn
  have hga : w2.cell? ⟨w.heap.size + 1, 0, none⟩ = some (.int .i64 i.b) ∧ w2.cell? ⟨w.heap.size + 1, 1, none⟩ = some (.int .i64 i.s) ∧ w2.cell? ⟨w.heap.size + 1, 2, none⟩ = some (.int .u64 i.u) := by
   rw [← hw2.out]
   have := cells3 (w.alloc (.cells (opC o gp gc) 42)) 34 (.int .i64 i.b) (.int .i64 i.s) (.int .u64 i.u)
   rwa [World.size_alloc] at this
  obtain ⟨i0, i1, i2⟩ := hga
  have hM := hR2.mb x hx
  have x1 := hM.c1
  have xf := hM.free 1
  have hU2 := hU.below hb
  have hl0 : o.gs.length ≤ 1000000 := Nat.le_trans ho.hgl (by omega)
  have hgp : 0 < o.gs.length := List.length_pos_iff.2 hne
  obtain ⟨ga, rfl⟩ : ∃ ga, gp = some ga := by
   obtain ⟨b, off, he, _⟩ := hU.look (i := 0) (List.length_pos_iff.2 hne)
   exact ⟨_, he⟩
  go_enter Tryd.func13, Tryd.ntmps13
  go_wp2_with (first | (rw [hw2.out]) | (first | (go_at_call 37; refine (of_A _ y s _).mono ?_; rintro e w' ⟨rfl, rfl⟩) | (go_at_call 38; refine (fresh_A _ y s _).mono ?_; rintro e w' ⟨rfl, rfl⟩; rw [hf.out]) | (go_at_call 122; refine (rules_A _ y s _).mono ?_; rintro e w' ⟨rfl, rfl⟩; rw [hr.out]) | fail))
  go_quiet (first | (go_at_call 37; exact Calls.quietE (of_A _ y s _)) | fail)
  have hb3 : Below w.heap.size w (w2.drewN nq) := belowN hb _
  have hR3 := hR2.drewN nq
  go_wp2_with fail
  obtain ⟨w3, hw3, hRq⟩ := nameW (p := fun W => RollAt W y s) hR3
  rw [hw3.out] at hb3
  rw [hw3.out]
  have j0 : w3.cell? ⟨w.heap.size + 1, 0, none⟩ = some (.int .i64 i.b) := by rw [← hw3.out]; exact i0
  have j1 : w3.cell? ⟨w.heap.size + 1, 1, none⟩ = some (.int .i64 i.s) := by rw [← hw3.out]; exact i1
  have j2 : w3.cell? ⟨w.heap.size + 1, 2, none⟩ = some (.int .u64 i.u) := by rw [← hw3.out]; exact i2
  have j3 : w3.cell? ⟨w.heap.size, 19, none⟩ = some (.slice (some ga) o.gs.length gc) := by rw [← hw3.out]; exact kg
  have j4 : w3.cell? ⟨w.heap.size, 20, none⟩ = some (.int .i64 o.n) := by rw [← hw3.out]; exact kn
  have j5 : w3.cell? ⟨w.heap.size, 21, none⟩ = some (.int .i64 o.t) := by rw [← hw3.out]; exact kt
  have j6 : w3.cell? ⟨x.a, 1, none⟩ = some (gptr x.m.g x.g) := by rw [← hw3.out]; exact x1
  have j7 : w3.frozen? ⟨x.a, 1, none⟩ = false := by rw [← hw3.out]; exact xf
  clear i0 i1 i2 kg kn kt x1 xf kk kb kd ko km kr kf1 kf2 kf3 c1 c2 c3 hO hl hl2
  have hU3 : UI w3 (some ga) o.gs.length o.gs := by rw [← hw3.out]; exact hU2.drewN _
  have hmk : ∀ u : World, (Instr.makeMap 88 none).run Tryd.prog u = .ok (.map (some u.heap.size)) (u.alloc (.map #[] 0)) := fun u => by kernel_rfl
  have hbA : Below w3.heap.size w3 w3.drew := (Below.refl _ _).drew
  have hbB : Below w3.heap.size w3 (w3.drew.alloc (.map #[] 0)) := hbA.alloc (Nat.le_refl _) _
  obtain ⟨D, hDD⟩ : ∃ D : World → Prop, ∀ W, D W ↔ (W.cell? ⟨w.heap.size, 19, none⟩ = some (.slice (some ga) o.gs.length gc) ∧ W.cell? ⟨w.heap.size, 20, none⟩ = some (.int .i64 o.n) ∧ W.cell? ⟨w.heap.size, 21, none⟩ = some (.int .i64 o.t) ∧ W.cell? ⟨w.heap.size + 1, 0, none⟩ = some (.int .i64 i.b) ∧ W.cell? ⟨w.heap.size + 1, 1, none⟩ = some (.int .i64 i.s) ∧ W.cell? ⟨w.heap.size + 1, 2, none⟩ = some (.int .u64 i.u)) := ⟨_, fun _ => Iff.rfl⟩
  have hD0 : D w3.drew := (hDD _).2 ⟨j3, j4, j5, j0, j1, j2⟩
  have hDb : ∀ W, Below w3.heap.size w3 W → D W := fun W hb => (hDD _).2 ⟨(hb.cell (cell_lt j3)).trans j3, (hb.cell (cell_lt j4)).trans j4, (hb.cell (cell_lt j5)).trans j5, (hb.cell (cell_lt j0)).trans j0, (hb.cell (cell_lt j1)).trans j1, (hb.cell (cell_lt j2)).trans j2⟩
  have hst : ∀ (W : World) (v : Value), (W.cell? ⟨w.heap.size, 19, none⟩ = some (.slice (some ga) o.gs.length gc) ∧ W.cell? ⟨w.heap.size, 20, none⟩ = some (.int .i64 o.n) ∧ W.cell? ⟨w.heap.size, 21, none⟩ = some (.int .i64 o.t) ∧ W.cell? ⟨w.heap.size + 1, 0, none⟩ = some (.int .i64 i.b) ∧ W.cell? ⟨w.heap.size + 1, 1, none⟩ = some (.int .i64 i.s) ∧ W.cell? ⟨w.heap.size + 1, 2, none⟩ = some (.int .u64 i.u)) → ((W.setCell ⟨x.a, 1, none⟩ v).cell? ⟨w.heap.size, 19, none⟩ = some (.slice (some ga) o.gs.length gc) ∧ (W.setCell ⟨x.a, 1, none⟩ v).cell? ⟨w.heap.size, 20, none⟩ = some (.int .i64 o.n) ∧ (W.setCell ⟨x.a, 1, none⟩ v).cell? ⟨w.heap.size, 21, none⟩ = some (.int .i64 o.t) ∧ (W.setCell ⟨x.a, 1, none⟩ v).cell? ⟨w.heap.size + 1, 0, none⟩ = some (.int .i64 i.b) ∧ (W.setCell ⟨x.a, 1, none⟩ v).cell? ⟨w.heap.size + 1, 1, none⟩ = some (.int .i64 i.s) ∧ (W.setCell ⟨x.a, 1, none⟩ v).cell? ⟨w.heap.size + 1, 2, none⟩ = some (.int .u64 i.u)) := by
   intro W v ⟨t1, t2, t3, t4, t5, t6⟩
   have hxa : x.a < w.heap.size := hR.lt _ (by unfold Lay.foot; simp only [List.mem_cons, List.mem_flatMap]; exact .inr (.inr (.inr (.inr (.inr ⟨x, hx, List.mem_cons_self ..⟩)))))
   have k1 : ∀ j, (W.setCell ⟨x.a, 1, none⟩ v).cell? ⟨w.heap.size, j, none⟩ = W.cell? ⟨w.heap.size, j, none⟩ := fun j => World.cell?_setCell_far W _ _ v (by show x.a ≠ w.heap.size; omega)
   have k2 : ∀ j, (W.setCell ⟨x.a, 1, none⟩ v).cell? ⟨w.heap.size + 1, j, none⟩ = W.cell? ⟨w.heap.size + 1, j, none⟩ := fun j => World.cell?_setCell_far W _ _ v (by show x.a ≠ w.heap.size + 1; omega)
   exact ⟨(k1 _).trans t1, (k1 _).trans t2, (k1 _).trans t3, (k2 _).trans t4, (k2 _).trans t5, (k2 _).trans t6⟩
  replace hst := Lib.hid hst
  replace hDb := Lib.hid hDb
  refine wp_region_D (D := D) (by kernel_rfl) ?_
  change wpAnyD _ _ _ _ _ 15 _ _ _
  refine wpAnyD_take (i := 0) (v := .pointer (some ⟨x.a, 0, none⟩)) hD0 rfl (by kernel_rfl) (by kernel_rfl) (by kernel_rfl) (fun _ _ _ h => h) rfl (fun W hW => by obtain ⟨t1, t2, t3, t4, t5, t6⟩ := (hDD W).1 hW; go_simp) ?_
  simp only [Act.put, List.setIfInBounds_toArray]
  refine wpAnyD_take (i := 1) (v := .agg #[.int .i64 i.b, .int .i64 i.s, .int .u64 i.u]) hD0 rfl (by kernel_rfl) (by kernel_rfl) (by kernel_rfl) (fun _ _ _ h => h) rfl (fun W hW => by obtain ⟨t1, t2, t3, t4, t5, t6⟩ := (hDD W).1 hW; go_simp) ?_
  simp only [Act.put]
  refine wpAnyD_take (i := 2) (v := .pointer (some ⟨w.heap.size, 19, none⟩)) hD0 rfl (by kernel_rfl) (by kernel_rfl) (by kernel_rfl) (fun _ _ _ h => h) rfl (fun W hW => by obtain ⟨t1, t2, t3, t4, t5, t6⟩ := (hDD W).1 hW; go_simp) ?_
  simp only [Act.put]
  refine wpAnyD_take (i := 3) (v := .slice (some ga) o.gs.length gc) hD0 rfl (by kernel_rfl) (by kernel_rfl) (by kernel_rfl) (fun _ _ _ h => h) rfl (fun W hW => by obtain ⟨t1, t2, t3, t4, t5, t6⟩ := (hDD W).1 hW; go_simp) ?_
  simp only [Act.put]
  refine wpAnyD_take (i := 5) (v := .pointer (some ⟨w.heap.size, 20, none⟩)) hD0 rfl (by kernel_rfl) (by kernel_rfl) (by kernel_rfl) (fun _ _ _ h => h) rfl (fun W hW => by obtain ⟨t1, t2, t3, t4, t5, t6⟩ := (hDD W).1 hW; go_simp) ?_
  simp only [Act.put]
  refine wpAnyD_take (i := 6) (v := .int .i64 o.n) hD0 rfl (by kernel_rfl) (by kernel_rfl) (by kernel_rfl) (fun _ _ _ h => h) rfl (fun W hW => by obtain ⟨t1, t2, t3, t4, t5, t6⟩ := (hDD W).1 hW; go_simp) ?_
  simp only [Act.put]
  refine wpAnyD_take (i := 7) (v := .pointer (some ⟨w.heap.size, 21, none⟩)) hD0 rfl (by kernel_rfl) (by kernel_rfl) (by kernel_rfl) (fun _ _ _ h => h) rfl (fun W hW => by obtain ⟨t1, t2, t3, t4, t5, t6⟩ := (hDD W).1 hW; go_simp) ?_
  simp only [Act.put]
  refine wpAnyD_take (i := 8) (v := .int .i64 o.t) hD0 rfl (by kernel_rfl) (by kernel_rfl) (by kernel_rfl) (fun _ _ _ h => h) rfl (fun W hW => by obtain ⟨t1, t2, t3, t4, t5, t6⟩ := (hDD W).1 hW; go_simp) ?_
  simp only [Act.put]
  refine wpAnyD_two (i := 4) (j := 9) (by kernel_rfl) rfl rfl rfl rfl (fun K hK => ?_) (fun K hK => ?_)
  ·go_simp
   refine (Clone_pos ga _ o.gs gc _ (hU3.below hbA) hl0 hgp).mono ?_
   rintro e' w9 ⟨gb, gcc, rfl, hgb1, hgb2, hgb3, hU9, hb9⟩
   have hB9 : Below w3.heap.size w3 w9 := hbA.trans (hb9.mono hbA.size)
   refine hK _ _ ⟨hDb.out _ hB9, ?_⟩
   clear hK K
   try simp only [Act.put, List.setIfInBounds_toArray, List.set_cons_succ, List.set_cons_zero]
   refine wpAnyD_one (i := 9) (by kernel_rfl) rfl rfl (fun K hK => ?_)
   go_simp
   refine hK _ _ ⟨hDb.out _ (hB9.alloc hB9.size _), ?_⟩
   clear hK K
   try simp only [Act.put, List.setIfInBounds_toArray, List.set_cons_succ, List.set_cons_zero]
   refine wpAnyD_one (i := 10) (by kernel_rfl) rfl rfl (fun K hK => ?_)
   go_simp
   refine hK _ _ ⟨hDb.out _ (hB9.alloc hB9.size _), ?_⟩
   clear hK K
   try simp only [Act.put, List.setIfInBounds_toArray, List.set_cons_succ, List.set_cons_zero]
   have hBm : Below w3.heap.size w3 (w9.alloc (.map #[] 0)) := hB9.alloc hB9.size _
   have hBW : Below w3.heap.size w3 ((w9.alloc (.map #[] 0)).alloc (.cells #[.int .i64 i.b, .int .i64 i.s, .int .u64 i.u, .slice (some ⟨gb, 0, none⟩) o.gs.length gcc, .int .i64 o.n, .int .i64 o.t, .map (some w9.heap.size), .bool false, .int .i64 0] 90)) := hBm.alloc hBm.size _
   have c6 := (hBW.cell (cell_lt j6)).trans j6
   have c7 := (hBW.frozen (cell_lt j6)).trans j7
   have hb1m : Below w9.heap.size w9 (w9.alloc (.map #[] 0)) := Below.lit w9 _
   have hb1W : Below w9.heap.size w9 ((w9.alloc (.map #[] 0)).alloc (.cells #[.int .i64 i.b, .int .i64 i.s, .int .u64 i.u, .slice (some ⟨gb, 0, none⟩) o.gs.length gcc, .int .i64 o.n, .int .i64 o.t, .map (some w9.heap.size), .bool false, .int .i64 0] 90)) := hb1m.alloc hb1m.size _
   have hsz : (w9.alloc (.map #[] 0)).heap.size = w9.heap.size + 1 := by simp
   have hFin := hRq.guarded (G := ⟨i, o.gs, o.n, o.t, [], false, 0⟩) (gk := w9.heap.size + 1) (mb := w9.heap.size) (gb := gb) (gcc := gcc) hx hBW (by have := World.alloc_heap_new (w9.alloc (.map #[] 0)) (.cells #[.int .i64 i.b, .int .i64 i.s, .int .u64 i.u, .slice (some ⟨gb, 0, none⟩) o.gs.length gcc, .int .i64 o.n, .int .i64 o.t, .map (some w9.heap.size), .bool false, .int .i64 0] 90); rw [hsz] at this; exact this) (hU9.below hb1W) hgb3 ⟨Nat.le_trans hbA.size hgb1, Nat.lt_of_lt_of_le hgb2 hb1W.size⟩ (hB9.size) (Nat.le_succ_of_le hB9.size) ((MapV.made (K := KV) w9).below (Below.lit _ _)) ⟨by omega, by omega, by omega⟩
   refine wpAnyD_one (i := 11) (by kernel_rfl) rfl rfl (fun K hK => ?_)
   go_simp
   refine hK _ _ ⟨hDb.out _ hBW, ?_⟩
   clear hK K
   try simp only [Act.put, List.setIfInBounds_toArray, List.set_cons_succ, List.set_cons_zero]
   refine wpAnyD_one (i := 12) (by kernel_rfl) rfl rfl (fun K hK => ?_)
   go_simp
   refine hK _ _ ⟨hDb.out _ hBW, ?_⟩
   clear hK K
   try simp only [Act.put, List.setIfInBounds_toArray, List.set_cons_succ, List.set_cons_zero]
   refine wpAnyD_one (i := 13) (by kernel_rfl) rfl rfl (fun K hK => ?_)
   go_simp
   refine hK _ _ ⟨hDb.out _ hBW, ?_⟩
   clear hK K
   try simp only [Act.put, List.setIfInBounds_toArray, List.set_cons_succ, List.set_cons_zero]
   refine wpAnyD_one (i := 14) (by kernel_rfl) rfl rfl (fun K hK => ?_)
   go_simp
   refine hK _ _ ⟨(hDD _).2 (hst.out _ _ ((hDD _).1 (hDb.out _ hBW))), ?_⟩
   clear hK K
   try simp only [Act.put, List.setIfInBounds_toArray, List.set_cons_succ, List.set_cons_zero]
   refine wpAnyD_done (by kernel_rfl) ?_ _
   go_wp2_with fail
   go_returns
   rw [e.out]
   exact ⟨rfl, GoesTo.after hFin hb3⟩
  ·go_simp
   refine hK _ _ ⟨hDb.out _ hbB, ?_⟩
   clear hK K
   try simp only [Act.put, List.setIfInBounds_toArray, List.set_cons_succ, List.set_cons_zero]
   refine wpAnyD_one (i := 4) (by kernel_rfl) rfl rfl (fun K hK => ?_)
   go_simp
   refine (Clone_pos ga _ o.gs gc _ (hU3.below hbB) hl0 hgp).mono ?_
   rintro e' w9 ⟨gb, gcc, rfl, hgb1, hgb2, hgb3, hU9, hb9⟩
   have hB9 : Below w3.heap.size w3 w9 := hbB.trans (hb9.mono hbB.size)
   have hz9 : (w3.drew.alloc (.map #[] 0)).heap.size = w3.heap.size + 1 := by simp
   have hgb4 : w3.heap.size + 1 ≤ gb := by omega
   have hgb5 : w3.heap.size + 1 ≤ w9.heap.size := by omega
   refine hK _ _ ⟨hDb.out _ hB9, ?_⟩
   clear hK K
   try simp only [Act.put, List.setIfInBounds_toArray, List.set_cons_succ, List.set_cons_zero]
   refine wpAnyD_one (i := 10) (by kernel_rfl) rfl rfl (fun K hK => ?_)
   go_simp
   refine hK _ _ ⟨hDb.out _ hB9, ?_⟩
   clear hK K
   try simp only [Act.put, List.setIfInBounds_toArray, List.set_cons_succ, List.set_cons_zero]
   have hBW : Below w3.heap.size w3 (w9.alloc (.cells #[.int .i64 i.b, .int .i64 i.s, .int .u64 i.u, .slice (some ⟨gb, 0, none⟩) o.gs.length gcc, .int .i64 o.n, .int .i64 o.t, .map (some w3.heap.size), .bool false, .int .i64 0] 90)) := hB9.alloc hB9.size _
   have c6 := (hBW.cell (cell_lt j6)).trans j6
   have c7 := (hBW.frozen (cell_lt j6)).trans j7
   have hb1W : Below w9.heap.size w9 (w9.alloc (.cells #[.int .i64 i.b, .int .i64 i.s, .int .u64 i.u, .slice (some ⟨gb, 0, none⟩) o.gs.length gcc, .int .i64 o.n, .int .i64 o.t, .map (some w3.heap.size), .bool false, .int .i64 0] 90)) := Below.lit w9 _
   have hFin := hRq.guarded (G := ⟨i, o.gs, o.n, o.t, [], false, 0⟩) (gk := w9.heap.size) (mb := w3.heap.size) (gb := gb) (gcc := gcc) hx hBW (World.alloc_heap_new w9 _) (hU9.below hb1W) hgb3 ⟨by omega, Nat.lt_of_lt_of_le hgb2 hb1W.size⟩ (Nat.le_refl _) (hB9.size) (((MapV.made (K := KV) w3.drew).below hb9).below hb1W) ⟨by omega, by omega, by omega⟩
   refine wpAnyD_one (i := 11) (by kernel_rfl) rfl rfl (fun K hK => ?_)
   go_simp
   refine hK _ _ ⟨hDb.out _ hBW, ?_⟩
   clear hK K
   try simp only [Act.put, List.setIfInBounds_toArray, List.set_cons_succ, List.set_cons_zero]
   refine wpAnyD_one (i := 12) (by kernel_rfl) rfl rfl (fun K hK => ?_)
   go_simp
   refine hK _ _ ⟨hDb.out _ hBW, ?_⟩
   clear hK K
   try simp only [Act.put, List.setIfInBounds_toArray, List.set_cons_succ, List.set_cons_zero]
   refine wpAnyD_one (i := 13) (by kernel_rfl) rfl rfl (fun K hK => ?_)
   go_simp
   refine hK _ _ ⟨hDb.out _ hBW, ?_⟩
   clear hK K
   try simp only [Act.put, List.setIfInBounds_toArray, List.set_cons_succ, List.set_cons_zero]
   refine wpAnyD_one (i := 14) (by kernel_rfl) rfl rfl (fun K hK => ?_)
   go_simp
   refine hK _ _ ⟨(hDD _).2 (hst.out _ _ ((hDD _).1 (hDb.out _ hBW))), ?_⟩
   clear hK K
   try simp only [Act.put, List.setIfInBounds_toArray, List.set_cons_succ, List.set_cons_zero]
   refine wpAnyD_done (by kernel_rfl) ?_ _
   go_wp2_with fail
   go_returns
   rw [e.out]
   exact ⟨rfl, GoesTo.after hFin hb3⟩
end Go.Proofs.YtkolilbebkkpdaaDoor

namespace Go.Proofs.YtkolilbebkkpdaaDoor
open Go.RowKit Go.Maps

theorem Do_any (w : World) (y : Lay) (s : RS) (o : OpI) (gp : Option Addr) (gc : Nat) (i : Idn) (k : Nat) (hk : k ≤ 1000) (hR : RollAt w y s) (hs : s.Ok k) (ho : o.Ok) (hU : UI w gp o.gs.length o.gs) (hne : o.k = 9 → o.gs ≠ []) :
  Calls Tryd.prog 13 #[.pointer (some ⟨y.r, 0, none⟩), .agg (opC o gp gc), .agg #[.int .i64 i.b, .int .i64 i.s, .int .u64 i.u]] w fun e w' => e = .returned (.tuple #[]) ∧ GoesTo w y (s.act o i) w' := by
 by_cases h14 : 14 ≤ o.k
 ·exact Do_high w y s o gp gc i k hk hR hs ho h14
 by_cases h : o.k = 0
 ·exact Do_no0 w y s o gp gc i k hk hR hs ho h
 by_cases h : o.k = 1
 ·exact Do_create w y s o gp gc i k hk hR hs ho h
 by_cases h : o.k = 2
 ·exact Do_add w y s o gp gc i k hk hR hs ho h
 by_cases h : o.k = 3
 ·by_cases h0 : o.d = 0
  ·exact Do_removeAll w y s o gp gc i k hk hR hs ho h h0
  ·exact Do_removeOne w y s o gp gc i k hk hR hs ho h h0
 by_cases h : o.k = 4
 ·exact Do_no4 w y s o gp gc i k hk hR hs ho h
 by_cases h : o.k = 5
 ·exact Do_promote w y s o gp gc i k hk hR hs ho h
 by_cases h : o.k = 6
 ·exact Do_no6 w y s o gp gc i k hk hR hs ho h
 by_cases h : o.k = 7
 ·exact Do_no7 w y s o gp gc i k hk hR hs ho h
 by_cases h : o.k = 8
 ·exact Do_no8 w y s o gp gc i k hk hR hs ho h
 by_cases h : o.k = 9
 ·exact Do_guard w y s o gp gc i k hk hR hs ho h hU (hne h)
 by_cases h : o.k = 10
 ·exact Do_no10 w y s o gp gc i k hk hR hs ho h
 by_cases h : o.k = 11
 ·exact Do_vouch w y s o gp gc i k hk hR hs ho h
 by_cases h : o.k = 12
 ·exact Do_object w y s o gp gc i k hk hR hs ho h
 by_cases h : o.k = 13
 ·exact Do_replace w y s o gp gc i k hk hR hs ho h
 have := ho.hk.1
 omega
end Go.Proofs.YtkolilbebkkpdaaDoor

