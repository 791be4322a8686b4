/-
  A roll, one of its members turned; its number of messages turned.
-/
import Derived.Test.YtkolilbebkkpdaaDoorRoW
namespace Go.Proofs.YtkolilbebkkpdaaDoor
open Go.RowKit Go.Maps

theorem RollAt.setB {w : World} {y : Lay} {s : RS} (h : RollAt w y s) (n : Int) : RollAt (w.setCell ⟨y.r, 4, none⟩ (.int .i64 n)) y ⟨s.ins, s.gone, s.ms, n⟩ ∧ But w (w.setCell ⟨y.r, 4, none⟩ (.int .i64 n)) y.r := by
  have hB : But w (w.setCell ⟨y.r, 4, none⟩ (.int .i64 n)) y.r := But.of_grown (grown_cell w y.r 4 _)
  have k := Lay.ne h.nd
  refine ⟨⟨?_, h.cards.keep (hB.blk _ h.cards.lt k.r.1.symm), h.ins.keep (hB.blk _ h.ins.lt k.r.2.1.symm), h.was.keep (hB.blk _ h.was.lt k.r.2.2.1.symm), h.ms.keep (hB.blk _ h.ms.lt k.r.2.2.2.1.symm), fun x hx => (h.mb x hx).but hB (k.r.2.2.2.2 x hx), h.eq, h.nd⟩, hB⟩
  show (w.heap.modify y.r _)[y.r]? = _
  rw [Array.getElem?_modify, if_pos rfl, h.blk]; rfl
theorem nodup_mid {A F F' B : List Nat} {N : Nat} (h : (A ++ (F ++ B)).Nodup) (hF : F'.Nodup) (hn : ∀ i ∈ F', i ∈ F ∨ N ≤ i) (hl : ∀ i ∈ A ++ (F ++ B), i < N) : (A ++ (F' ++ B)).Nodup := by
  obtain ⟨h1, h2, h3⟩ := List.nodup_append.1 h
  obtain ⟨h4, h5, h6⟩ := List.nodup_append.1 h2
  refine List.nodup_append.2 ⟨h1, List.nodup_append.2 ⟨hF, h5, fun a ha b hb e => ?_⟩, fun a ha b hb e => ?_⟩
  · rcases hn a ha with h7 | h7
    · exact h6 a h7 b hb e
    · have := hl b (List.mem_append_right _ (List.mem_append_right _ hb))
      omega
  · rcases List.mem_append.1 hb with hb | hb
    · rcases hn b hb with h7 | h7
      · exact h3 a ha b (List.mem_append_left _ h7) e
      · have := hl a (List.mem_append_left _ ha)
        omega
    · exact h3 a ha b (List.mem_append_right _ hb) e
/-- One of the members is another one. -/
theorem RollAt.updM {w : World} {y : Lay} {s : RS} (h : RollAt w y s) {x x' : MRec} (hx : x ∈ y.l) {w' : World} {b : Nat} (hb : b ∈ x.foot) (hB : But w w' b) (hn : x'.n = x.n) (ha : x'.a = x.a) (hm : MbAt w' x') (hf : x'.foot.Nodup) (hnew : ∀ i ∈ x'.foot, i ∈ x.foot ∨ w.heap.size ≤ i) :
    ∃ y', RollAt w' y' (s.setM x.n x'.m) ∧ y'.r = y.r ∧ Turn w w' y.foot y'.foot := by
  obtain ⟨l1, l2, hl⟩ := List.append_of_mem hx
  have hkn : (y.l.map MRec.n).Nodup := by have := h.ms.nd; rwa [keys_memV] at this
  have hmap : (y.l.map fun z => if z.n = x.n then x' else z) = l1 ++ x' :: l2 := by
    rw [hl, List.map_append, List.map_cons, List.nodup_append] at hkn
    obtain ⟨_, h2, h3⟩ := hkn
    obtain ⟨h4, _⟩ := List.nodup_cons.1 h2
    rw [hl, List.map_append, List.map_cons, if_pos rfl]
    have e1 : (l1.map fun z => if z.n = x.n then x' else z) = l1 := by
      refine (List.map_congr_left fun z hz => ?_).trans (List.map_id' l1)
      rw [if_neg (fun e => h3 z.n (List.mem_map.2 ⟨z, hz, rfl⟩) x.n (List.mem_cons_self ..) e)]
    have e2 : (l2.map fun z => if z.n = x.n then x' else z) = l2 := by
      refine (List.map_congr_left fun z hz => ?_).trans (List.map_id' l2)
      rw [if_neg (fun e => h4 (by rw [← e]; exact List.mem_map.2 ⟨z, hz, rfl⟩))]
    rw [e1, e2]
  have hfoot : y.foot = (y.r :: y.c :: y.i :: y.w :: y.m :: l1.flatMap MRec.foot) ++ (x.foot ++ l2.flatMap MRec.foot) := by
    unfold Lay.foot
    rw [hl, List.flatMap_append, List.flatMap_cons]
    simp
  have hnd := h.nd
  have hlt := h.lt
  rw [hfoot] at hnd hlt
  obtain ⟨q1, q2, q3⟩ := List.nodup_append.1 hnd
  obtain ⟨q4, q5, q6⟩ := List.nodup_append.1 q2
  have hbF : b ∈ x.foot ++ l2.flatMap MRec.foot := List.mem_append_left _ hb
  have hne : ∀ j ∈ (y.r :: y.c :: y.i :: y.w :: y.m :: l1.flatMap MRec.foot), j ≠ b := fun j hj => q3 j hj b hbF
  have o1 : ∀ z ∈ l1, b ∉ z.foot := fun z hz hbz => hne b (by simp only [List.mem_cons, List.mem_flatMap]; exact .inr (.inr (.inr (.inr (.inr ⟨z, hz, hbz⟩))))) rfl
  have o2 : ∀ z ∈ l2, b ∉ z.foot := fun z hz hbz => q6 b hb b (List.mem_flatMap.2 ⟨z, hz, hbz⟩) rfl
  have hfoot' : Lay.foot ⟨y.r, y.c, y.i, y.w, y.m, l1 ++ x' :: l2⟩ = (y.r :: y.c :: y.i :: y.w :: y.m :: l1.flatMap MRec.foot) ++ (x'.foot ++ l2.flatMap MRec.foot) := by
    unfold Lay.foot
    rw [List.flatMap_append, List.flatMap_cons]
    simp
  have hvm : memV (l1 ++ x' :: l2) = memV y.l := by
    rw [hl]
    unfold memV
    rw [List.map_append, List.map_append, List.map_cons, List.map_cons, hn, ha]
  refine ⟨⟨y.r, y.c, y.i, y.w, y.m, l1 ++ x' :: l2⟩, ⟨?_, ?_, ?_, ?_, ?_, ?_, ?_, ?_⟩, rfl, ?_⟩
  · exact (hB.blk _ (blk_lt h.blk) (hne _ (by simp))).trans h.blk
  · exact h.cards.keep (hB.blk _ h.cards.lt (hne _ (by simp)))
  · exact h.ins.keep (hB.blk _ h.ins.lt (hne _ (by simp)))
  · exact h.was.keep (hB.blk _ h.was.lt (hne _ (by simp)))
  · show MapV KI w' y.m (memV (l1 ++ x' :: l2))
    rw [hvm]
    exact h.ms.keep (hB.blk _ h.ms.lt (hne _ (by simp)))
  · intro z hz
    rcases List.mem_append.1 hz with hz | hz
    · exact (h.mb z (by rw [hl]; exact List.mem_append_left _ hz)).but hB (o1 z hz)
    · rcases List.mem_cons.1 hz with rfl | hz
      · exact hm
      · exact (h.mb z (by rw [hl]; exact List.mem_append_right _ (List.mem_cons_of_mem _ hz))).but hB (o2 z hz)
  · show (l1 ++ x' :: l2).map (fun x => (x.n, x.m)) = s.ms.map fun p => if p.1 = x.n then (x.n, x'.m) else p
    rw [← h.eq, ← hmap, List.map_map, List.map_map]
    refine List.map_congr_left fun z _ => ?_
    show ((if z.n = x.n then x' else z).n, (if z.n = x.n then x' else z).m) = if z.n = x.n then (x.n, x'.m) else (z.n, z.m)
    by_cases e : z.n = x.n
    · rw [if_pos e, if_pos e, hn]
    · rw [if_neg e, if_neg e]
  · rw [hfoot']
    exact nodup_mid hnd hf hnew hlt
  · rw [hfoot', hfoot]
    refine ⟨hB.os, hB.tape, hB.out, hB.size, fun i hi hf2 => hB.blk i hi fun e => hf2 (by rw [e]; exact List.mem_append_right _ hbF), fun i hi => ?_⟩
    rcases List.mem_append.1 hi with hi | hi
    · exact .inl (List.mem_append_left _ hi)
    · rcases List.mem_append.1 hi with hi | hi
      · rcases hnew i hi with h7 | h7
        · exact .inl (List.mem_append_right _ (List.mem_append_left _ h7))
        · exact .inr h7
      · exact .inl (List.mem_append_right _ (List.mem_append_right _ hi))
theorem GdAt.but {w w' : World} {g v e c : Nat} {d : Gd} {b : Nat} (h : GdAt w g v e c d) (hB : But w w' b) (h1 : g ≠ b) (h2 : v ≠ b) (h3 : e ≠ b) : GdAt w' g v e c d :=
  h.keep hB.size (hB.blk _ (blk_lt h.blk) h1) (hB.blk _ h.vo.lt h2) (hB.blk _ h.lt h3)
/-- A member's blocks. -/
theorem RollAt.mfoot {w : World} {y : Lay} {s : RS} (h : RollAt w y s) {x : MRec} (hx : x ∈ y.l) : x.foot.Nodup := by
  have := (Lay.ne h.nd).l
  obtain ⟨l1, l2, hl⟩ := List.append_of_mem hx
  rw [hl, List.flatMap_append, List.flatMap_cons] at this
  exact (List.nodup_append.1 (List.nodup_append.1 this).2.1).1
/-- A member's role is another one. -/
theorem RollAt.setR {w : World} {y : Lay} {s : RS} (h : RollAt w y s) {x : MRec} (hx : x ∈ y.l) (r : Int) : ∃ y', RollAt (w.setCell ⟨x.a, 0, none⟩ (.int .i64 r)) y' (s.setM x.n ⟨r, x.m.g⟩) ∧ y'.r = y.r ∧ Turn w (w.setCell ⟨x.a, 0, none⟩ (.int .i64 r)) y.foot y'.foot := by
  have hB : But w (w.setCell ⟨x.a, 0, none⟩ (.int .i64 r)) x.a := But.of_grown (grown_cell w x.a 0 _)
  have hM := h.mb x hx
  have hnf := h.mfoot hx
  refine h.updM (x' := ⟨x.n, ⟨r, x.m.g⟩, x.a, x.g, x.v, x.e, x.c⟩) hx (b := x.a) (List.mem_cons_self ..) hB rfl rfl ⟨?_, fun d hd => ?_⟩ hnf (fun i hi => .inl hi)
  · show (w.heap.modify x.a _)[x.a]? = _
    rw [Array.getElem?_modify, if_pos rfl, hM.blk]; rfl
  · have hg : x.m.g = some d := hd
    have hf : x.foot = [x.a, x.g, x.v, x.e] := by unfold MRec.foot gfoot; rw [hg]
    rw [hf] at hnf
    simp only [List.nodup_cons, List.mem_cons, List.not_mem_nil, or_false, not_or] at hnf
    exact (hM.gd d hg).but hB (fun e => hnf.1.1 e.symm) (fun e => hnf.1.2.1 e.symm) (fun e => hnf.1.2.2 e.symm)
theorem RollAt.memP {w : World} {y : Lay} {s : RS} (h : RollAt w y s) {n : Int} (hn : i64ok n) :
    ∃ v : Value, ∀ k, (Instr.lookup 79 (.map (some y.m)) (.int .i64 n) false).run Tryd.prog (w.drewN k) = .ok v (w.drewN k) := by
  rcases h.memN hn with ⟨_, _, h2⟩ | ⟨x, _, _, _, _, h2⟩
  · exact ⟨_, h2⟩
  · exact ⟨_, h2⟩
end Go.Proofs.YtkolilbebkkpdaaDoor
