/-
  Rolls: a device comes.
-/
import Derived.Test.YtkolilbebkkpdaaDoorRoE
namespace Go.Proofs.YtkolilbebkkpdaaDoor
open Go.RowKit Go.Maps

theorem But.trans {w v u : World} {b : Nat} (h : But w v b) (k : But v u b) : But w u b :=
  ⟨k.os.trans h.os, k.tape.trans h.tape, k.out.trans h.out, Nat.le_trans h.size k.size, fun i hi hb => (k.blk i (Nat.lt_of_lt_of_le hi h.size) hb).trans (h.blk i hi hb)⟩
/-- One more is in. -/
theorem RollAt.more {w w2 w4 : World} {y : Lay} {s : RS} (h : RollAt w y s) (h1 : But w w2 y.i) (h2 : But w2 w4 y.w) {d : Int} (hi : MapV KI w2 y.i (setV (s.ins ++ [d]))) (hw : MapV KI w4 y.w (setV (s.ins ++ [d] ++ s.gone))) :
    RollAt w4 y ⟨s.ins ++ [d], s.gone, s.ms, s.bk⟩ := by
  have k := Lay.ne h.nd
  have b : ∀ i, i < w.heap.size → i ≠ y.i → i ≠ y.w → w4.heap[i]? = w.heap[i]? := fun i hi e1 e2 => (h2.blk i (Nat.lt_of_lt_of_le hi h1.size) e2).trans (h1.blk i hi e1)
  have hz := Nat.le_trans h1.size h2.size
  refine ⟨(b _ (blk_lt h.blk) k.r.2.1 k.r.2.2.1).trans h.blk, h.cards.keep (b _ h.cards.lt k.c.1 k.c.2.1), hi.keep (h2.blk _ hi.lt k.i.1), hw, h.ms.keep (b _ h.ms.lt k.i.2.1.symm k.w.1.symm), fun x hx => (h.mb x hx).keep hz fun i hi2 => b i ((h.mb x hx).lt i hi2) (fun e => k.i.2.2 x hx (e ▸ hi2)) (fun e => k.w.2 x hx (e ▸ hi2)), h.eq, h.nd⟩
theorem memV_put {l : List MRec} {x : MRec} (h : lk (l.map fun x => (x.n, x.m)) x.n = none) : putL (memV l) x.n (.pointer (some ⟨x.a, 0, none⟩)) = memV (l ++ [x]) := by
  have e : lk (memV l) x.n = none := by
    rw [lk_none] at h ⊢
    intro p hp
    obtain ⟨z, hz, rfl⟩ := List.mem_map.1 hp
    exact h (z.n, z.m) (List.mem_map.2 ⟨z, hz, rfl⟩)
  unfold putL
  rw [e]
  unfold memV
  simp
/-- A new member. -/
theorem RollAt.newM {w w' : World} {y : Lay} {s : RS} (h : RollAt w y s) {n r : Int} (hn : s.memb n = none) {w1 : World} (hw1 : w.alloc (.cells #[.int .i64 r, .pointer none] 87) = w1) (h2 : But w1 w' y.m) (hm : MapV KI w' y.m (putL (memV y.l) n (.pointer (some ⟨w.heap.size, 0, none⟩)))) :
    ∃ y', RollAt w' y' ⟨s.ins, s.gone, s.ms ++ [(n, ⟨r, none⟩)], s.bk⟩ ∧ y'.r = y.r ∧ Turn w w' y.foot y'.foot := by
  have k := Lay.ne h.nd
  have hb1 : Below w.heap.size w w1 := by rw [← hw1]; exact Below.lit w _
  have hA : w1.heap[w.heap.size]? = some (.cells #[.int .i64 r, .pointer none] 87 (0, 0)) := by rw [← hw1]; exact (MapKept.heap_alloc w _).1
  have h1 := h.below hb1
  have hlt := h.lt
  have e : putL (memV y.l) n (.pointer (some ⟨w.heap.size, 0, none⟩)) = memV (y.l ++ [⟨n, ⟨r, none⟩, w.heap.size, 0, 0, 0, 0⟩]) := memV_put (x := ⟨n, ⟨r, none⟩, w.heap.size, 0, 0, 0, 0⟩) (by rw [h.eq]; exact hn)
  rw [e] at hm
  have hym : y.m < w.heap.size := h.ms.lt
  have hff : Lay.foot ⟨y.r, y.c, y.i, y.w, y.m, y.l ++ [⟨n, ⟨r, none⟩, w.heap.size, 0, 0, 0, 0⟩]⟩ = y.foot ++ [w.heap.size] := by
    unfold Lay.foot
    simp [MRec.foot, gfoot]
  refine ⟨⟨y.r, y.c, y.i, y.w, y.m, y.l ++ [⟨n, ⟨r, none⟩, w.heap.size, 0, 0, 0, 0⟩]⟩, ⟨?_, ?_, ?_, ?_, hm, ?_, ?_, ?_⟩, rfl, ?_⟩
  · exact (h2.blk _ (blk_lt h1.blk) k.r.2.2.2.1).trans h1.blk
  · exact h1.cards.keep (h2.blk _ h1.cards.lt k.c.2.2.1)
  · exact h1.ins.keep (h2.blk _ h1.ins.lt k.i.2.1)
  · exact h1.was.keep (h2.blk _ h1.was.lt k.w.1)
  · intro x hx
    rcases List.mem_append.1 hx with hx | hx
    · exact (h1.mb x hx).but h2 (k.m x hx)
    · rw [List.mem_singleton] at hx
      subst hx
      exact ⟨(h2.blk _ (blk_lt hA) (by show w.heap.size ≠ y.m; omega)).trans hA, fun d hd => by cases hd⟩
  · show (y.l ++ [_]).map _ = _
    rw [List.map_append, h.eq]; rfl
  · rw [hff]
    exact List.nodup_append.2 ⟨h.nd, by simp, fun a ha b hb e => by
      rw [List.mem_singleton] at hb
      have := hlt a ha
      omega⟩
  · rw [hff]
    refine ⟨h2.os.trans hb1.os, h2.tape.trans hb1.tape, h2.out.trans hb1.output, Nat.le_trans hb1.size h2.size, fun i hi hf => (h2.blk i (Nat.lt_of_lt_of_le hi hb1.size) fun e2 => hf (by rw [e2]; unfold Lay.foot; simp)).trans (hb1.block i hi), fun i hi => ?_⟩
    rcases List.mem_append.1 hi with hi | hi
    · exact .inl hi
    · rw [List.mem_singleton] at hi; exact .inr (by omega)
theorem more_perm (a b : List Int) (d : Int) : (a ++ [d] ++ b).Perm (a ++ b ++ [d]) := by
  rw [List.append_assoc, List.append_assoc]; exact List.Perm.append_left _ List.perm_append_comm
theorem nodup_snoc {a : List Int} {d : Int} (h : a.Nodup) (hd : d ∉ a) : (a ++ [d]).Nodup :=
  List.nodup_append.2 ⟨h, by simp, fun x hx y hy e => hd (by rw [List.mem_singleton] at hy; rw [← hy, ← e]; exact hx)⟩
set_option maxRecDepth 100000 in
set_option maxHeartbeats 4000000 in
theorem comes_any (w : World) (y : Lay) (s : RS) (d r : Int) (hR : RollAt w y s) (hd : i64ok d) (hf1 : (s.ins ++ s.gone).length ≤ 1000) (hf2 : s.ms.length ≤ 1000) :
    Calls Tryd.prog 39 #[.pointer (some ⟨y.r, 0, none⟩), .int .i64 d, .int .i64 r] w fun e w' => e = .returned (.tuple #[]) ∧ GoesTo w y (s.comes d r) w' := by
  have hmb := ofD_bd d
  have hmok : i64ok (ofD d) := by unfold i64ok; omega
  cases hfr : s.fresh d with
  | false =>
    have hs : s.comes d r = s := by unfold RS.comes; rw [hfr]; rfl
    rw [hs]
    go_enter Tryd.func39, Tryd.ntmps39
    go_wp2_with (go_at_call 38; refine (fresh_any _ y s d hR hd).mono ?_; rintro e w' ⟨rfl, rfl⟩; rw [hfr])
    go_returns
    exact ⟨rfl, y, hR, rfl, Turn.refl _ _⟩
  | true =>
    have hnw : d ∉ s.ins ++ s.gone := by
      unfold RS.fresh RS.wasB at hfr
      rw [Bool.and_eq_true, Bool.not_eq_true', decide_eq_false_iff_not] at hfr
      exact hfr.2
    have hni : d ∉ s.ins := fun h => hnw (List.mem_append_left _ h)
    have hRd := hR.drew
    have c1 := hR.c1
    have c2 := hR.c2
    have hlen1 : (setV s.ins).length ≤ 1000000 := by unfold setV; rw [List.length_map]; rw [List.length_append] at hf1; omega
    have hlen2 : (setV (s.ins ++ s.gone)).length ≤ 1000000 := by unfold setV; rw [List.length_map]; omega
    obtain ⟨v0, st0, w1, w2, e1, e2, hM2, ht1, ht2⟩ := hRd.ins.entry (K := KI) Tryd.underlying78 hlen1 zero_bool hd (.bool true)
    have k := Lay.ne hR.nd
    have hB2 := But.of_turned ht2
    have hw2 : MapV KI w2 y.w (setV (s.ins ++ s.gone)) := hRd.was.keep (hB2.blk _ hRd.was.lt k.i.1.symm)
    obtain ⟨v1, st1, w3, w4, e3, e4, hM4, ht3, ht4⟩ := hw2.entry (K := KI) Tryd.underlying78 hlen2 zero_bool hd (.bool true)
    have hB4 := But.of_turned ht4
    have hp := more_perm s.ins s.gone d
    have hR4 := hRd.more hB2 hB4 (setV_put hM2 hni) (setV_congr (setV_put hM4 hnw) (hp.nodup_iff.2 (nodup_snoc hR.u hnw)) (fun a => hp.mem_iff))
    have hT4 : Turn w w4 y.foot y.foot := ((Turn.of_below (F := y.foot) (Below.refl w.heap.size w).drew).trans (hB2.turn (by unfold Lay.foot; simp) fun _ h => h)).trans (hB4.turn (by unfold Lay.foot; simp) fun _ h => h)
    have hs1 : s.comes d r = ⟨s.ins ++ [d], s.gone, if (s.memb (ofD d)).isSome = true then s.ms else s.ms ++ [(ofD d, ⟨r, none⟩)], s.bk⟩ := by unfold RS.comes; rw [hfr]; rfl
    have c3 := hR4.c3
    have hlen3 : (memV y.l).length ≤ 1000000 := by
      have e := congrArg List.length hR.eq
      rw [List.length_map] at e
      unfold memV
      rw [List.length_map]; omega
    go_enter Tryd.func39, Tryd.ntmps39
    go_wp2_with (go_at_call 38; refine (fresh_any _ y s d hR hd).mono ?_; rintro e w' ⟨rfl, rfl⟩; rw [hfr])
    replace e1 : (Instr.mapEntry 78 (.map (some y.i)) (.int .i64 d)).run Tryd.prog w.drew = .ok (.tuple #[v0, .int .i64 st0]) w1 := e1
    replace e3 : (Instr.mapEntry 78 (.map (some y.w)) (.int .i64 d)).run Tryd.prog w2 = .ok (.tuple #[v1, .int .i64 st1]) w3 := e3
    go_region
    clear e1 e2 e3 e4 hM2 hM4 ht1 ht2 ht3 ht4 hw2 hRd c1 c2
    replace hB2 := Lib.hid hB2
    replace hB4 := Lib.hid hB4
    rcases hR4.mem hmok with ⟨h1, hl⟩ | ⟨x, hx, hxn, h1, hl⟩
    · have hs2 : s.comes d r = ⟨s.ins ++ [d], s.gone, s.ms ++ [(ofD d, ⟨r, none⟩)], s.bk⟩ := by
        rw [hs1]
        have : s.memb (ofD d) = none := h1
        rw [this]; rfl
      replace h1 := Lib.hid h1
      replace hs1 := Lib.hid hs1
      replace hs2 := Lib.hid hs2
      have hR5 := hR4.below (Below.lit w4 (.cells #[.int .i64 r, .pointer none] 87))
      have c35 := hR5.c3
      go_wp2_with (first
        | (go_at_call 37; refine (of_any _ y _ d hR4 hd).mono ?_; rintro e w' ⟨rfl, rfl⟩)
        | (at_mapUpdate; refine wp_upd (K := KI) _ rfl _ _ _ 79 rfl 82 Tryd.underlying79 y.m (memV y.l) hlen3 rfl hR5.ms (ofD d) (.pointer (some ⟨w4.heap.size, 0, none⟩)) rfl rfl hmok ?_; intro w6 hM6 hB6 hz6)
        | fail)
      go_returns
      rw [hs2.out]
      obtain ⟨y', hR', hr', hT'⟩ := hR4.newM h1.out rfl hB6 hM6
      exact ⟨rfl, y', hR', hr', hT4.trans hT'⟩
    · have hs2 : s.comes d r = ⟨s.ins ++ [d], s.gone, s.ms, s.bk⟩ := by
        rw [hs1]
        have : s.memb (ofD d) = some x.m := h1
        rw [this]; rfl
      replace h1 := Lib.hid h1
      replace hs1 := Lib.hid hs1
      replace hs2 := Lib.hid hs2
      go_wp2_with (go_at_call 37; refine (of_any _ y _ d hR4 hd).mono ?_; rintro e w' ⟨rfl, rfl⟩)
      go_returns
      rw [hs2.out]
      exact ⟨rfl, y, hR4, rfl, hT4⟩
end Go.Proofs.YtkolilbebkkpdaaDoor
