/-
  A member's guard, told.
  The document's roll: the members.
  Two rolls tell the same: the walk of alike.
  The document's roll beside a roll of one's own.
-/
import Derived.Test.YtkolilbebkkpdaaDoorRmN
import Derived.Test.YtkolilbebkkpdaaDoorRmG
import Derived.Test.YtkolilbebkkpdaaDoorRmF
import Derived.Test.YtkolilbebkkpdaaDoorRmH
namespace Go.Proofs.YtkolilbebkkpdaaDoor
open Go.RowKit Go.Maps Go.BigFrame
attribute [local go_sem] in_gr

theorem results_row5 {P : Program} {fn : Func} {p q1 q2 q3 q4 : Tmp} {ty : TypeId} (h : fn.results = #[.cell p ty, .tmp q1, .tmp q2, .tmp q3, .tmp q4]) (tmps : Array Value) (w : World) (g : Nat) (t : TypeId) (cs : Array Value) (fr : Nat × Nat) (d : TypeDesc) (v1 v2 v3 v4 : Value)
  (hp : tmps.getD p undef = .pointer (some ⟨g, 0, none⟩)) (hg : w.heap[g]? = some (.cells cs t fr)) (h1 : tmps.getD q1 undef = v1) (h2 : tmps.getD q2 undef = v2) (h3 : tmps.getD q3 undef = v3) (h4 : tmps.getD q4 undef = v4)
  (hu : P.underlying ty = some d) (hd : (match d with | .struct _ | .array _ _ => true | _ => false) = true) (hi : (P.info? ty).map (·.size) = some cs.size) :
  (results fn tmps).run P w = .ok (.tuple #[.agg cs, v1, v2, v3, v4]) w := by
 have hp' : tmps[p]?.getD undef = .pointer (some ⟨g, 0, none⟩) := by simpa using hp
 have h1' : tmps[q1]?.getD undef = v1 := by simpa using h1
 have h2' : tmps[q2]?.getD undef = v2 := by simpa using h2
 have h3' : tmps[q3]?.getD undef = v3 := by simpa using h3
 have h4' : tmps[q4]?.getD undef = v4 := by simpa using h4
 simp [results, h, hp', h1', h2', h3', h4', asAddr, run_loadVar_row w g t ty cs fr d hg hu hd hi]
theorem zero_I (w : World) : (zeroValue 34).run Tryd.prog w = .ok (.agg #[.int .i64 0, .int .i64 0, .int .u64 0]) w := by kernel_rfl
set_option maxRecDepth 100000 in
set_option maxHeartbeats 8000000 in
theorem Guard_any (w : World) (y : Lay) (s : RS) (n : Int) (k : Nat) (hR : RollAt w y s) (hs : s.Ok k) (hn : i64ok n) :
  Calls Tryd.prog 63 #[.pointer (some ⟨y.r, 0, none⟩), .int .i64 n] w fun e w' => ∃ q c, e = .returned (.tuple #[.agg #[.int .i64 (idO (gdO (s.memb n))).b, .int .i64 (idO (gdO (s.memb n))).s, .int .u64 (idO (gdO (s.memb n))).u], .slice q (gsO (gdO (s.memb n))).length c, .int .i64 (nO (gdO (s.memb n))), .int .i64 (tO (gdO (s.memb n))), .bool (isO (gdO (s.memb n)))]) ∧ UI w' q (gsO (gdO (s.memb n))).length (gsO (gdO (s.memb n))) ∧ Below w.heap.size w w' := by
 have hbi := Below.lit w (.cells #[.int .i64 0, .int .i64 0, .int .u64 0] 34)
 obtain ⟨wi, hwi, hI⟩ := nameW (p := fun W => IdAt W w.heap.size ⟨0, 0, 0⟩) (IdAt.made w ⟨0, 0, 0⟩)
 replace hwi : Hid (w.alloc (.cells #[.int .i64 0, .int .i64 0, .int .u64 0] 34) = wi) := hwi
 rw [hwi.out] at hbi
 obtain ⟨bi, hbin⟩ : ∃ bi, Hid (w.heap.size = bi) := ⟨_, Lib.hid rfl⟩
 have hRi := hR.below hbi
 rw [hbin.out] at hI hbi
 have c3 := hRi.c3
 obtain ⟨go, hgo⟩ : ∃ go, Hid (gdO (s.memb n) = go) := ⟨_, Lib.hid rfl⟩
 rw [hgo.out]
 cases go with
 | none =>
  have hB := belowSetRow (cs := #[.int .i64 0, .int .i64 0, .int .u64 0]) hbi (Nat.le_refl bi)
  rcases hRi.mem hn with ⟨h1, hl⟩ | ⟨x, hx, hxn, h1, hl⟩
  ·replace hR := Lib.hid hR
   go_enter Tryd.func63, Tryd.ntmps63
   go_upto_region 1 with (first | (rw [hwi.out]) | (refine wpL_allocT 34 _ rfl rfl (zero_I _) ?_; simp only [Act.put, List.setIfInBounds_toArray, List.set_cons_succ, List.set_cons_zero]) | fail)
   rw [hbin.out]
   go_wp2_with (first
    | (refine wpList_store_row rfl 34 _ _ rfl bi #[.int .i64 0, .int .i64 0, .int .u64 0] rfl rfl 34 _ hI (by kernel_rfl) rfl (by simp [Value.oneCell']) ?_)
    | fail)
   refine bodyPost_ret (v := .tuple #[.agg #[.int .i64 0, .int .i64 0, .int .u64 0], .slice none 0 0, .int .i64 0, .int .i64 0, .bool false]) ?_ rfl ?_
   ·exact results_row5 rfl _ _ bi 34 _ (0, 0) _ _ _ _ _ rfl (setRow_heap _ _ _ _ _ _ hI) rfl rfl rfl rfl Tryd.underlying34 rfl (by kernel_rfl)
   ·exact ⟨none, 0, rfl, ⟨rfl, .nil, fun _ h => by cases h⟩, by rw [hbin.out]; exact hB⟩
  ·have hg : x.m.g = none := by have := hgo.out; rw [h1] at this; exact this
   have q1 := (hRi.mb x hx).c1
   rw [hg] at q1
   replace q1 : wi.cell? ⟨x.a, 1, none⟩ = some (.pointer none) := q1
   replace hR := Lib.hid hR
   replace hg := Lib.hid hg
   replace h1 := Lib.hid h1
   replace hx := Lib.hid hx
   go_enter Tryd.func63, Tryd.ntmps63
   go_upto_region 1 with (first | (rw [hwi.out]) | (refine wpL_allocT 34 _ rfl rfl (zero_I _) ?_; simp only [Act.put, List.setIfInBounds_toArray, List.set_cons_succ, List.set_cons_zero]) | fail)
   rw [hbin.out]
   go_wp2_with (first
    | (refine wpList_store_row rfl 34 _ _ rfl bi #[.int .i64 0, .int .i64 0, .int .u64 0] rfl rfl 34 _ hI (by kernel_rfl) rfl (by simp [Value.oneCell']) ?_)
    | fail)
   refine bodyPost_ret (v := .tuple #[.agg #[.int .i64 0, .int .i64 0, .int .u64 0], .slice none 0 0, .int .i64 0, .int .i64 0, .bool false]) ?_ rfl ?_
   ·exact results_row5 rfl _ _ bi 34 _ (0, 0) _ _ _ _ _ rfl (setRow_heap _ _ _ _ _ _ hI) rfl rfl rfl rfl Tryd.underlying34 rfl (by kernel_rfl)
   ·exact ⟨none, 0, rfl, ⟨rfl, .nil, fun _ h => by cases h⟩, by rw [hbin.out]; exact hB⟩
 | some d =>
  rcases hRi.mem hn with ⟨h1, hl⟩ | ⟨x, hx, hxn, h1, hl⟩
  ·have := hgo.out; rw [h1] at this; cases this
  ·have hg : x.m.g = some d := by have := hgo.out; rw [h1] at this; exact this
   have q1 := (hRi.mb x hx).c1
   rw [hg] at q1
   replace q1 : wi.cell? ⟨x.a, 1, none⟩ = some (.pointer (some ⟨x.g, 0, none⟩)) := q1
   have hD0 := (hR.mb x hx).gd d hg
   have l0 : x.g < bi := by rw [← hbin.out]; exact blk_lt hD0.blk
   have hD := (hRi.mb x hx).gd d hg
   have hds := (hs.gd _ (hRi.memS hx) d hg)
   have hne : 0 < d.gs.length := by
    cases e : d.gs with
    | nil => exact absurd e hds.ne
    | cons _ _ => simp
   have hgl : d.gs.length ≤ 1000000 := Nat.le_trans hds.gl (by decide)
   have f0 := hD.c0
   have f1 := hD.c1
   have f2 := hD.c2
   have f3 := hD.c3
   have f4 := hD.c4
   have f5 := hD.c5
   have hUe := hD.gs
   have he : x.e < wi.heap.size := hD.lt
   replace hR := Lib.hid hR
   replace hg := Lib.hid hg
   replace h1 := Lib.hid h1
   replace hx := Lib.hid hx
   replace hD0 := Lib.hid hD0
   replace hD := Lib.hid hD
   replace hds := Lib.hid hds
   go_enter Tryd.func63, Tryd.ntmps63
   go_upto_region 1 with (first | (rw [hwi.out]) | (refine wpL_allocT 34 _ rfl rfl (zero_I _) ?_; simp only [Act.put, List.setIfInBounds_toArray, List.set_cons_succ, List.set_cons_zero]) | fail)
   rw [hbin.out]
   go_upto_region 5 with fail
   obtain ⟨wd, hwd⟩ : ∃ wd, Hid (wi.drew = wd) := ⟨_, Lib.hid rfl⟩
   have hw0 : Below wi.heap.size wi wd := by rw [← hwd.out]; exact (Below.refl _ _).drew
   replace f0 := (hw0.cell (cell_lt f0)).trans f0
   replace f1 := (hw0.cell (cell_lt f1)).trans f1
   replace f2 := (hw0.cell (cell_lt f2)).trans f2
   replace f3 := (hw0.cell (cell_lt f3)).trans f3
   replace f4 := (hw0.cell (cell_lt f4)).trans f4
   replace f5 := (hw0.cell (cell_lt f5)).trans f5
   replace hUe := hUe.below hw0
   have hId := hI.below hw0
   have hbi2 : bi ≤ wi.heap.size := Nat.le_of_lt hI.lt
   have hbd := hbi.trans (hw0.mono hbi2)
   have hb0 : Below bi wd wd := Below.refl _ _
   have hbiw : w.heap.size = bi := hbin.out
   replace hbiw := Lib.hid hbiw
   refine wp_region_D (D := fun T => Below bi wd T) (by kernel_rfl) ?_
   rw [hwd.out]
   change wpAnyD _ _ _ _ _ 22 _ _ _
   apply tkD 0 hb0 rfl (by kernel_rfl) (by kernel_rfl) (by kernel_rfl) (fun _ _ _ h => by first | exact h | exact absurd h.1 (fun h => by cases h)) (by kernel_rfl)
   ·intro T hT
    go_simp
    try rfl
   try go_frame
   apply tkD 1 hb0 rfl (by kernel_rfl) (by kernel_rfl) (by kernel_rfl) (fun _ _ _ h => by first | exact h | exact absurd h.1 (fun h => by cases h)) (by kernel_rfl)
   ·intro T hT
    go_simp
    try rfl
   try go_frame
   apply tkD 2 hb0 rfl (by kernel_rfl) (by kernel_rfl) (by kernel_rfl) (fun _ _ _ h => by first | exact h | exact absurd h.1 (fun h => by cases h)) (by kernel_rfl)
   ·intro T hT
    go_simp
    try rfl
   try go_frame
   apply tkD 3 hb0 rfl (by kernel_rfl) (by kernel_rfl) (by kernel_rfl) (fun _ _ _ h => by first | exact h | exact absurd h.1 (fun h => by cases h)) (by kernel_rfl)
   ·intro T hT
    have hT0 := (hT.cell (l0)).trans f0
    have hT1 := (hT.cell (l0)).trans f1
    have hT2 := (hT.cell (l0)).trans f2
    go_simp
    try rfl
   try go_frame
   apply tkD 4 hb0 rfl (by kernel_rfl) (by kernel_rfl) (by kernel_rfl) (fun _ _ _ h => by first | exact h | exact absurd h.1 (fun h => by cases h)) (by kernel_rfl)
   ·intro T hT
    go_simp
    try rfl
   try go_frame
   apply tkD 5 hb0 rfl (by kernel_rfl) (by kernel_rfl) (by kernel_rfl) (fun _ _ _ h => by first | exact h | exact absurd h.1 (fun h => by cases h)) (by kernel_rfl)
   ·intro T hT
    go_simp
    try rfl
   try go_frame
   apply tkD 6 hb0 rfl (by kernel_rfl) (by kernel_rfl) (by kernel_rfl) (fun _ _ _ h => by first | exact h | exact absurd h.1 (fun h => by cases h)) (by kernel_rfl)
   ·intro T hT
    go_simp
    try rfl
   try go_frame
   apply tkD 7 hb0 rfl (by kernel_rfl) (by kernel_rfl) (by kernel_rfl) (fun _ _ _ h => by first | exact h | exact absurd h.1 (fun h => by cases h)) (by kernel_rfl)
   ·intro T hT
    have hT0 := (hT.cell (l0)).trans f3
    go_simp
    try rfl
   try go_frame
   apply tkD 9 hb0 rfl (by kernel_rfl) (by kernel_rfl) (by kernel_rfl) (fun _ _ _ h => by first | exact h | exact absurd h.1 (fun h => by cases h)) (by kernel_rfl)
   ·intro T hT
    go_simp
    try rfl
   try go_frame
   apply tkD 10 hb0 rfl (by kernel_rfl) (by kernel_rfl) (by kernel_rfl) (fun _ _ _ h => by first | exact h | exact absurd h.1 (fun h => by cases h)) (by kernel_rfl)
   ·intro T hT
    go_simp
    try rfl
   try go_frame
   apply tkD 11 hb0 rfl (by kernel_rfl) (by kernel_rfl) (by kernel_rfl) (fun _ _ _ h => by first | exact h | exact absurd h.1 (fun h => by cases h)) (by kernel_rfl)
   ·intro T hT
    go_simp
    try rfl
   try go_frame
   apply tkD 12 hb0 rfl (by kernel_rfl) (by kernel_rfl) (by kernel_rfl) (fun _ _ _ h => by first | exact h | exact absurd h.1 (fun h => by cases h)) (by kernel_rfl)
   ·intro T hT
    have hT0 := (hT.cell (l0)).trans f4
    go_simp
    try rfl
   try go_frame
   apply tkD 13 hb0 rfl (by kernel_rfl) (by kernel_rfl) (by kernel_rfl) (fun _ _ _ h => by first | exact h | exact absurd h.1 (fun h => by cases h)) (by kernel_rfl)
   ·intro T hT
    go_simp
    try rfl
   try go_frame
   apply tkD 14 hb0 rfl (by kernel_rfl) (by kernel_rfl) (by kernel_rfl) (fun _ _ _ h => by first | exact h | exact absurd h.1 (fun h => by cases h)) (by kernel_rfl)
   ·intro T hT
    go_simp
    try rfl
   try go_frame
   apply tkD 15 hb0 rfl (by kernel_rfl) (by kernel_rfl) (by kernel_rfl) (fun _ _ _ h => by first | exact h | exact absurd h.1 (fun h => by cases h)) (by kernel_rfl)
   ·intro T hT
    go_simp
    try rfl
   try go_frame
   apply tkD 16 hb0 rfl (by kernel_rfl) (by kernel_rfl) (by kernel_rfl) (fun _ _ _ h => by first | exact h | exact absurd h.1 (fun h => by cases h)) (by kernel_rfl)
   ·intro T hT
    have hT0 := (hT.cell (l0)).trans f5
    go_simp
    try rfl
   try go_frame
   refine oneD 8 (by kernel_rfl) rfl (by kernel_rfl) (fun K hK => ?_)
   go_simp
   refine (Clone_pos _ _ d.gs _ wd hUe hgl hne).mono ?_
   rintro e T ⟨gb, gc, rfl, hgb1, hgb2, _, hU5, hbT⟩
   have hbi3 : bi ≤ wd.heap.size := Nat.le_trans hbi2 hw0.size
   have hbT' := hbT.mono hbi3
   refine hK _ _ ⟨hbT', ?_⟩
   clear hK K
   try go_frame
   have hIT := hId.below hbT
   refine oneD 17 (by kernel_rfl) rfl (by kernel_rfl) (fun K hK => ?_)
   refine wp_store_row 34 _ _ rfl bi #[.int .i64 d.id.b, .int .i64 d.id.s, .int .u64 d.id.u] rfl rfl 34 _ hIT (by kernel_rfl) rfl (by simp [Value.oneCell']) ?_
   have hbS := belowSetRow (cs := #[.int .i64 d.id.b, .int .i64 d.id.s, .int .u64 d.id.u]) hbT' (Nat.le_refl bi)
   refine hK _ _ ⟨hbS, ?_⟩
   clear hK K
   try go_frame
   apply tkD 18 hbS rfl (by kernel_rfl) (by kernel_rfl) (by kernel_rfl) (fun _ _ _ h => by first | exact h | exact absurd h.1 (fun h => by cases h)) (by kernel_rfl)
   ·intro T hT
    go_simp
    try rfl
   try go_frame
   apply tkD 19 hbS rfl (by kernel_rfl) (by kernel_rfl) (by kernel_rfl) (fun _ _ _ h => by first | exact h | exact absurd h.1 (fun h => by cases h)) (by kernel_rfl)
   ·intro T hT
    go_simp
    try rfl
   try go_frame
   apply tkD 20 hbS rfl (by kernel_rfl) (by kernel_rfl) (by kernel_rfl) (fun _ _ _ h => by first | exact h | exact absurd h.1 (fun h => by cases h)) (by kernel_rfl)
   ·intro T hT
    go_simp
    try rfl
   try go_frame
   apply tkD 21 hbS rfl (by kernel_rfl) (by kernel_rfl) (by kernel_rfl) (fun _ _ _ h => by first | exact h | exact absurd h.1 (fun h => by cases h)) (by kernel_rfl)
   ·intro T hT
    go_simp
    try rfl
   try go_frame
   refine wpAnyD_done (by kernel_rfl) ?_ _
   go_wp2_with fail
   refine bodyPost_ret (v := .tuple #[.agg #[.int .i64 d.id.b, .int .i64 d.id.s, .int .u64 d.id.u], .slice (some ⟨gb, 0, none⟩) d.gs.length gc, .int .i64 d.n, .int .i64 d.t, .bool true]) ?_ rfl ?_
   ·exact results_row5 rfl _ _ bi 34 _ (0, 0) _ _ _ _ _ rfl (setRow_heap _ _ _ _ _ _ hIT) rfl rfl rfl rfl Tryd.underlying34 rfl (by kernel_rfl)
   ·have hgbb : bi < gb := Nat.lt_of_lt_of_le (Nat.lt_of_lt_of_le hI.lt hw0.size) hgb1
    exact ⟨some ⟨gb, 0, none⟩, gc, rfl, hU5.setRow (fun a ha => by injection ha with ha; subst ha; exact hgbb), by rw [hbin.out]; exact hbd.trans hbS⟩
end Go.Proofs.YtkolilbebkkpdaaDoor

namespace Go.Proofs.YtkolilbebkkpdaaDoor
open Go.RowKit Go.Maps Go.BigFrame
attribute [local go_sem] in_gr

set_option maxRecDepth 100000 in
set_option maxHeartbeats 8000000 in
theorem MemsR_any (w : World) (a : RfV) (s : RS) (L : List ME) (vs : List VI) (kk : Nat) (hR : RfAt w a s L vs) (hs : s.Ok kk) :
  Calls Tryd.prog 60 #[.agg (rfC a s vs.length)] w fun e w' => ∃ p c, e = .returned (.slice p s.ms.length c) ∧ UI w' p s.ms.length (sortI (s.ms.map Prod.fst)) ∧ Below w.heap.size w w' := by
 have hfm := hs.fewM
 have hbx := Below.lit w (.cells (rfC a s vs.length) 60)
 have hRb := hR.below hbx
 have hBx := RfBox.made w a s vs.length
 obtain ⟨wb, hwb, hBx⟩ := nameW (p := fun W => RfBox W w.heap.size a s vs.length) hBx
 rw [hwb.out] at hbx hRb
 obtain ⟨bx, hbxn⟩ : ∃ bx, Hid (w.heap.size = bx) := ⟨_, Lib.hid rfl⟩
 rw [hbxn.out] at hBx
 obtain ⟨nm, hnm⟩ : ∃ n, Hid (s.ms.length = n) := ⟨_, Lib.hid rfl⟩
 rw [hnm.out] at hfm ⊢
 obtain ⟨xs, hxs⟩ : ∃ xs, Hid (s.ms.map Prod.fst = xs) := ⟨_, Lib.hid rfl⟩
 rw [hxs.out]
 go_enter Tryd.func60, Tryd.ntmps60
 go_upto_region 1 with (first | (rw [hwb.out]) | fail)
 rw [hbxn.out]
 have z3 := hBx.c3
 rw [hnm.out] at z3
 have hBx' := Lib.hid hBx
 have hRb' := Lib.hid hRb
 replace hbx := Lib.hid hbx
 clear hBx hRb
 go_wp2_with fail
 go_loopw [3, 4] (fun v i wr => ∃ (j : Nat), j ≤ nm ∧ i = .int .i64 j ∧ OwnI wr wb.heap.size v j ((s.ms.take j).map Prod.fst) ∧ Hid (Below wb.heap.size wb wr)) (fun _ i _ => nm - (intOf i).toNat)
 case atStart => exact ⟨0, Nat.zero_le _, rfl, OwnI.nil _ _, Lib.hid (Below.refl _ _)⟩
 case round =>
  clear z3
  obtain ⟨j, hj, rfl, hown, hbr⟩ := hrel
  have z3 := (hBx'.out.below hbr.out).c3
  rw [hnm.out] at z3
  by_cases hlt : j < nm
  ·have hjl : j < s.ms.length := by rw [hnm.out]; exact hlt
   obtain ⟨b, off, x, hxL, hxs', hp, _, _, hc⟩ := (hRb'.out.below hbr.out).at_ hjl
   have c0 : wr.cell? ⟨b, off + j * 11, none⟩ = some (.int .i64 x.1.1) := hc 0 _ rfl
   have hix1 : (0 : Int) ≤ (j : Int) := by omega
   have hix2 : (j : Int) < (nm : Int) := by omega
   have hmb := hs.mem _ (List.getElem_mem hjl)
   rw [← hxs'] at hmb
   have htk : (s.ms.take (j + 1)).map Prod.fst = (s.ms.take j).map Prod.fst ++ [x.1.1] := by rw [List.take_add_one, List.getElem?_eq_getElem hjl, List.map_append, hxs']; rfl
   obtain ⟨xn, hxn⟩ : ∃ xn, Hid (x.1.1 = xn) := ⟨_, Lib.hid rfl⟩
   rw [hxn.out] at c0 htk hmb
   obtain ⟨hm1, hm2, _⟩ := hmb
   rw [hp] at z3
   have hzr : wb.heap.size ≤ wr.heap.size := hbr.out.size
   replace hc := Lib.hid hc
   replace hxs' := Lib.hid hxs'
   replace htk := Lib.hid htk
   replace hp := Lib.hid hp
   go_wp2_with (first
    | (at_builtin; refine app_i rfl _ _ rfl hown rfl (by rfl) ⟨by omega, by omega⟩ (by omega) hzr ?_; intro v4 w4 hown4 hb4)
    | fail)
   go_roundw
   case rel => exact ⟨j + 1, by omega, by go_num, by rw [htk.out]; exact hown4, Lib.hid (hbr.out.trans hb4)⟩
   case measure => simp [intOf]; omega
  ·have hjn : s.ms.take j = s.ms := List.take_of_length_le (by rw [hnm.out]; omega)
   have hjm : j = nm := by omega
   rw [hjn] at hown
   subst hjm
   obtain ⟨q, cq, rfl, _, hQ, _⟩ := hown.u
   rw [hxs.out] at hQ hown
   replace hjn := Lib.hid hjn
   clear hown
   go_wp2_with fail
   refine (Sorted_ref q j xs cq wr hQ (by omega)).mono ?_
   rintro e w3 ⟨v3, rfl, hown3, hb3⟩
   obtain ⟨p3, c3, rfl, _, hU, _⟩ := hown3.u
   have hbe := hbx.out.trans ((hbr.out.trans (hb3.mono hbr.out.size)).mono hbx.out.size)
   go_wp2_with fail
   go_ret
   exact ⟨p3, c3, rfl, hU, hbe⟩
end Go.Proofs.YtkolilbebkkpdaaDoor

namespace Go.Proofs.YtkolilbebkkpdaaDoor
open Go.RowKit Go.Maps Go.BigFrame
attribute [local go_sem] in_gr

/-- Both rolls, and the variable. -/
structure AC (w : World) (bx : Nat) (y : Lay) (a : RfV) (s : RS) (L : List ME) (vs : List VI) : Prop where
 ro : RollAt w y s
 rf : RfAt w a s L vs
 box : RfBox w bx a s vs.length
theorem AC.below {w w' : World} {bx : Nat} {y : Lay} {a : RfV} {s : RS} {L : List ME} {vs : List VI} (h : AC w bx y a s L vs) (hb : Below w.heap.size w w') : AC w' bx y a s L vs :=
 ⟨h.ro.below hb, h.rf.below hb, h.box.below hb⟩
/-- A guarded load of a name. -/
theorem wpL_loadIG {ops : Array Oper} {rest : List Oper} {o : Oper} {ac : Act} {w : World} {Q : Exit → Act → World → Prop} (x : Operand) (ho : o.op = .load 34 x) (b k : Nat) (hx : ac.eval x = .pointer (some ⟨b, k, none⟩)) (i : Idn) (hc : ∀ j u, (idE.c i)[j]? = some u → w.cell? ⟨b, k + j, none⟩ = some u)
  (hw : Region.wanted o (yielded ops ac.tmps) = true) (h : wpList Tryd.prog ops Q rest (ac.put o.dst (.agg #[.int .i64 i.b, .int .i64 i.s, .int .u64 i.u])) w) : wpList Tryd.prog ops Q (o :: rest) ac w := by
 refine wpList_unguard hw ?_
 exact wpL_loadI rfl x ho b k hx i hc h
theorem idc {w : World} {b k : Nat} {i : Idn} (h0 : w.cell? ⟨b, k, none⟩ = some (.int .i64 i.b)) (h1 : w.cell? ⟨b, k + 1, none⟩ = some (.int .i64 i.s)) (h2 : w.cell? ⟨b, k + 2, none⟩ = some (.int .u64 i.u)) : ∀ j u, (idE.c i)[j]? = some u → w.cell? ⟨b, k + j, none⟩ = some u := fun j u hu => by
 rcases j with _ | _ | _ | j
 ·simp only [idE, List.getElem?_cons_zero, Option.some.injEq] at hu; subst hu; exact h0
 ·simp only [idE, List.getElem?_cons_succ, List.getElem?_cons_zero, Option.some.injEq] at hu; subst hu; exact h1
 ·simp only [idE, List.getElem?_cons_succ, List.getElem?_cons_zero, Option.some.injEq] at hu; subst hu; exact h2
 ·simp [idE] at hu
set_option maxRecDepth 100000 in
set_option maxHeartbeats 16000000 in
theorem alike_any (w : World) (y : Lay) (a : RfV) (s : RS) (L : List ME) (vs : List VI) (kk : Nat) (hRo : RollAt w y s) (hR : RfAt w a s L vs) (hV : VsOk s vs) (hs : s.Ok kk) (hkk : kk ≤ 1000) :
  Calls Tryd.prog 30 #[.pointer (some ⟨y.r, 0, none⟩), .agg (rfC a s vs.length)] w fun e w' => e = .returned (.bool true) ∧ Below w.heap.size w w' := by
 have hfm := hs.fewM
 have hfw := hs.few
 have hfw' := hfw
 rw [List.length_append] at hfw'
 have hbx := Below.lit w (.cells (rfC a s vs.length) 60)
 have hRb := hR.below hbx
 have hBx := RfBox.made w a s vs.length
 obtain ⟨wb, hwb, hBx⟩ := nameW (p := fun W => RfBox W w.heap.size a s vs.length) hBx
 rw [hwb.out] at hbx hRb
 obtain ⟨bx, hbxn⟩ : ∃ bx, Hid (w.heap.size = bx) := ⟨_, Lib.hid rfl⟩
 rw [hbxn.out] at hBx
 have hA := AC.mk (hRo.below hbx) hRb hBx
 clear hRb hBx
 go_enter Tryd.func30, Tryd.ntmps30
 go_upto_region 1 with (first | (rw [hwb.out]) | fail)
 rw [hbxn.out]
 replace hbx := Lib.hid hbx
 replace hA := Lib.hid hA
 replace hRo := Lib.hid hRo
 go_cut [38] from 18 to 37 (fun v T => v = .bool false ∧ Below wb.heap.size wb T)
 case first =>
  obtain ⟨wd, hwd⟩ : ∃ wd, Hid (wb.drew = wd) := ⟨_, Lib.hid rfl⟩
  have hw0 : Below wb.heap.size wb wd := by rw [← hwd.out]; exact (Below.refl _ _).drew
  have hAd := hA.out.below hw0
  have hb0 : Below wd.heap.size wd wd := Below.refl _ _
  have hboxd := hAd.box
  have z4 := hboxd.c4
  refine wp_region_D (D := fun T => Below wd.heap.size wd T) (by kernel_rfl) ?_
  rw [hwd.out]
  change wpAnyD _ _ _ _ _ 21 _ _ _
  apply tkD 0 hb0 rfl (by kernel_rfl) (by kernel_rfl) (by kernel_rfl) (fun _ _ _ h => by first | exact h | exact absurd h.1 (fun h => by cases h)) (by kernel_rfl)
  ·intro T hT
   go_simp
   try rfl
  try go_frame
  apply tkD 2 hb0 rfl (by kernel_rfl) (by kernel_rfl) (by kernel_rfl) (fun _ _ _ h => by first | exact h | exact absurd h.1 (fun h => by cases h)) (by kernel_rfl)
  ·intro T hT
   exact run_loadR (hboxd.below hT) rfl rfl
  try go_frame
  refine oneD 1 (by kernel_rfl) rfl (by kernel_rfl) (fun K hK => ?_)
  go_simp
  refine (Devices_any wd y s kk hAd.ro hs).mono ?_
  rintro e w1 ⟨p1, c1, rfl, hU1, _, hb1⟩
  refine hK _ _ ⟨hb1, ?_⟩
  clear hK K
  try go_frame
  refine oneD 3 (by kernel_rfl) rfl (by kernel_rfl) (fun K hK => ?_)
  go_simp
  refine (DevR_any w1 a s L vs (hAd.rf.below hb1) (by omega)).mono ?_
  rintro e w2 ⟨p2, c2, rfl, hU2, hb2⟩
  have hb12 := hb1.trans (hb2.mono hb1.size)
  refine hK _ _ ⟨hb12, ?_⟩
  clear hK K
  try go_frame
  refine oneD 4 (by kernel_rfl) rfl (by kernel_rfl) (fun K hK => ?_)
  go_simp
  refine (SameInts_any p1 p2 _ _ _ _ c1 c2 w2 (hU1.below hb2) hU2 (by omega) (by omega)).mono ?_
  rintro e w3 ⟨rfl, hb3⟩
  rw [decide_eq_true rfl]
  have hb13 := hb12.trans (hb3.mono hb12.size)
  refine hK _ _ ⟨hb13, ?_⟩
  clear hK K
  try go_frame
  apply tkD 5 hb13 rfl (by kernel_rfl) (by kernel_rfl) (by kernel_rfl) (fun _ _ _ h => by first | exact h | exact absurd h.1 (fun h => by cases h)) (by kernel_rfl)
  ·intro T hT
   go_simp
   try rfl
  try go_frame
  apply tkD 6 hb13 rfl (by kernel_rfl) (by kernel_rfl) (by kernel_rfl) (fun _ _ _ h => by first | exact h | exact absurd h.1 (fun h => by cases h)) (by kernel_rfl)
  ·intro T hT
   go_simp
   try rfl
  try go_frame
  apply tkD 7 hb13 rfl (by kernel_rfl) (by kernel_rfl) (by kernel_rfl) (fun _ _ _ h => by first | exact h | exact absurd h.1 (fun h => by cases h)) (by kernel_rfl)
  ·intro T hT
   go_simp
   try rfl
  try go_frame
  apply tkD 9 hb13 rfl (by kernel_rfl) (by kernel_rfl) (by kernel_rfl) (fun _ _ _ h => by first | exact h | exact absurd h.1 (fun h => by cases h)) (by kernel_rfl)
  ·intro T hT
   exact run_loadR (hboxd.below hT) rfl rfl
  try go_frame
  refine oneD 8 (by kernel_rfl) rfl (by kernel_rfl) (fun K hK => ?_)
  go_simp
  refine (Members_any w3 y s kk (hAd.ro.below hb13) hs).mono ?_
  rintro e w4 ⟨p4, c4, rfl, hU4, _, hb4⟩
  have hb14 := hb13.trans (hb4.mono hb13.size)
  refine hK _ _ ⟨hb14, ?_⟩
  clear hK K
  try go_frame
  refine oneD 10 (by kernel_rfl) rfl (by kernel_rfl) (fun K hK => ?_)
  go_simp
  refine (MemsR_any w4 a s L vs kk (hAd.rf.below hb14) hs).mono ?_
  rintro e w5 ⟨p5, c5, rfl, hU5, hb5⟩
  have hb15 := hb14.trans (hb5.mono hb14.size)
  refine hK _ _ ⟨hb15, ?_⟩
  clear hK K
  try go_frame
  refine oneD 11 (by kernel_rfl) rfl (by kernel_rfl) (fun K hK => ?_)
  go_simp
  refine (SameInts_any p4 p5 _ _ _ _ c4 c5 w5 (hU4.below hb5) hU5 (by omega) (by omega)).mono ?_
  rintro e w6 ⟨rfl, hb6⟩
  rw [decide_eq_true rfl]
  have hb16 := hb15.trans (hb6.mono hb15.size)
  refine hK _ _ ⟨hb16, ?_⟩
  clear hK K
  try go_frame
  apply tkD 12 hb16 rfl (by kernel_rfl) (by kernel_rfl) (by kernel_rfl) (fun _ _ _ h => by first | exact h | exact absurd h.1 (fun h => by cases h)) (by kernel_rfl)
  ·intro T hT
   go_simp
   try rfl
  try go_frame
  apply tkD 13 hb16 rfl (by kernel_rfl) (by kernel_rfl) (by kernel_rfl) (fun _ _ _ h => by first | exact h | exact absurd h.1 (fun h => by cases h)) (by kernel_rfl)
  ·intro T hT
   go_simp
   try rfl
  try go_frame
  apply tkD 14 hb16 rfl (by kernel_rfl) (by kernel_rfl) (by kernel_rfl) (fun _ _ _ h => by first | exact h | exact absurd h.1 (fun h => by cases h)) (by kernel_rfl)
  ·intro T hT
   go_simp
   try rfl
  try go_frame
  apply tkD 15 hb16 rfl (by kernel_rfl) (by kernel_rfl) (by kernel_rfl) (fun _ _ _ h => by first | exact h | exact absurd h.1 (fun h => by cases h)) (by kernel_rfl)
  ·intro T hT
   go_simp
   try rfl
  try go_frame
  apply tkD 17 hb16 rfl (by kernel_rfl) (by kernel_rfl) (by kernel_rfl) (fun _ _ _ h => by first | exact h | exact absurd h.1 (fun h => by cases h)) (by kernel_rfl)
  ·intro T hT
   have hT0 := (hT.cell (cell_lt z4)).trans z4
   go_simp
   try rfl
  try go_frame
  apply tkD 18 hb16 rfl (by kernel_rfl) (by kernel_rfl) (by kernel_rfl) (fun _ _ _ h => by first | exact h | exact absurd h.1 (fun h => by cases h)) (by kernel_rfl)
  ·intro T hT
   have hT0 := (hT.cell (cell_lt z4)).trans z4
   go_simp
   try rfl
  try go_frame
  refine oneD 16 (by kernel_rfl) rfl (by kernel_rfl) (fun K hK => ?_)
  go_simp
  refine (Back_any w6 y s (hAd.ro.below hb16)).mono ?_
  rintro e _ ⟨rfl, rfl⟩
  refine hK _ _ ⟨hb16, ?_⟩
  clear hK K
  try go_frame
  have t1 : (s.bk != s.bk) = false := bne_self_eq_false _
  apply tkD 19 hb16 rfl (by kernel_rfl) (by kernel_rfl) (by kernel_rfl) (fun _ _ _ h => by first | exact h | exact absurd h.1 (fun h => by cases h)) (by kernel_rfl)
  ·intro T hT
   go_simp
   try rfl
  try go_frame
  apply tkD 20 hb16 rfl (by kernel_rfl) (by kernel_rfl) (by kernel_rfl) (fun _ _ _ h => by first | exact h | exact absurd h.1 (fun h => by cases h)) (by kernel_rfl)
  ·intro T hT
   go_simp
   try rfl
  try go_frame
  refine wpAnyD_done (by kernel_rfl) ?_ _
  go_wp2_with fail
  go_meet
  exact ⟨rfl, hw0.trans (hb16.mono hw0.size)⟩
 case rest =>
  obtain ⟨rfl, hbc⟩ := hcut
  have hA1 := Lib.hid (hA.out.below hbc)
  have hB1 := Lib.hid (hbx.out.trans (hbc.mono hbx.out.size))
  clear hbc
  go_wp2_with fail
  go_loopw [5] (fun nv wr => ∃ n : Nat, n ≤ 10 ∧ nv = .int .i64 n ∧ Hid (AC wr bx y a s L vs) ∧ Hid (Below w.heap.size w wr)) (fun nv _ => 10 - (intOf nv).toNat)
  case atStart => exact ⟨0, by omega, rfl, hA1, hB1⟩
  case round =>
   clear hA1 hB1
   obtain ⟨n, hn, rfl, hA1, hB1⟩ := hrel
   by_cases hlt : n < 10
   ·have hni : i64ok (n : Int) := by unfold i64ok; omega
    have t0 : decide ((n : Int) < 10) = true := decide_eq_true (by omega)
    replace hni := Lib.hid hni
    go_upto_region 6 with fail
    go_cut [68] from 43 to 67 (fun v T => v = .bool false ∧ Below wr.heap.size wr T)
    case first =>
     obtain ⟨wd, hwd⟩ : ∃ wd, Hid (wr.drew = wd) := ⟨_, Lib.hid rfl⟩
     have hw0 : Below wr.heap.size wr wd := by rw [← hwd.out]; exact (Below.refl _ _).drew
     have hAd := hA1.out.below hw0
     have hb0 : Below wd.heap.size wd wd := Below.refl _ _
     have hboxd := hAd.box
     have z1 := hboxd.c1
     refine wp_region_D (D := fun T => Below wd.heap.size wd T) (by kernel_rfl) ?_
     rw [hwd.out]
     change wpAnyD _ _ _ _ _ 26 _ _ _
     apply tkD 0 hb0 rfl (by kernel_rfl) (by kernel_rfl) (by kernel_rfl) (fun _ _ _ h => by first | exact h | exact absurd h.1 (fun h => by cases h)) (by kernel_rfl)
     ·intro T hT
      go_simp
      try rfl
     try go_frame
     apply tkD 1 hb0 rfl (by kernel_rfl) (by kernel_rfl) (by kernel_rfl) (fun _ _ _ h => by first | exact h | exact absurd h.1 (fun h => by cases h)) (by kernel_rfl)
     ·intro T hT
      go_simp
      try rfl
     try go_frame
     apply tkD 3 hb0 rfl (by kernel_rfl) (by kernel_rfl) (by kernel_rfl) (fun _ _ _ h => by first | exact h | exact absurd h.1 (fun h => by cases h)) (by kernel_rfl)
     ·intro T hT
      have hT0 := (hT.cell (cell_lt z1)).trans z1
      go_simp
      try rfl
     try go_frame
     apply tkD 4 hb0 rfl (by kernel_rfl) (by kernel_rfl) (by kernel_rfl) (fun _ _ _ h => by first | exact h | exact absurd h.1 (fun h => by cases h)) (by kernel_rfl)
     ·intro T hT
      have hT0 := (hT.cell (cell_lt z1)).trans z1
      go_simp
      try rfl
     try go_frame
     apply tkD 5 hb0 rfl (by kernel_rfl) (by kernel_rfl) (by kernel_rfl) (fun _ _ _ h => by first | exact h | exact absurd h.1 (fun h => by cases h)) (by kernel_rfl)
     ·intro T hT
      go_simp
      try rfl
     try go_frame
     refine oneD 2 (by kernel_rfl) rfl (by kernel_rfl) (fun K hK => ?_)
     go_simp
     refine (Has_any wd y s n hAd.ro hni.out).mono ?_
     rintro e _ ⟨rfl, rfl⟩
     obtain ⟨xi, hxi⟩ : ∃ x, Hid (s.inB n = x) := ⟨_, Lib.hid rfl⟩
     rw [hxi.out]
     refine hK _ _ ⟨hb0, ?_⟩
     clear hK K
     try go_frame
     refine oneD 6 (by kernel_rfl) rfl (by kernel_rfl) (fun K hK => ?_)
     go_simp
     refine (HasL_any a.pi s.ins.length s.ins a.ci n wd hAd.rf.ins (by omega)).mono ?_
     rintro e _ ⟨rfl, rfl⟩
     rw [show decide ((n : Int) ∈ s.ins) = xi from hxi.out]
     refine hK _ _ ⟨hb0, ?_⟩
     clear hK K
     try go_frame
     have t1 : (xi != xi) = false := bne_self_eq_false _
     apply tkD 7 hb0 rfl (by kernel_rfl) (by kernel_rfl) (by kernel_rfl) (fun _ _ _ h => by first | exact h | exact absurd h.1 (fun h => by cases h)) (by kernel_rfl)
     ·intro T hT
      go_simp
      try rfl
     try go_frame
     apply tkD 8 hb0 rfl (by kernel_rfl) (by kernel_rfl) (by kernel_rfl) (fun _ _ _ h => by first | exact h | exact absurd h.1 (fun h => by cases h)) (by kernel_rfl)
     ·intro T hT
      go_simp
      try rfl
     try go_frame
     apply tkD 9 hb0 rfl (by kernel_rfl) (by kernel_rfl) (by kernel_rfl) (fun _ _ _ h => by first | exact h | exact absurd h.1 (fun h => by cases h)) (by kernel_rfl)
     ·intro T hT
      go_simp
      try rfl
     try go_frame
     apply tkD 10 hb0 rfl (by kernel_rfl) (by kernel_rfl) (by kernel_rfl) (fun _ _ _ h => by first | exact h | exact absurd h.1 (fun h => by cases h)) (by kernel_rfl)
     ·intro T hT
      go_simp
      try rfl
     try go_frame
     apply tkD 12 hb0 rfl (by kernel_rfl) (by kernel_rfl) (by kernel_rfl) (fun _ _ _ h => by first | exact h | exact absurd h.1 (fun h => by cases h)) (by kernel_rfl)
     ·intro T hT
      exact run_loadR (hboxd.below hT) rfl rfl
     try go_frame
     apply tkD 13 hb0 rfl (by kernel_rfl) (by kernel_rfl) (by kernel_rfl) (fun _ _ _ h => by first | exact h | exact absurd h.1 (fun h => by cases h)) (by kernel_rfl)
     ·intro T hT
      go_simp
      try rfl
     try go_frame
     refine oneD 11 (by kernel_rfl) rfl (by kernel_rfl) (fun K hK => ?_)
     go_simp
     refine (Was_any wd y s n hAd.ro hni.out).mono ?_
     rintro e _ ⟨rfl, rfl⟩
     obtain ⟨xw, hxw⟩ : ∃ x, Hid (s.wasB n = x) := ⟨_, Lib.hid rfl⟩
     rw [hxw.out]
     refine hK _ _ ⟨hb0, ?_⟩
     clear hK K
     try go_frame
     refine oneD 14 (by kernel_rfl) rfl (by kernel_rfl) (fun K hK => ?_)
     go_simp
     refine (WasR_any wd a s L vs n hAd.rf (by omega)).mono ?_
     rintro e w1 ⟨rfl, hb1⟩
     rw [hxw.out]
     refine hK _ _ ⟨hb1, ?_⟩
     clear hK K
     try go_frame
     have t2 : (xw != xw) = false := bne_self_eq_false _
     apply tkD 15 hb1 rfl (by kernel_rfl) (by kernel_rfl) (by kernel_rfl) (fun _ _ _ h => by first | exact h | exact absurd h.1 (fun h => by cases h)) (by kernel_rfl)
     ·intro T hT
      go_simp
      try rfl
     try go_frame
     apply tkD 16 hb1 rfl (by kernel_rfl) (by kernel_rfl) (by kernel_rfl) (fun _ _ _ h => by first | exact h | exact absurd h.1 (fun h => by cases h)) (by kernel_rfl)
     ·intro T hT
      go_simp
      try rfl
     try go_frame
     apply tkD 17 hb1 rfl (by kernel_rfl) (by kernel_rfl) (by kernel_rfl) (fun _ _ _ h => by first | exact h | exact absurd h.1 (fun h => by cases h)) (by kernel_rfl)
     ·intro T hT
      go_simp
      try rfl
     try go_frame
     apply tkD 18 hb1 rfl (by kernel_rfl) (by kernel_rfl) (by kernel_rfl) (fun _ _ _ h => by first | exact h | exact absurd h.1 (fun h => by cases h)) (by kernel_rfl)
     ·intro T hT
      go_simp
      try rfl
     try go_frame
     apply tkD 19 hb1 rfl (by kernel_rfl) (by kernel_rfl) (by kernel_rfl) (fun _ _ _ h => by first | exact h | exact absurd h.1 (fun h => by cases h)) (by kernel_rfl)
     ·intro T hT
      go_simp
      try rfl
     try go_frame
     apply tkD 21 hb1 rfl (by kernel_rfl) (by kernel_rfl) (by kernel_rfl) (fun _ _ _ h => by first | exact h | exact absurd h.1 (fun h => by cases h)) (by kernel_rfl)
     ·intro T hT
      exact run_loadR (hboxd.below hT) rfl rfl
     try go_frame
     apply tkD 22 hb1 rfl (by kernel_rfl) (by kernel_rfl) (by kernel_rfl) (fun _ _ _ h => by first | exact h | exact absurd h.1 (fun h => by cases h)) (by kernel_rfl)
     ·intro T hT
      go_simp
      try rfl
     try go_frame
     refine oneD 20 (by kernel_rfl) rfl (by kernel_rfl) (fun K hK => ?_)
     go_simp
     refine (Role_any w1 y s n (hAd.ro.below hb1) hni.out).mono ?_
     rintro e _ ⟨rfl, rfl⟩
     obtain ⟨xr, hxr⟩ : ∃ x, Hid (s.role n = x) := ⟨_, Lib.hid rfl⟩
     rw [hxr.out]
     refine hK _ _ ⟨hb1, ?_⟩
     clear hK K
     try go_frame
     refine oneD 23 (by kernel_rfl) rfl (by kernel_rfl) (fun K hK => ?_)
     go_simp
     refine (RoleR_any w1 a s L vs n (hAd.rf.below hb1) (by omega)).mono ?_
     rintro e w2 ⟨rfl, hb2⟩
     rw [hxr.out]
     have hb12 := hb1.trans (hb2.mono hb1.size)
     refine hK _ _ ⟨hb12, ?_⟩
     clear hK K
     try go_frame
     have t3 : (xr != xr) = false := bne_self_eq_false _
     apply tkD 24 hb12 rfl (by kernel_rfl) (by kernel_rfl) (by kernel_rfl) (fun _ _ _ h => by first | exact h | exact absurd h.1 (fun h => by cases h)) (by kernel_rfl)
     ·intro T hT
      go_simp
      try rfl
     try go_frame
     apply tkD 25 hb12 rfl (by kernel_rfl) (by kernel_rfl) (by kernel_rfl) (fun _ _ _ h => by first | exact h | exact absurd h.1 (fun h => by cases h)) (by kernel_rfl)
     ·intro T hT
      go_simp
      try rfl
     try go_frame
     refine wpAnyD_done (by kernel_rfl) ?_ _
     go_wp2_with fail
     go_meet
     exact ⟨rfl, hw0.trans (hb12.mono hw0.size)⟩
    case rest =>
     obtain ⟨rfl, hbc⟩ := hcut
     have hA2 := Lib.hid (hA1.out.below hbc)
     have hB2 := Lib.hid (hB1.out.trans (hbc.mono hB1.out.size))
     clear hbc hA1 hB1
     go_upto_region 8 with fail
     go_wp2_with fail
     refine (Guard_any wc y s n kk hA2.out.ro hs hni.out).mono ?_
     rintro e w2 ⟨q, qc, rfl, hUq, hb2⟩
     obtain ⟨go, hgo⟩ : ∃ go, Hid (gdO (s.memb n) = go) := ⟨_, Lib.hid rfl⟩
     rw [hgo.out] at hUq ⊢
     obtain ⟨G, hG⟩ : ∃ x, Hid (gsO go = x) := ⟨_, Lib.hid rfl⟩
     obtain ⟨I, hI⟩ : ∃ x, Hid (idO go = x) := ⟨_, Lib.hid rfl⟩
     obtain ⟨N, hN⟩ : ∃ x, Hid (nO go = x) := ⟨_, Lib.hid rfl⟩
     obtain ⟨t, ht⟩ : ∃ x, Hid (tO go = x) := ⟨_, Lib.hid rfl⟩
     obtain ⟨b0, hb0⟩ : ∃ x, Hid (isO go = x) := ⟨_, Lib.hid rfl⟩
     have hGl : Hid (G.length ≤ 1000000) := Lib.hid (by
      rw [← hG.out, ← hgo.out]
      cases e : s.memb n with
      | none => exact Nat.zero_le _
      | some mb =>
       cases e2 : mb.g with
       | none => show (gsO mb.g).length ≤ _; rw [e2]; exact Nat.zero_le _
       | some g =>
        show (gsO mb.g).length ≤ _
        rw [e2]
        exact Nat.le_trans (hs.gd _ (lk_mem e) g e2).gl (by decide))
     rw [hG.out] at hUq
     rw [hG.out, hI.out, hN.out, ht.out, hb0.out]
     have hA3 := hA2.out.below hb2
     have hB3 := hB2.out.trans (hb2.mono hB2.out.size)
     have hbi := Below.lit w2 (.cells #[.int .i64 I.b, .int .i64 I.s, .int .u64 I.u] 34)
     obtain ⟨w3, hw3, hI3⟩ := nameW (p := fun W => IdAt W w2.heap.size I) (IdAt.made w2 I)
     rw [hw3.out] at hbi
     obtain ⟨bq, hbqn⟩ : ∃ bq, Hid (w2.heap.size = bq) := ⟨_, Lib.hid rfl⟩
     rw [hbqn.out] at hI3
     have hA4 := hA3.below hbi
     have hB4 := hB3.trans (hbi.mono hB3.size)
     have hUq3 := hUq.below hbi
     have hbm := Below.lit w3 (.cells (mC ((0, ⟨0, none⟩), none, 0)) 108)
     obtain ⟨w4, hw4, hM4⟩ := nameW (p := fun W => MBox W w3.heap.size ((0, ⟨0, none⟩), none, 0)) (MBox.made w3 _)
     rw [hw4.out] at hbm
     have hbqm : bq ≠ w3.heap.size := by have := hI3.lt; omega
     have hwm : w.heap.size ≤ w3.heap.size := hB4.size
     have hbxm : bx ≠ w3.heap.size := by have := blk_lt hA4.box; omega
     obtain ⟨bm, hbmn⟩ : ∃ bm, Hid (w3.heap.size = bm) := ⟨_, Lib.hid rfl⟩
     rw [hbmn.out] at hM4 hbqm hwm hbxm
     have hw3m : w3.heap.size ≤ bm := by rw [hbmn.out]; exact Nat.le_refl _
     have hI4 := hI3.below hbm
     have hA5 := hA4.below hbm
     have hB5 := hB4.trans (hbm.mono hB4.size)
     have hUq4 := hUq3.below hbm
     have hbox := hA5.box
     have hUqW := Lib.hid hUq3
     clear hUq hUq3 hA3 hB3 hb2 hA2 hB2 hI3
     go_upto_region 9 with (first
      | (rw [hw3.out])
      | (refine wpL_allocT 34 _ rfl rfl (zero_I _) ?_; simp only [Act.put, List.setIfInBounds_toArray, List.set_cons_succ, List.set_cons_zero])
      | (refine wpL_storeT 34 _ #[.int .i64 I.b, .int .i64 I.s, .int .u64 I.u] rfl _ _ rfl (by first | rfl | (simp only [World.size_alloc]; rfl)) rfl (by kernel_rfl) rfl (by simp [Value.oneCell']) ?_; try simp only [Act.put])
      | fail)
     rw [hbqn.out]
     go_upto_region 10 with (first
      | (refine wpL_build rfl 108 #[] rfl (mC ((0, ⟨0, none⟩), none, 0)) (by kernel_rfl) ?_; simp only [Act.put, List.setIfInBounds_toArray, List.set_cons_succ, List.set_cons_zero])
      | (refine wpL_allocT 108 _ rfl rfl (zero_M _) ?_; simp only [Act.put, List.setIfInBounds_toArray, List.set_cons_succ, List.set_cons_zero])
      | (refine wpL_storeT 108 _ (mC ((0, ⟨0, none⟩), none, 0)) rfl _ _ rfl (by first | rfl | (simp only [World.size_alloc]; rfl)) rfl (mC_info _) rfl (mC_one _) ?_; try simp only [Act.put])
      | fail)
     rw [hw4.out, hbmn.out]
     go_wp2_with (first | (refine wpList_load_row rfl 60 _ rfl bx rfl 60 _ (0, 0) _ hbox Tryd.underlying60 rfl (rfC_info _ _ _) ?_) | fail)
     refine (MemR_any w4 a s L vs n hA5.rf (by omega)).mono ?_
     rintro e w5 ⟨rfl, hb5⟩
     have hA6' := hA5.below hb5
     have hB6' := hB5.trans (hb5.mono hB5.size)
     have hM5 := hM4.below hb5
     have hI5 := hI4.below hb5
     have hUq5 := hUq4.below hb5
     clear hA5 hB5 hM4 hI4 hUq4 hbox
     rcases memI_cases s n with ⟨h1, h2⟩ | ⟨k, mb, h1, h2, h3⟩
     ·rw [h1]
      have hXg : Hid ((((0, ⟨0, none⟩), none, 0) : ME).1.2.g = go) := Lib.hid (by rw [← hgo.out, h2]; rfl)
      have hUx : UI w5 (((0, ⟨0, none⟩), none, 0) : ME).2.1 G.length G := by rw [← hG.out, ← hXg.out]; exact ⟨rfl, .nil, fun _ h => by cases h⟩
      obtain ⟨X, hX⟩ : ∃ X : ME, Hid (((0, ⟨0, none⟩), none, 0) = X) := ⟨_, Lib.hid rfl⟩
      rw [hX.out] at hXg hUx hM5
      have hM6 := hM5
      have hI6 := hI5
      have hUq6 := hUq5
      have hA6 := Lib.hid hA6'
      have hB6 := Lib.hid hB6'
      clear hM5 hI5 hUq5 hA6' hB6'
      replace h1 := Lib.hid h1
      replace h2 := Lib.hid h2
      have m2 : w5.cell? ⟨bm, 2, none⟩ = some (.bool b0) := by rw [hM6.cell, ← hb0.out, ← hXg.out]; rfl
      have m3 : w5.cell? ⟨bm, 3, none⟩ = some (.int .i64 I.b) := by rw [hM6.cell, ← hI.out, ← hXg.out]; rfl
      have m4 : w5.cell? ⟨bm, 3 + 1, none⟩ = some (.int .i64 I.s) := by rw [hM6.cell, ← hI.out, ← hXg.out]; rfl
      have m5 : w5.cell? ⟨bm, 3 + 2, none⟩ = some (.int .u64 I.u) := by rw [hM6.cell, ← hI.out, ← hXg.out]; rfl
      have m6 : w5.cell? ⟨bm, 6, none⟩ = some (.slice X.2.1 G.length X.2.2) := by rw [hM6.cell, ← hG.out, ← hXg.out]; rfl
      have m7 : w5.cell? ⟨bm, 7, none⟩ = some (.int .i64 N) := by rw [hM6.cell, ← hN.out, ← hXg.out]; rfl
      have m8 : w5.cell? ⟨bm, 8, none⟩ = some (.int .i64 t) := by rw [hM6.cell, ← ht.out, ← hXg.out]; rfl
      have i0 : w5.cell? ⟨bq, 0, none⟩ = some (.int .i64 I.b) := by simp [World.cell?, show w5.heap[bq]? = _ from hI6]
      have i1 : w5.cell? ⟨bq, 1, none⟩ = some (.int .i64 I.s) := by simp [World.cell?, show w5.heap[bq]? = _ from hI6]
      have i2 : w5.cell? ⟨bq, 2, none⟩ = some (.int .u64 I.u) := by simp [World.cell?, show w5.heap[bq]? = _ from hI6]
      have e1 : (b0 != b0) = false := bne_self_eq_false _
      have e2 : (N != N) = false := bne_self_eq_false _
      have e3 : (t != t) = false := bne_self_eq_false _
      have hidn := fun T => id_neq I I T
      rw [decide_eq_true rfl] at hidn
      have hst := id_stood
      have hgd := id_guard
      obtain ⟨xp, hxp⟩ : ∃ x, Hid (X.2.1 = x) := ⟨_, Lib.hid rfl⟩
      obtain ⟨xc, hxc⟩ : ∃ x, Hid (X.2.2 = x) := ⟨_, Lib.hid rfl⟩
      obtain ⟨gn, hgn⟩ : ∃ x, Hid (G.length = x) := ⟨_, Lib.hid rfl⟩
      have hgn6 : gn ≤ 1000000 := by rw [← hgn.out]; exact hGl.out
      rw [hxp.out, hxc.out, hgn.out] at m6
      rw [hxp.out, hgn.out] at hUx
      rw [hgn.out] at hUq6 ⊢
      replace hM6 := Lib.hid hM6
      replace hI6 := Lib.hid hI6
      have hcI := Lib.hid (idc (w := w5) (b := bq) (k := 0) (i := I) i0 i1 i2)
      have hcM := Lib.hid (idc (w := w5) (b := bm) (k := 3) (i := I) m3 m4 m5)
      clear i0 i1 i2 m3 m4 m5
      go_upto_region 13 with fail
      go_wp2_with (first | (refine wpL_loadIG _ rfl bq 0 rfl I hcI.out (by kernel_rfl) ?_) | (refine wpL_loadIG _ rfl bm 3 rfl I hcM.out (by kernel_rfl) ?_) | fail)
      refine (SameInts_any q xp gn gn G G qc xc w5 hUq6 hUx hgn6 hgn6).mono ?_
      rintro e w7 ⟨rfl, hb7⟩
      rw [decide_eq_true rfl]
      have hA7 := Lib.hid (hA6.out.below hb7)
      have hB7 := Lib.hid (hB6.out.trans (hb7.mono hB6.out.size))
      clear m2 m6 m7 m8 hcI hcM hidn hb7 hUq6 hUx e2 e3
      go_wp2_with fail
      go_loopw [13] (fun dv wr => ∃ d : Nat, d ≤ 9 ∧ dv = .int .i64 d ∧ Hid (AC wr bx y a s L vs) ∧ Hid (Below w.heap.size w wr)) (fun dv _ => 9 - (intOf dv).toNat)
      case atStart => exact ⟨0, by omega, rfl, hA7, hB7⟩
      case round =>
       clear hA7 hB7
       obtain ⟨d, hd, rfl, hA7, hB7⟩ := hrel
       by_cases hlt2 : d < 9
       ·have t9 : decide ((d : Int) < 9) = true := decide_eq_true (by omega)
        obtain ⟨d1, hd1⟩ : ∃ x, Hid ((s.due n d).1 = x) := ⟨_, Lib.hid rfl⟩
        obtain ⟨d2, hd2⟩ : ∃ x, Hid ((s.due n d).2 = x) := ⟨_, Lib.hid rfl⟩
        go_wp2_with fail
        refine (Due_any wr y s n d kk hkk hA7.out.ro hs hni.out).mono ?_
        rintro e w8 ⟨rfl, hb8⟩
        rw [hd1.out, hd2.out]
        have hA8 := hA7.out.below hb8
        have hB8 := Lib.hid (hB7.out.trans (hb8.mono hB7.out.size))
        have hbox := hA8.box
        go_upto_region 19 with fail
        go_wp2_with (first | (refine wpList_load_row rfl 60 _ rfl bx rfl 60 _ (0, 0) _ hbox Tryd.underlying60 rfl (rfC_info _ _ _) ?_) | fail)
        refine (DueR_any w8 a s L vs n d kk hA8.rf hV hs hkk).mono ?_
        rintro e w9 ⟨rfl, hb9⟩
        rw [hd1.out, hd2.out]
        have hA9 := Lib.hid (hA8.below hb9)
        have hB9 := Lib.hid (hB8.out.trans (hb9.mono hB8.out.size))
        have e5 : (d1 != d1) = false := bne_self_eq_false _
        have e6 : (d2 != d2) = false := bne_self_eq_false _
        clear hb8 hb9 hA8 hbox
        go_wp2_with fail
        go_roundw
        case rel => exact ⟨d + 1, by omega, by go_num, hA9, hB9⟩
        case measure => simp [intOf]; omega
       ·have hd9 : d = 9 := by omega
        subst hd9
        go_wp2_with fail
        go_roundw
        case rel => exact ⟨n + 1, by omega, by go_num, hA7, hB7⟩
        case measure => simp [intOf]; omega
     ·rw [h1]
      obtain ⟨hk', h2e⟩ := List.getElem?_eq_some_iff.1 h2
      obtain ⟨b, off, X, hxL, hxs, hp, _, _, hc⟩ := hA6'.rf.at_ hk'
      have hX1 : X.1 = ((n : Int), mb) := hxs.trans h2e
      have hXg : Hid (X.1.2.g = go) := Lib.hid (by rw [hX1, ← hgo.out, h3]; rfl)
      have hUx5 : UI w5 X.2.1 G.length G := by
       have := hA6'.rf.gs X hxL
       rw [hXg.out, hG.out] at this
       exact this
      have hix1 : (0 : Int) ≤ (k : Int) := by omega
      have hix2 : (k : Int) < (s.ms.length : Int) := by omega
      have t2 : decide (0 ≤ (k : Int)) = true := decide_eq_true (by omega)
      have k3 := hA6'.box.c3
      rw [hp] at k3
      obtain ⟨w6, hw56, hM6⟩ := nameW (p := fun W => MBox W bm X) (setRow_heap w5 bm _ (mC X) _ _ hM5)
      have hbW : Below w3.heap.size w3 w6 := by rw [← hw56.out]; exact belowSetRow (hbm.trans (hb5.mono hbm.size)) hw3m _
      have hI6 : IdAt w6 bq I := by rw [← hw56.out]; exact hI5.block (setRow_other w5 bm bq _ hbqm)
      have hA6 := Lib.hid (hA4.below hbW)
      have hB6 := Lib.hid (hB4.trans (hbW.mono hB4.size))
      have hRw := hA6.out.rf
      have hUx : UI w6 X.2.1 G.length G := by
       have := hRw.gs X hxL
       rw [hXg.out, hG.out] at this
       exact this
      have hUq6 : UI w6 q G.length G := hUqW.out.below hbW
      replace h1 := Lib.hid h1
      replace h2 := Lib.hid h2
      replace h3 := Lib.hid h3
      replace h2e := Lib.hid h2e
      replace hc := Lib.hid hc
      replace hp := Lib.hid hp
      replace hxs := Lib.hid hxs
      replace hX1 := Lib.hid hX1
      clear hUx5 hA6' hB6' hI5 hUq5 hRw
      go_upto_region 13 with (first
       | (rw [hw56.out])
       | (refine wpL_loadM rfl _ rfl b (off + k * 11) rfl X hc.out ?_)
       | (refine wpList_store_row rfl 108 _ _ rfl bm (mC X) rfl rfl 108 _ hM5 (mC_info _) rfl (mC_one _) ?_)
       | fail)
      clear hM5 k3
      have m2 : w6.cell? ⟨bm, 2, none⟩ = some (.bool b0) := by rw [hM6.cell, ← hb0.out, ← hXg.out]; rfl
      have m3 : w6.cell? ⟨bm, 3, none⟩ = some (.int .i64 I.b) := by rw [hM6.cell, ← hI.out, ← hXg.out]; rfl
      have m4 : w6.cell? ⟨bm, 3 + 1, none⟩ = some (.int .i64 I.s) := by rw [hM6.cell, ← hI.out, ← hXg.out]; rfl
      have m5 : w6.cell? ⟨bm, 3 + 2, none⟩ = some (.int .u64 I.u) := by rw [hM6.cell, ← hI.out, ← hXg.out]; rfl
      have m6 : w6.cell? ⟨bm, 6, none⟩ = some (.slice X.2.1 G.length X.2.2) := by rw [hM6.cell, ← hG.out, ← hXg.out]; rfl
      have m7 : w6.cell? ⟨bm, 7, none⟩ = some (.int .i64 N) := by rw [hM6.cell, ← hN.out, ← hXg.out]; rfl
      have m8 : w6.cell? ⟨bm, 8, none⟩ = some (.int .i64 t) := by rw [hM6.cell, ← ht.out, ← hXg.out]; rfl
      have i0 : w6.cell? ⟨bq, 0, none⟩ = some (.int .i64 I.b) := by simp [World.cell?, show w6.heap[bq]? = _ from hI6]
      have i1 : w6.cell? ⟨bq, 1, none⟩ = some (.int .i64 I.s) := by simp [World.cell?, show w6.heap[bq]? = _ from hI6]
      have i2 : w6.cell? ⟨bq, 2, none⟩ = some (.int .u64 I.u) := by simp [World.cell?, show w6.heap[bq]? = _ from hI6]
      have e1 : (b0 != b0) = false := bne_self_eq_false _
      have e2 : (N != N) = false := bne_self_eq_false _
      have e3 : (t != t) = false := bne_self_eq_false _
      have hidn := fun T => id_neq I I T
      rw [decide_eq_true rfl] at hidn
      have hst := id_stood
      have hgd := id_guard
      obtain ⟨xp, hxp⟩ : ∃ x, Hid (X.2.1 = x) := ⟨_, Lib.hid rfl⟩
      obtain ⟨xc, hxc⟩ : ∃ x, Hid (X.2.2 = x) := ⟨_, Lib.hid rfl⟩
      obtain ⟨gn, hgn⟩ : ∃ x, Hid (G.length = x) := ⟨_, Lib.hid rfl⟩
      have hgn6 : gn ≤ 1000000 := by rw [← hgn.out]; exact hGl.out
      rw [hxp.out, hxc.out, hgn.out] at m6
      rw [hxp.out, hgn.out] at hUx
      rw [hgn.out] at hUq6 ⊢
      replace hM6 := Lib.hid hM6
      replace hI6 := Lib.hid hI6
      have hcI := Lib.hid (idc (w := w6) (b := bq) (k := 0) (i := I) i0 i1 i2)
      have hcM := Lib.hid (idc (w := w6) (b := bm) (k := 3) (i := I) m3 m4 m5)
      clear i0 i1 i2 m3 m4 m5
      go_upto_region 13 with fail
      go_wp2_with (first | (refine wpL_loadIG _ rfl bq 0 rfl I hcI.out (by kernel_rfl) ?_) | (refine wpL_loadIG _ rfl bm 3 rfl I hcM.out (by kernel_rfl) ?_) | fail)
      refine (SameInts_any q xp gn gn G G qc xc w6 hUq6 hUx hgn6 hgn6).mono ?_
      rintro e w7 ⟨rfl, hb7⟩
      rw [decide_eq_true rfl]
      have hA7 := Lib.hid (hA6.out.below hb7)
      have hB7 := Lib.hid (hB6.out.trans (hb7.mono hB6.out.size))
      clear m2 m6 m7 m8 hcI hcM hidn hb7 hUq6 hUx e2 e3
      go_wp2_with fail
      go_loopw [13] (fun dv wr => ∃ d : Nat, d ≤ 9 ∧ dv = .int .i64 d ∧ Hid (AC wr bx y a s L vs) ∧ Hid (Below w.heap.size w wr)) (fun dv _ => 9 - (intOf dv).toNat)
      case atStart => exact ⟨0, by omega, rfl, hA7, hB7⟩
      case round =>
       clear hA7 hB7
       obtain ⟨d, hd, rfl, hA7, hB7⟩ := hrel
       by_cases hlt2 : d < 9
       ·have t9 : decide ((d : Int) < 9) = true := decide_eq_true (by omega)
        obtain ⟨d1, hd1⟩ : ∃ x, Hid ((s.due n d).1 = x) := ⟨_, Lib.hid rfl⟩
        obtain ⟨d2, hd2⟩ : ∃ x, Hid ((s.due n d).2 = x) := ⟨_, Lib.hid rfl⟩
        go_wp2_with fail
        refine (Due_any wr y s n d kk hkk hA7.out.ro hs hni.out).mono ?_
        rintro e w8 ⟨rfl, hb8⟩
        rw [hd1.out, hd2.out]
        have hA8 := hA7.out.below hb8
        have hB8 := Lib.hid (hB7.out.trans (hb8.mono hB7.out.size))
        have hbox := hA8.box
        go_upto_region 19 with fail
        go_wp2_with (first | (refine wpList_load_row rfl 60 _ rfl bx rfl 60 _ (0, 0) _ hbox Tryd.underlying60 rfl (rfC_info _ _ _) ?_) | fail)
        refine (DueR_any w8 a s L vs n d kk hA8.rf hV hs hkk).mono ?_
        rintro e w9 ⟨rfl, hb9⟩
        rw [hd1.out, hd2.out]
        have hA9 := Lib.hid (hA8.below hb9)
        have hB9 := Lib.hid (hB8.out.trans (hb9.mono hB8.out.size))
        have e5 : (d1 != d1) = false := bne_self_eq_false _
        have e6 : (d2 != d2) = false := bne_self_eq_false _
        clear hb8 hb9 hA8 hbox
        go_wp2_with fail
        go_roundw
        case rel => exact ⟨d + 1, by omega, by go_num, hA9, hB9⟩
        case measure => simp [intOf]; omega
       ·have hd9 : d = 9 := by omega
        subst hd9
        go_wp2_with fail
        go_roundw
        case rel => exact ⟨n + 1, by omega, by go_num, hA7, hB7⟩
        case measure => simp [intOf]; omega
   ·have hn10 : n = 10 := by omega
    subst hn10
    go_wp2_with fail
    go_ret
    exact ⟨rfl, hB1.out⟩
end Go.Proofs.YtkolilbebkkpdaaDoor

namespace Go.Proofs.YtkolilbebkkpdaaDoor
open Go.RowKit Go.Maps Go.BigFrame

theorem UI.kept {w w' : World} {p : Option Addr} {n : Nat} {xs : List Int} (h : UI w p n xs) {Q : Nat → Prop} (hk : ∀ j, j < w.heap.size → Q j → w'.heap[j]? = w.heap[j]?) (hp : ∀ q, p = some q → Q q.block) : UI w' p n xs := by
 refine ⟨h.len, ?_, h.bd⟩
 rcases h.rd with h1 | ⟨b', off, hp', hc⟩
 ·exact .inl h1
 ·refine .inr ⟨b', off, hp', fun j hj => ?_⟩
  have hv : (w.cell? ⟨b', off + j, none⟩) = _ := hc j hj
  have hlt : b' < w.heap.size := cell_lt (a := ⟨b', off + j, none⟩) hv
  rw [← hc j hj]
  have := hk b' hlt (hp _ hp')
  unfold World.cell?
  simp only [this]
theorem RfAt.kept {w w' : World} {a : RfV} {s : RS} {L : List ME} {vs : List VI} (h : RfAt w a s L vs) {Q : Nat → Prop} (hz : w.heap.size ≤ w'.heap.size) (hk : ∀ j, j < w.heap.size → Q j → w'.heap[j]? = w.heap[j]?) (hI : RfIn Q a L) : RfAt w' a s L vs := by
 have hr : ∀ {α : Type} {E : El α} {p : Option Addr} {l : List α}, RdE E w p l → (∀ q, p = some q → Q q.block) → RdE E w' p l := fun hR hp => hR.same hz fun a ha hlt => hk _ hlt (hp a ha)
 obtain ⟨gl, g1, g2⟩ := h.gone
 exact ⟨hr h.cards hI.pc, h.ins.kept hk hI.pi, ⟨gl, g1, g2.kept hk hI.pg⟩, hr h.lm hI.pl, h.lq, fun x hx => (h.gs x hx).kept hk (hI.gs x hx), hr h.vv hI.pv, h.nz, h.lt.mono fun _ h1 => Nat.lt_of_lt_of_le h1 hz⟩
def newV (p : Option Addr) (c : Nat) : RfV := ⟨p, c, none, 0, none, 0, none, 0, none, 0⟩
theorem newRf {w : World} {p : Option Addr} (h : RdE cardE w p cardsP) (c : Nat) (hl : LtP w.heap.size p) : RfAt w (newV p c) RS.new [] [] :=
 ⟨h, ⟨rfl, .nil, fun _ h => (by cases h)⟩, ⟨[], List.Perm.refl _, ⟨rfl, .nil, fun _ h => (by cases h)⟩⟩, fun i hi => absurd hi (Nat.not_lt_zero _), rfl, fun x h => (by cases h), fun i hi => absurd hi (Nat.not_lt_zero _), ⟨fun _ => rfl, fun _ => rfl, fun _ => rfl, fun _ => rfl⟩, ⟨hl, fun q e => (by cases e), fun q e => (by cases e), fun q e => (by cases e), fun q e => (by cases e), fun x h => (by cases h)⟩⟩
theorem newVs : VsOk RS.new [] := ⟨List.nodup_nil, fun v => ⟨fun h => (by cases h), fun ⟨p, hp, _⟩ => (by cases hp)⟩⟩
theorem newIn {P : Nat → Prop} {p : Option Addr} (c : Nat) (h : ∀ q, p = some q → P q.block) : RfIn P (newV p c) [] :=
 ⟨h, fun q e => (by cases e), fun q e => (by cases e), fun q e => (by cases e), fun q e => (by cases e), fun x h => (by cases h)⟩
/-- Where a play of both rolls stands. -/
structure PlSt (B r : Nat) (w w4 : World) (y0 : Lay) (b6 : Nat) (wr : World) (yk : Lay) (S : RS) (a : RfV) (L : List ME) (vs : List VI) : Prop where
 sit : SitW B r w wr yk S
 kp : ∀ i, i < w4.heap.size → i ∉ y0.foot → i ≠ b6 → wr.heap[i]? = w4.heap[i]? ∧ i ∉ yk.foot
 ks : w4.heap.size ≤ wr.heap.size
 box : RfBox wr b6 a S vs.length
 bo : b6 ∉ yk.foot
 rf : RfAt wr a S L vs
 vo : VsOk S vs
 ri : RfIn (fun b => b ∉ yk.foot ∧ b ≠ b6) a L
section
variable {B r : Nat} {w w4 wr W : World} {y0 yk : Lay} {b6 : Nat} {S : RS} {a : RfV} {L : List ME} {vs : List VI}
theorem PlSt.below (h : PlSt B r w w4 y0 b6 wr yk S a L vs) (hb : Below wr.heap.size wr W) : PlSt B r w w4 y0 b6 W yk S a L vs :=
 ⟨h.sit.call hb, fun i hi hn hne => by
  obtain ⟨h1, h2⟩ := h.kp i hi hn hne
  exact ⟨(hb.block i (Nat.lt_of_lt_of_le hi h.ks)).trans h1, h2⟩, Nat.le_trans h.ks hb.size, h.box.below hb, h.bo, h.rf.below hb, h.vo, h.ri⟩
end
/-- Where a play stands between: the program's roll is ahead, the document's is behind. -/
structure PlMd (B r : Nat) (w w4 : World) (y0 : Lay) (b6 : Nat) (wr : World) (yk : Lay) (S S' : RS) (a : RfV) (L : List ME) (vs : List VI) : Prop where
 sit : SitW B r w wr yk S'
 kp : ∀ i, i < w4.heap.size → i ∉ y0.foot → i ≠ b6 → wr.heap[i]? = w4.heap[i]? ∧ i ∉ yk.foot
 ks : w4.heap.size ≤ wr.heap.size
 box : RfBox wr b6 a S vs.length
 bo : b6 ∉ yk.foot
 rf : RfAt wr a S L vs
 vo : VsOk S vs
 ri : RfIn (fun b => b ∉ yk.foot ∧ b ≠ b6) a L
section
variable {B r : Nat} {w w4 wr W : World} {y0 yk yk' : Lay} {b6 : Nat} {S S' : RS} {a a' : RfV} {L L' : List ME} {vs vs' : List VI}
theorem PlMd.below (h : PlMd B r w w4 y0 b6 wr yk S S' a L vs) (hb : Below wr.heap.size wr W) : PlMd B r w w4 y0 b6 W yk S S' a L vs :=
 ⟨h.sit.call hb, fun i hi hn hne => by
  obtain ⟨h1, h2⟩ := h.kp i hi hn hne
  exact ⟨(hb.block i (Nat.lt_of_lt_of_le hi h.ks)).trans h1, h2⟩, Nat.le_trans h.ks hb.size, h.box.below hb, h.bo, h.rf.below hb, h.vo, h.ri⟩
theorem PlSt.next (h : PlSt B r w w4 y0 b6 wr yk S a L vs) (hs : SitW B r w W yk' S') (hz : wr.heap.size ≤ W.heap.size) (hk : Keeps wr W yk yk') : PlMd B r w w4 y0 b6 W yk' S S' a L vs := by
 have hbl := blk_lt h.box
 have hin : ∀ (q : Nat), q < wr.heap.size → q ∉ yk.foot → q ∉ yk'.foot := fun q h1 h2 => (hk q h1 h2).2
 have hl := h.rf.lt
 exact ⟨hs, fun i hi hn hne => by
   obtain ⟨h1, h2⟩ := h.kp i hi hn hne
   obtain ⟨h3, h4⟩ := hk i (Nat.lt_of_lt_of_le hi h.ks) h2
   exact ⟨h3.trans h1, h4⟩, Nat.le_trans h.ks hz, h.box.keep (hk b6 hbl h.bo).1, hin b6 hbl h.bo, h.rf.kept hz (fun j hj hq => (hk j hj hq).1) (h.ri.mono fun _ h => h.1), h.vo,
  ⟨fun q e => ⟨hin _ (hl.pc q e) (h.ri.pc q e).1, (h.ri.pc q e).2⟩, fun q e => ⟨hin _ (hl.pi q e) (h.ri.pi q e).1, (h.ri.pi q e).2⟩, fun q e => ⟨hin _ (hl.pg q e) (h.ri.pg q e).1, (h.ri.pg q e).2⟩, fun q e => ⟨hin _ (hl.pl q e) (h.ri.pl q e).1, (h.ri.pl q e).2⟩, fun q e => ⟨hin _ (hl.pv q e) (h.ri.pv q e).1, (h.ri.pv q e).2⟩, fun x hx q e => ⟨hin _ (hl.gs x hx q e) (h.ri.gs x hx q e).1, (h.ri.gs x hx q e).2⟩⟩⟩
/-- The document's roll catches up: a store into its variable. -/
theorem PlMd.done (h : PlMd B r w w4 y0 b6 wr yk S S' a L vs) {T : World} (hb : Below wr.heap.size wr T) (hR : RfAt T a' S' L' vs') (hV : VsOk S' vs') (hI : RfIn (fun b => b ∉ yk.foot ∧ b ≠ b6) a' L') (hB : B ≤ b6) (h0 : 0 < B) : PlSt B r w w4 y0 b6 (T.setRow b6 (rfC a' S' vs'.length)) yk S' a' L' vs' := by
 have h' := h.below hb
 have hst : ∀ j, j ≠ b6 → (T.setRow b6 (rfC a' S' vs'.length)).heap[j]? = T.heap[j]? := fun j hj => setRow_other T b6 j _ hj
 have hsz : (T.setRow b6 (rfC a' S' vs'.length)).heap.size = T.heap.size := by simp [World.setRow]
 refine ⟨h'.sit.grown (grown_row T b6 _) (fun g e => by injection e with e; subst e; exact ⟨hB, h'.bo⟩) h0, fun i hi hn hne => ?_, by rw [hsz]; exact h'.ks, setRow_heap T b6 _ _ _ _ h'.box, h'.bo, hR.setRow (hI.mono fun _ h => h.2), hV, hI⟩
 obtain ⟨h1, h2⟩ := h'.kp i hi hn hne
 exact ⟨(hst i hne).trans h1, h2⟩
theorem PlMd.same (h : PlMd B r w w4 y0 b6 wr yk S S' a L vs) (e : S = S') : PlSt B r w w4 y0 b6 wr yk S' a L vs := by
 subst e
 exact ⟨h.sit, h.kp, h.ks, h.box, h.bo, h.rf, h.vo, h.ri⟩
end
end Go.Proofs.YtkolilbebkkpdaaDoor

