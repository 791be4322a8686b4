/-
  The document's roll: what becomes of it: a Promote, an Object.
  The document's roll: what becomes of it: an Object.
  The document's roll: what becomes of it: a Replace.
  The document's roll: what becomes of it, whatever is done.
-/
import Derived.Test.YtkolilbebkkpdaaDoorRmM
namespace Go.Proofs.YtkolilbebkkpdaaDoor
open Go.RowKit Go.Maps Go.BigFrame
attribute [local go_sem] in_gr

theorem MBox.setRole {w : World} {b : Nat} {n r : Int} {g : Option Gd} {p : Option Addr} {c : Nat} (h : MBox w b ((n, ⟨r, g⟩), p, c)) (r' : Int) : MBox (w.setCell ⟨b, 1, none⟩ (.int .i64 r')) b ((n, ⟨r', g⟩), p, c) := setCell_blk h 1 _
theorem MBox.free {w : World} {b : Nat} {x : ME} (h : MBox w b x) (i : Nat) : w.frozen? ⟨b, i, none⟩ = false := by
 have h : w.heap[b]? = _ := h
 simp [World.frozen?, h]
theorem MBox.keep {w w' : World} {b : Nat} {x : ME} (h : MBox w b x) (hb : w'.heap[b]? = w.heap[b]?) : MBox w' b x := hb.trans h
set_option maxRecDepth 100000 in
set_option maxHeartbeats 16000000 in
theorem DoR_5 (P : Nat → Prop) (w : World) (a : RfV) (s : RS) (L : List ME) (vs : List VI) (o : OpI) (gp : Option Addr) (gc : Nat) (i : Idn) (kk : Nat) (hR : RfAt w a s L vs) (hV : VsOk s vs) (hs : s.Ok kk) (hI : RfIn P a L) (hN : ∀ b, w.heap.size ≤ b → P b) (hk : o.k = 5) :
  Calls Tryd.prog 29 #[.agg (rfC a s vs.length), .agg (opC o gp gc), .agg #[.int .i64 i.b, .int .i64 i.s, .int .u64 i.u]] w fun e w' => ∃ a' L' vs', e = .returned (.agg (rfC a' (s.act o i) vs'.length)) ∧ RfAt w' a' (s.act o i) L' vs' ∧ VsOk (s.act o i) vs' ∧ RfIn P a' L' ∧ Below w.heap.size w w' := by
 have hfm := hs.fewM
 have hbx := Below.lit w (.cells (rfC a s vs.length) 60)
 have hRz := hR.below hbx
 obtain ⟨wb, hwb, hBx⟩ := nameW (p := fun W => RfBox W w.heap.size a s vs.length) (RfBox.made w a s vs.length)
 rw [hwb.out] at hbx hRz
 obtain ⟨bx, hbxn⟩ : ∃ bx, Hid (w.heap.size = bx) := ⟨_, Lib.hid rfl⟩
 have hbx0 : w.heap.size ≤ bx := by rw [hbxn.out]; exact Nat.le_refl _
 rw [hbxn.out] at hBx
 have hB := hbx
 have hbo := Below.lit wb (.cells (opC o gp gc) 42)
 obtain ⟨wo, hwo, hOo⟩ := nameW (p := fun W => OpAt W wb.heap.size o gp gc) (OpAt.made wb o gp gc)
 rw [hwo.out] at hbo
 have hbox1 : wb.heap.size ≠ bx := by have := blk_lt hBx; omega
 obtain ⟨bo, hbon⟩ : ∃ bo, Hid (wb.heap.size = bo) := ⟨_, Lib.hid rfl⟩
 rw [hbon.out] at hOo hbox1
 replace hBx := hBx.below hbo
 replace hRz := hRz.below hbo
 replace hB := hB.trans (hbo.mono hB.size)
 have hbi := Below.lit wo (.cells #[.int .i64 i.b, .int .i64 i.s, .int .u64 i.u] 34)
 obtain ⟨wi, hwi, hIi⟩ := nameW (p := fun W => IdAt W wo.heap.size i) (IdAt.made wo i)
 rw [hwi.out] at hbi
 have hbix1 : wo.heap.size ≠ bx := by have := blk_lt hBx; omega
 obtain ⟨bi, hbin⟩ : ∃ bi, Hid (wo.heap.size = bi) := ⟨_, Lib.hid rfl⟩
 rw [hbin.out] at hIi hbix1
 replace hBx := hBx.below hbi
 replace hOo := hOo.below hbi (cell_lt hOo.cb)
 replace hRz := hRz.below hbi
 replace hB := hB.trans (hbi.mono hB.size)
 have hbz := Below.lit wi (.cells rZ 60)
 obtain ⟨wz, hwz, hZ⟩ := nameW (p := fun W => ZBox W wi.heap.size) (ZBox.made wi)
 rw [hwz.out] at hbz
 have hbzx : wi.heap.size ≠ bx := by have := blk_lt hBx; omega
 have hbz0 : w.heap.size ≤ wi.heap.size := hB.size
 obtain ⟨bz, hbzn⟩ : ∃ bz, Hid (wi.heap.size = bz) := ⟨_, Lib.hid rfl⟩
 rw [hbzn.out] at hZ hbzx hbz0
 have hC : DC wz bx bo bi bz a s vs.length o gp gc i := ⟨hBx.below hbz, hOo.below hbz (cell_lt hOo.cb), hIi.below hbz, hZ⟩
 replace hRz := hRz.below hbz
 replace hB := hB.trans (hbz.mono hB.size)
 clear hbx hbo hbi hbz hBx hOo hIi hZ
 go_enter Tryd.func29, Tryd.ntmps29
 go_upto_region 1 with (first | (rw [hwb.out]) | (rw [hwo.out]) | (rw [hwi.out]) | (rw [hwz.out]) | (refine wpL_allocT 60 rZ rfl rfl (zero_R _) ?_; simp only [Act.put, List.setIfInBounds_toArray, List.set_cons_succ, List.set_cons_zero]) | fail)
 rw [hbxn.out, hbon.out, hbin.out, hbzn.out]
 obtain ⟨m, hm⟩ : ∃ m, Hid (ofD o.b = m) := ⟨_, Lib.hid rfl⟩
 obtain ⟨at_, hat⟩ : ∃ x, Hid (memI s m = x) := ⟨_, Lib.hid rfl⟩
 obtain ⟨wd, hwd⟩ : ∃ wd, Hid (wz.drew = wd) := ⟨_, Lib.hid rfl⟩
 have hw0 : Below wz.heap.size wz wd := by rw [← hwd.out]; exact (Below.refl _ _).drew
 replace hC := hC.below hw0
 replace hRz := hRz.below hw0
 replace hB := hB.trans (hw0.mono hB.size)
 have zb := hC.op.cb
 have hb0 : Below wd.heap.size wd wd := Below.refl _ _
 refine wp_region_D (D := fun T => Below wd.heap.size wd T) (by kernel_rfl) ?_
 rw [hwd.out]
 change wpAnyD _ _ _ _ _ 7 _ _ _
 apply tkD 0 hb0 rfl
 ·intro T hT
  exact run_loadR (hC.box.below hT) rfl rfl
 try go_frame
 apply tkD 1 hb0 rfl
 ·intro T hT
  exact run_loadR (hC.box.below hT) rfl rfl
 try go_frame
 apply tkD 2 hb0 rfl
 ·intro T hT
  have hT0 := (hT.cell (cell_lt zb)).trans zb
  go_simp
  try rfl
 try go_frame
 apply tkD 3 hb0 rfl
 ·intro T hT
  have hT0 := (hT.cell (cell_lt zb)).trans zb
  go_simp
  try rfl
 try go_frame
 refine oneD 4 (by kernel_rfl) rfl (by kernel_rfl) (fun K hK => ?_)
 go_simp
 refine (OfR_any wd a.pc a.cc _ _ _ _ _ o.b hRz.cards).mono ?_
 rintro e T1 ⟨rfl, hbT1⟩
 rw [hm.out]
 refine hK _ _ ⟨hbT1, ?_⟩
 clear hK K
 try go_frame
 refine oneD 5 (by kernel_rfl) rfl (by kernel_rfl) (fun K hK => ?_)
 go_simp
 refine (MemR_any T1 a s L vs m (hRz.below hbT1) (by omega)).mono ?_
 rintro e w1 ⟨rfl, hbT2⟩
 rw [hat.out]
 have hbT := hbT1.trans (hbT2.mono hbT1.size)
 refine hK _ _ ⟨hbT, ?_⟩
 clear hK K
 try go_frame
 apply tkD 6 hbT rfl
 ·intro T hT
  go_simp
  try rfl
 try go_frame
 refine wpAnyD_done (by kernel_rfl) ?_ _
 replace hC := hC.below hbT
 replace hRz := hRz.below hbT
 replace hB := hB.trans (hbT.mono hB.size)
 clear zb hb0 hbT hbT1 hbT2 hw0
 have hbxl : bx < w1.heap.size := blk_lt hC.box
 have hbzl : bz < w1.heap.size := blk_lt hC.z
 have hIz := hI.and hR.lt hbx0 hbz0
 have hNz := far_and hN hB.size hbxl hbzl
 have hbox := hC.box
 have hz := hC.z
 have zk := hC.op.ck
 rw [hk] at zk
 have zm := hC.op.cm
 have hact : s.act o i = s.doPromote o := by unfold RS.act; rw [if_neg (by rw [hk]; decide), if_neg (by rw [hk]; decide), if_neg (by rw [hk]; decide), if_pos hk]
 go_upto_region 24 with fail
 go_wp2_with (first | (refine wpList_load_row rfl 60 _ rfl bx rfl 60 _ (0, 0) _ hbox Tryd.underlying60 rfl (rfC_info _ _ _) ?_) | fail)
 refine (MemR_any w1 a s L vs o.m hRz (by omega)).mono ?_
 rintro e w2 ⟨rfl, hb2⟩
 replace hC := hC.below hb2
 replace hRz := hRz.below hb2
 replace hB := hB.trans (hb2.mono hB.size)
 replace hbox := hC.box
 replace hz := hC.z
 clear zm hbxl hbzl hb2 hNz
 rcases memI_cases s o.m with ⟨h1, h2⟩ | ⟨k, mb, h1, h2, h3⟩
 ·rw [h1]
  have hst : Hid (s.act o i = s) := Lib.hid (by rw [hact]; unfold RS.doPromote; rw [h2])
  replace h1 := Lib.hid h1
  replace h2 := Lib.hid h2
  replace hact := Lib.hid hact
  go_wp2_with (first | (refine wpList_load_row rfl 60 _ rfl bx rfl 60 _ (0, 0) _ hbox Tryd.underlying60 rfl (rfC_info _ _ _) ?_) | (refine wpList_store_row rfl 60 _ _ rfl bz _ rfl rfl 60 rZ hz (rfC_info _ _ _) rfl (rfC_one _ _ _) ?_) | fail)
  refine bodyPost_ret (v := .agg (rfC a s vs.length)) ?_ rfl ?_
  ·exact results_cell_row rfl _ _ bz 60 _ (0, 0) _ rfl (setRow_heap _ _ _ _ _ _ hz) Tryd.underlying60 rfl (rfC_info _ _ _)
  ·have hBf := belowSetRow (cs := rfC a s vs.length) hB hbz0
   rw [hst.out]
   exact ⟨a, L, vs, rfl, hR.below hBf, hV, hI, hBf⟩
 ·rw [h1]
  obtain ⟨mr, go⟩ := mb
  obtain ⟨hk', h2e⟩ := List.getElem?_eq_some_iff.1 h2
  obtain ⟨b, off, x, hxL, hxs, hp, _, hLk, hc⟩ := hRz.at_ hk'
  obtain ⟨xm, xp, xc⟩ := x
  obtain rfl : xm = (o.m, ⟨mr, go⟩) := hxs.trans h2e
  obtain ⟨mm, hmm⟩ : ∃ x, Hid (o.m = x) := ⟨_, Lib.hid rfl⟩
  obtain ⟨nb, hnb⟩ : ∃ x : Mb, Hid ((⟨o.r, go⟩ : Mb) = x) := ⟨_, Lib.hid rfl⟩
  obtain ⟨nb0, hnb0⟩ : ∃ x : Mb, Hid ((⟨mr, go⟩ : Mb) = x) := ⟨_, Lib.hid rfl⟩
  have hV1 := hV.setM hs (r' := o.r) (go' := go) h3 (fun _ _ => Iff.rfl)
  have hst : s.act o i = s.setM o.m ⟨o.r, go⟩ := by rw [hact]; unfold RS.doPromote; rw [h3]
  rw [hmm.out, hnb.out] at hV1 hst
  rw [hmm.out] at h2
  have hnbg : Hid ((gsO nb.g) = gsO nb0.g) := Lib.hid (by rw [← hnb.out, ← hnb0.out])
  have hmm0 : ((o.m, (⟨mr, go⟩ : Mb)), xp, xc) = ((mm, nb0), xp, xc) := by rw [hmm.out, hnb0.out]
  have hs1 := set_map hs.mn (x := nb) h2
  have hLl : L.length = s.ms.length := by have := congrArg List.length hR.lq; rwa [List.length_map] at this
  have hkL : k < L.length := by rw [hLl]; exact hk'
  obtain ⟨S1, hS1⟩ : ∃ S, Hid (s.setM mm nb = S) := ⟨_, Lib.hid rfl⟩
  have hmsq : (L.set k ((mm, nb), xp, xc)).map Prod.fst = S1.ms := by
   rw [List.map_set, hR.lq, ← hS1.out]
   exact hs1
  have hS1l : S1.ms.length = s.ms.length := by rw [← hmsq, List.length_map, List.length_set, hLl]
  have hS1i : S1.ins = s.ins := by rw [← hS1.out]; rfl
  have hS1g : S1.gone = s.gone := by rw [← hS1.out]; rfl
  have hS1b : S1.bk = s.bk := by rw [← hS1.out]; rfl
  have hS1e : (⟨s.ins, s.gone, S1.ms, s.bk⟩ : RS) = S1 := by rw [← hS1i, ← hS1g, ← hS1b]
  rw [hS1.out] at hV1 hst
  obtain ⟨nm, hnm⟩ : ∃ n, Hid (s.ms.length = n) := ⟨_, Lib.hid rfl⟩
  rw [hnm.out] at hS1l hLl
  have hix1 : (0 : Int) ≤ (k : Int) := by omega
  have hix2 : (k : Int) < (nm : Int) := by have := hnm.out; omega
  replace hs1 := Lib.hid hs1
  replace hLl := Lib.hid hLl
  replace hmsq := Lib.hid hmsq
  replace hS1l := Lib.hid hS1l
  replace hS1i := Lib.hid hS1i
  replace hS1g := Lib.hid hS1g
  replace hS1b := Lib.hid hS1b
  replace hS1e := Lib.hid hS1e
  replace hV1 := Lib.hid hV1
  replace hst := Lib.hid hst
  rw [hmm0] at hc hxL
  have k3 := hbox.c3
  rw [hnm.out, hp] at k3
  have zr := hC.op.cr
  have t2 : decide (0 ≤ (k : Int)) = true := decide_eq_true (by omega)
  have hbm := Below.lit w2 (.cells (mC ((mm, nb0), xp, xc)) 108)
  obtain ⟨w3, hw3, hM3⟩ := nameW (p := fun W => MBox W w2.heap.size ((mm, nb0), xp, xc)) (MBox.made w2 _)
  rw [hw3.out] at hbm
  obtain ⟨bm, hbmn⟩ : ∃ bm, Hid (w2.heap.size = bm) := ⟨_, Lib.hid rfl⟩
  have hbm2 : w2.heap.size ≤ bm := by rw [hbmn.out]; exact Nat.le_refl _
  rw [hbmn.out] at hM3
  have zr3 := (hbm.cell (cell_lt zr)).trans zr
  have r3 : w3.cell? ⟨bm, 1, none⟩ = some (.int .i64 nb0.r) := by rw [hM3.cell]; rfl
  have r3f := hM3.free 1
  have hM4' : MBox (w3.setCell ⟨bm, 1, none⟩ (.int .i64 o.r)) bm ((mm, nb), xp, xc) := by
   have h := hM3
   rw [← hnb0.out] at h
   rw [← hnb.out]
   exact h.setRole o.r
  obtain ⟨wv, hwv, hMv⟩ := nameW (p := fun W => MBox W bm ((mm, nb), xp, xc)) hM4'
  have hbv : Below w2.heap.size w2 wv := by rw [← hwv.out]; exact hbm.trans (setCell_below hbm2 hbm.size)
  have hCv := hC.below hbv
  have hRv := hRz.below hbv
  have hBv := hB.trans (hbv.mono hB.size)
  replace h1 := Lib.hid h1
  replace h2 := Lib.hid h2
  replace h3 := Lib.hid h3
  replace h2e := Lib.hid h2e
  replace hc := Lib.hid hc
  replace hxs := Lib.hid hxs
  replace hLk := Lib.hid hLk
  replace hxL := Lib.hid hxL
  replace hact := Lib.hid hact
  replace hmm0 := Lib.hid hmm0
  replace hp := Lib.hid hp
  clear hM4'
  go_upto_region 27 with (first
   | (rw [hw3.out])
   | (refine wpL_loadM rfl _ rfl b (off + k * 11) rfl ((mm, nb0), xp, xc) hc.out ?_)
   | (refine wpL_allocT 108 _ rfl rfl (zero_M _) ?_; simp only [Act.put, List.setIfInBounds_toArray, List.set_cons_succ, List.set_cons_zero])
   | (refine wpL_storeT 108 _ (mC ((mm, nb0), xp, xc)) rfl _ _ rfl (by first | rfl | (simp only [World.size_alloc]; rfl)) rfl (mC_info _) rfl (mC_one _) ?_; try simp only [Act.put])
   | fail)
  rw [hbmn.out]
  go_upto_region 28 with (first | (rw [hwv.out]) | fail)
  clear k3
  have hww := withR_any wv a.pl a.cl L k ((mm, nb), xp, xc) hRv.lm hR.nz.2.2.1 hkL (by have := hLl.out; have := hnm.out; omega)
  rw [hLl.out] at hww
  have k3 := hCv.box.c3
  rw [hnm.out] at k3
  have hxM : ((mm, nb0), xp, xc) ∈ L := hxL.out
  replace hww := Lib.hid hww
  replace hRv := Lib.hid hRv
  go_wp2_with (first
   | (refine wpList_load_row rfl 108 _ rfl bm rfl 108 _ (0, 0) _ hMv Tryd.underlying108 rfl (mC_info _) ?_)
   | fail)
  refine hww.out.mono ?_
  rintro e T ⟨q, d, rfl, hrq, hfq, hqz, hbT⟩
  have hCT := hCv.below hbT
  have k3T := hCT.box.c3
  rw [hnm.out] at k3T
  have f3T := hCT.box.free 3
  have hBT := hBv.trans (hbT.mono hBv.size)
  have hbxv : bx < wv.heap.size := blk_lt hCv.box
  have hbzv : bz < wv.heap.size := blk_lt hCv.z
  have hwv0 : w.heap.size ≤ wv.heap.size := hBv.size
  obtain ⟨W5, hW5, hbox5⟩ := nameW (p := fun W => RfBox W bx { a with pl := q, cl := d } ⟨s.ins, s.gone, S1.ms, s.bk⟩ vs.length) (hCT.box.setL (p := q) (c := d) (n := nm) hS1l.out)
  rw [hS1e.out] at hbox5
  have hk5 : ∀ j, j < T.heap.size → j ≠ bx → W5.heap[j]? = T.heap[j]? := fun j hj hne => by rw [← hW5.out]; exact setCell_keep hj hne
  have hz5 : ZBox W5 bz := hCT.z.keep (hk5 bz (blk_lt hCT.z) hbzx)
  have hB5 : Below w.heap.size w W5 := by rw [← hW5.out]; exact hBT.trans (setCell_below hbx0 hBT.size)
  have hr5 : RL mE W5 q (L.set k ((mm, nb), xp, xc)) := by rw [← hW5.out]; exact hrq.set (hfq.mono hbxv)
  have hgsO : ∀ x ∈ L.set k (((mm, nb), xp, xc) : ME), x ∈ L ∨ x = ((mm, nb), xp, xc) := fun x hx => List.mem_or_eq_of_mem_set hx
  clear hbox hz
  have hbox := hbox5
  have hz := hz5
  replace hk5 := Lib.hid hk5
  replace hgsO := Lib.hid hgsO
  replace hr5 := Lib.hid hr5
  replace hrq := Lib.hid hrq
  go_upto_region 44 with (first | (rw [hW5.out]) | fail)
  go_wp2_with (first | (refine wpList_load_row rfl 60 _ rfl bx rfl 60 _ (0, 0) _ hbox Tryd.underlying60 rfl (rfC_info _ _ _) ?_) | (refine wpList_store_row rfl 60 _ _ rfl bz _ rfl rfl 60 rZ hz (rfC_info _ _ _) rfl (rfC_one _ _ _) ?_) | fail)
  refine bodyPost_ret (v := .agg (rfC { a with pl := q, cl := d } S1 vs.length)) ?_ rfl ?_
  ·exact results_cell_row rfl _ _ bz 60 _ (0, 0) _ rfl (setRow_heap _ _ _ _ _ _ hz) Tryd.underlying60 rfl (rfC_info _ _ _)
  ·obtain ⟨cs, hcs⟩ : ∃ cs, Hid (rfC { a with pl := q, cl := d } S1 vs.length = cs) := ⟨_, Lib.hid rfl⟩
   rw [hcs.out]
   have hBf := belowSetRow (cs := cs) hB5 hbz0
   have hRf := hR.below hBf
   have hfq' : FarP w.heap.size q := hfq.mono hwv0
   rw [hst.out, ← hcs.out]
   refine ⟨{ a with pl := q, cl := d }, L.set k ((mm, nb), xp, xc), vs, rfl, ?_, hV1.out, ⟨hI.pc, hI.pi, hI.pg, fun q e => hN _ (hfq' q e), hI.pv, fun x hx q e => ?_⟩, ?_⟩
   ·rw [hcs.out]
    have := hRf.withL (hr5.out.setRow (hfq.mono hbzv)) hmsq.out hqz (fun x hx => by
     rcases hgsO.out x hx with hx | rfl
     ·exact hRf.gsL x hx
     ·refine ⟨?_, fun q e => hRf.lt.gs _ hxM q e⟩
      have h5 := hRf.gs _ hxM
      rw [hnbg.out]
      exact h5) hRf.vvL hRf.nz.2.2.2
    rw [hS1e.out] at this
    exact this
   ·rcases hgsO.out x hx with hx | rfl
    ·exact hI.gs x hx q e
    ·exact hI.gs _ hxM q e
   ·rw [hcs.out]; exact hBf
end Go.Proofs.YtkolilbebkkpdaaDoor

namespace Go.Proofs.YtkolilbebkkpdaaDoor
open Go.RowKit Go.Maps Go.BigFrame
attribute [local go_sem] in_gr

theorem MBox.setOb {w : World} {b : Nat} {n r : Int} {g : Gd} {p : Option Addr} {c : Nat} (h : MBox w b ((n, ⟨r, some g⟩), p, c)) : MBox (w.setCell ⟨b, 9, none⟩ (.bool true)) b ((n, ⟨r, some ⟨g.id, g.gs, g.n, g.t, g.vo, true, g.la⟩⟩), p, c) := setCell_blk h 9 _
theorem MBox.setLa {w : World} {b : Nat} {n r : Int} {g : Gd} {p : Option Addr} {c : Nat} (h : MBox w b ((n, ⟨r, some g⟩), p, c)) (x : Int) : MBox (w.setCell ⟨b, 10, none⟩ (.int .i64 x)) b ((n, ⟨r, some ⟨g.id, g.gs, g.n, g.t, g.vo, g.ob, x⟩⟩), p, c) := setCell_blk h 10 _
set_option maxRecDepth 100000 in
set_option maxHeartbeats 16000000 in
theorem DoR_12 (P : Nat → Prop) (w : World) (a : RfV) (s : RS) (L : List ME) (vs : List VI) (o : OpI) (gp : Option Addr) (gc : Nat) (i : Idn) (kk : Nat) (hR : RfAt w a s L vs) (hV : VsOk s vs) (hs : s.Ok kk) (hI : RfIn P a L) (hN : ∀ b, w.heap.size ≤ b → P b) (hk : o.k = 12) :
  Calls Tryd.prog 29 #[.agg (rfC a s vs.length), .agg (opC o gp gc), .agg #[.int .i64 i.b, .int .i64 i.s, .int .u64 i.u]] w fun e w' => ∃ a' L' vs', e = .returned (.agg (rfC a' (s.act o i) vs'.length)) ∧ RfAt w' a' (s.act o i) L' vs' ∧ VsOk (s.act o i) vs' ∧ RfIn P a' L' ∧ Below w.heap.size w w' := by
 have hfm := hs.fewM
 have hbx := Below.lit w (.cells (rfC a s vs.length) 60)
 have hRz := hR.below hbx
 obtain ⟨wb, hwb, hBx⟩ := nameW (p := fun W => RfBox W w.heap.size a s vs.length) (RfBox.made w a s vs.length)
 rw [hwb.out] at hbx hRz
 obtain ⟨bx, hbxn⟩ : ∃ bx, Hid (w.heap.size = bx) := ⟨_, Lib.hid rfl⟩
 have hbx0 : w.heap.size ≤ bx := by rw [hbxn.out]; exact Nat.le_refl _
 rw [hbxn.out] at hBx
 have hB := hbx
 have hbo := Below.lit wb (.cells (opC o gp gc) 42)
 obtain ⟨wo, hwo, hOo⟩ := nameW (p := fun W => OpAt W wb.heap.size o gp gc) (OpAt.made wb o gp gc)
 rw [hwo.out] at hbo
 have hbox1 : wb.heap.size ≠ bx := by have := blk_lt hBx; omega
 obtain ⟨bo, hbon⟩ : ∃ bo, Hid (wb.heap.size = bo) := ⟨_, Lib.hid rfl⟩
 rw [hbon.out] at hOo hbox1
 replace hBx := hBx.below hbo
 replace hRz := hRz.below hbo
 replace hB := hB.trans (hbo.mono hB.size)
 have hbi := Below.lit wo (.cells #[.int .i64 i.b, .int .i64 i.s, .int .u64 i.u] 34)
 obtain ⟨wi, hwi, hIi⟩ := nameW (p := fun W => IdAt W wo.heap.size i) (IdAt.made wo i)
 rw [hwi.out] at hbi
 have hbix1 : wo.heap.size ≠ bx := by have := blk_lt hBx; omega
 obtain ⟨bi, hbin⟩ : ∃ bi, Hid (wo.heap.size = bi) := ⟨_, Lib.hid rfl⟩
 rw [hbin.out] at hIi hbix1
 replace hBx := hBx.below hbi
 replace hOo := hOo.below hbi (cell_lt hOo.cb)
 replace hRz := hRz.below hbi
 replace hB := hB.trans (hbi.mono hB.size)
 have hbz := Below.lit wi (.cells rZ 60)
 obtain ⟨wz, hwz, hZ⟩ := nameW (p := fun W => ZBox W wi.heap.size) (ZBox.made wi)
 rw [hwz.out] at hbz
 have hbzx : wi.heap.size ≠ bx := by have := blk_lt hBx; omega
 have hbz0 : w.heap.size ≤ wi.heap.size := hB.size
 obtain ⟨bz, hbzn⟩ : ∃ bz, Hid (wi.heap.size = bz) := ⟨_, Lib.hid rfl⟩
 rw [hbzn.out] at hZ hbzx hbz0
 have hC : DC wz bx bo bi bz a s vs.length o gp gc i := ⟨hBx.below hbz, hOo.below hbz (cell_lt hOo.cb), hIi.below hbz, hZ⟩
 replace hRz := hRz.below hbz
 replace hB := hB.trans (hbz.mono hB.size)
 clear hbx hbo hbi hbz hBx hOo hIi hZ
 go_enter Tryd.func29, Tryd.ntmps29
 go_upto_region 1 with (first | (rw [hwb.out]) | (rw [hwo.out]) | (rw [hwi.out]) | (rw [hwz.out]) | (refine wpL_allocT 60 rZ rfl rfl (zero_R _) ?_; simp only [Act.put, List.setIfInBounds_toArray, List.set_cons_succ, List.set_cons_zero]) | fail)
 rw [hbxn.out, hbon.out, hbin.out, hbzn.out]
 obtain ⟨m, hm⟩ : ∃ m, Hid (ofD o.b = m) := ⟨_, Lib.hid rfl⟩
 obtain ⟨at_, hat⟩ : ∃ x, Hid (memI s m = x) := ⟨_, Lib.hid rfl⟩
 obtain ⟨wd, hwd⟩ : ∃ wd, Hid (wz.drew = wd) := ⟨_, Lib.hid rfl⟩
 have hw0 : Below wz.heap.size wz wd := by rw [← hwd.out]; exact (Below.refl _ _).drew
 replace hC := hC.below hw0
 replace hRz := hRz.below hw0
 replace hB := hB.trans (hw0.mono hB.size)
 have zb := hC.op.cb
 have hb0 : Below wd.heap.size wd wd := Below.refl _ _
 refine wp_region_D (D := fun T => Below wd.heap.size wd T) (by kernel_rfl) ?_
 rw [hwd.out]
 change wpAnyD _ _ _ _ _ 7 _ _ _
 apply tkD 0 hb0 rfl
 ·intro T hT
  exact run_loadR (hC.box.below hT) rfl rfl
 try go_frame
 apply tkD 1 hb0 rfl
 ·intro T hT
  exact run_loadR (hC.box.below hT) rfl rfl
 try go_frame
 apply tkD 2 hb0 rfl
 ·intro T hT
  have hT0 := (hT.cell (cell_lt zb)).trans zb
  go_simp
  try rfl
 try go_frame
 apply tkD 3 hb0 rfl
 ·intro T hT
  have hT0 := (hT.cell (cell_lt zb)).trans zb
  go_simp
  try rfl
 try go_frame
 refine oneD 4 (by kernel_rfl) rfl (by kernel_rfl) (fun K hK => ?_)
 go_simp
 refine (OfR_any wd a.pc a.cc _ _ _ _ _ o.b hRz.cards).mono ?_
 rintro e T1 ⟨rfl, hbT1⟩
 rw [hm.out]
 refine hK _ _ ⟨hbT1, ?_⟩
 clear hK K
 try go_frame
 refine oneD 5 (by kernel_rfl) rfl (by kernel_rfl) (fun K hK => ?_)
 go_simp
 refine (MemR_any T1 a s L vs m (hRz.below hbT1) (by omega)).mono ?_
 rintro e w1 ⟨rfl, hbT2⟩
 rw [hat.out]
 have hbT := hbT1.trans (hbT2.mono hbT1.size)
 refine hK _ _ ⟨hbT, ?_⟩
 clear hK K
 try go_frame
 apply tkD 6 hbT rfl
 ·intro T hT
  go_simp
  try rfl
 try go_frame
 refine wpAnyD_done (by kernel_rfl) ?_ _
 replace hC := hC.below hbT
 replace hRz := hRz.below hbT
 replace hB := hB.trans (hbT.mono hB.size)
 clear zb hb0 hbT hbT1 hbT2 hw0
 have hbxl : bx < w1.heap.size := blk_lt hC.box
 have hbzl : bz < w1.heap.size := blk_lt hC.z
 have hIz := hI.and hR.lt hbx0 hbz0
 have hNz := far_and hN hB.size hbxl hbzl
 have hbox := hC.box
 have hz := hC.z
 have zk := hC.op.ck
 rw [hk] at zk
 have hact : s.act o i = s.doObject o := by unfold RS.act; rw [if_neg (by rw [hk]; decide), if_neg (by rw [hk]; decide), if_neg (by rw [hk]; decide), if_neg (by rw [hk]; decide), if_neg (by rw [hk]; decide), if_neg (by rw [hk]; decide), if_pos hk]
 clear hbxl hbzl hNz
 go_upto_region 34 with fail
 obtain ⟨w2, hw2⟩ : ∃ w2, Hid (w1.drew = w2) := ⟨_, Lib.hid rfl⟩
 have hb2 : Below w1.heap.size w1 w2 := by rw [← hw2.out]; exact (Below.refl _ _).drew
 replace hC := hC.below hb2
 replace hRz := hRz.below hb2
 replace hB := hB.trans (hb2.mono hB.size)
 replace hbox := hC.box
 replace hz := hC.z
 have hb0 : Below w2.heap.size w2 w2 := Below.refl _ _
 refine wp_region_D (D := fun T => Below w2.heap.size w2 T) (by kernel_rfl) ?_
 rw [hw2.out]
 change wpAnyD _ _ _ _ _ 23 _ _ _
 clear hb2
 rcases memI_cases s m with ⟨h1, h2⟩ | ⟨k, mb, h1, h2, h3⟩
 ·obtain rfl : at_ = -1 := by rw [← hat.out, h1]
  have hst : Hid (s.act o i = s) := Lib.hid (by rw [hact]; unfold RS.doObject; rw [hm.out, h2])
  replace h1 := Lib.hid h1
  replace h2 := Lib.hid h2
  replace hact := Lib.hid hact
  apply tkD 0 hb0 rfl
  ·intro T hT
   go_simp
   try rfl
  try go_frame
  apply tkD 1 hb0 rfl
  ·intro T hT
   go_simp
   try rfl
  try go_frame
  apply tkD 2 hb0 rfl
  ·intro T hT
   go_simp
   try rfl
  try go_frame
  apply noD 3 hb0 rfl
  try go_frame
  apply noD 4 hb0 rfl
  try go_frame
  apply noD 5 hb0 rfl
  try go_frame
  apply noD 6 hb0 rfl
  try go_frame
  apply noD 7 hb0 rfl
  try go_frame
  apply noD 8 hb0 rfl
  try go_frame
  apply noD 9 hb0 rfl
  try go_frame
  apply tkD 10 hb0 rfl
  ·intro T hT
   go_simp
   try rfl
  try go_frame
  apply tkD 11 hb0 rfl
  ·intro T hT
   go_simp
   try rfl
  try go_frame
  apply noD 12 hb0 rfl
  try go_frame
  apply noD 13 hb0 rfl
  try go_frame
  apply noD 14 hb0 rfl
  try go_frame
  apply noD 15 hb0 rfl
  try go_frame
  apply noD 16 hb0 rfl
  try go_frame
  apply noD 17 hb0 rfl
  try go_frame
  apply noD 18 hb0 rfl
  try go_frame
  apply noD 19 hb0 rfl
  try go_frame
  apply noD 20 hb0 rfl
  try go_frame
  apply noD 21 hb0 rfl
  try go_frame
  apply tkD 22 hb0 rfl
  ·intro T hT
   go_simp
   try rfl
  try go_frame
  refine wpAnyD_done (by kernel_rfl) ?_ _
  go_wp2_with (first | (refine wpList_load_row rfl 60 _ rfl bx rfl 60 _ (0, 0) _ hbox Tryd.underlying60 rfl (rfC_info _ _ _) ?_) | (refine wpList_store_row rfl 60 _ _ rfl bz _ rfl rfl 60 rZ hz (rfC_info _ _ _) rfl (rfC_one _ _ _) ?_) | fail)
  refine bodyPost_ret (v := .agg (rfC a s vs.length)) ?_ rfl ?_
  ·exact results_cell_row rfl _ _ bz 60 _ (0, 0) _ rfl (setRow_heap _ _ _ _ _ _ hz) Tryd.underlying60 rfl (rfC_info _ _ _)
  ·have hBf := belowSetRow (cs := rfC a s vs.length) hB hbz0
   rw [hst.out]
   exact ⟨a, L, vs, rfl, hR.below hBf, hV, hI, hBf⟩
 ·obtain rfl : at_ = (k : Int) := by rw [← hat.out, h1]
  obtain ⟨mr, go⟩ := mb
  obtain ⟨hk', h2e⟩ := List.getElem?_eq_some_iff.1 h2
  obtain ⟨b, off, x, hxL, hxs, hp, _, hLk, hc⟩ := hRz.at_ hk'
  obtain ⟨xm, xp, xc⟩ := x
  obtain rfl : xm = (m, ⟨mr, go⟩) := hxs.trans h2e
  have hix1 : (0 : Int) ≤ (k : Int) := by omega
  have hix2 : (k : Int) < (s.ms.length : Int) := by omega
  have t2 : decide (0 ≤ (k : Int)) = true := decide_eq_true (by omega)
  have k3 := hbox.c3
  rw [hp] at k3
  have tmax : max (k : Int) 0 = k := by omega
  have f0 := hC.op.cfb
  have f1 := hC.op.cfs
  have f2 := hC.op.cfu
  have c2 := hc 2 _ rfl
  have c3 := hc 3 _ rfl
  have c4 := hc 4 _ rfl
  have c5 := hc 5 _ rfl
  replace c4 : w2.cell? ⟨b, off + k * 11 + 3 + 1, none⟩ = _ := c4
  replace c5 : w2.cell? ⟨b, off + k * 11 + 3 + 2, none⟩ = _ := c5
  replace f1 : w2.cell? ⟨bo, 16 + 1, none⟩ = _ := f1
  replace f2 : w2.cell? ⟨bo, 16 + 2, none⟩ = _ := f2
  have hst' := id_stood
  have hgd' := id_guard
  replace h1 := Lib.hid h1
  replace h2e := Lib.hid h2e
  replace hc := Lib.hid hc
  replace hxs := Lib.hid hxs
  replace hLk := Lib.hid hLk
  replace hxL := Lib.hid hxL
  replace hp := Lib.hid hp
  apply tkD 0 hb0 rfl
  ·intro T hT
   go_simp
   try rfl
  try go_frame
  apply tkD 1 hb0 rfl
  ·intro T hT
   go_simp
   try rfl
  try go_frame
  apply tkD 2 hb0 rfl
  ·intro T hT
   go_simp
   try rfl
  try go_frame
  apply tkD 3 hb0 rfl
  ·intro T hT
   have hT0 := (hT.cell (cell_lt k3)).trans k3
   go_simp
   try rfl
  try go_frame
  apply tkD 4 hb0 rfl
  ·intro T hT
   have hT0 := (hT.cell (cell_lt k3)).trans k3
   go_simp
   try rfl
  try go_frame
  apply tkD 5 hb0 rfl
  ·intro T hT
   have hT0 := (hT.cell (cell_lt k3)).trans k3
   go_simp
   try rfl
  try go_frame
  apply tkD 6 hb0 rfl
  ·intro T hT
   have hT0 := (hT.cell (cell_lt k3)).trans k3
   go_simp
   try rfl
  try go_frame
  apply tkD 7 hb0 rfl
  ·intro T hT
   have hT0 := (hT.cell (cell_lt k3)).trans k3
   go_simp
   try rfl
  try go_frame
  apply tkD 8 hb0 rfl
  ·intro T hT
   have hT0 := (hT.cell (cell_lt k3)).trans k3
   go_simp
   try rfl
  try go_frame
  cases go with
  | none =>
   replace c2 : w2.cell? ⟨b, off + k * 11 + 2, none⟩ = some (.bool false) := c2
   have hst : Hid (s.act o i = s) := Lib.hid (by rw [hact]; unfold RS.doObject; rw [hm.out, h3])
   replace h2 := Lib.hid h2
   replace h3 := Lib.hid h3
   replace hact := Lib.hid hact
   apply tkD 9 hb0 rfl
   ·intro T hT
    have hT0 := (hT.cell (cell_lt c2)).trans c2
    go_simp
    try rfl
   try go_frame
   apply tkD 10 hb0 rfl
   ·intro T hT
    go_simp
    try rfl
   try go_frame
   apply tkD 11 hb0 rfl
   ·intro T hT
    go_simp
    try rfl
   try go_frame
   apply noD 12 hb0 rfl
   try go_frame
   apply noD 13 hb0 rfl
   try go_frame
   apply noD 14 hb0 rfl
   try go_frame
   apply noD 15 hb0 rfl
   try go_frame
   apply noD 16 hb0 rfl
   try go_frame
   apply noD 17 hb0 rfl
   try go_frame
   apply noD 18 hb0 rfl
   try go_frame
   apply noD 19 hb0 rfl
   try go_frame
   apply noD 20 hb0 rfl
   try go_frame
   apply noD 21 hb0 rfl
   try go_frame
   apply tkD 22 hb0 rfl
   ·intro T hT
    go_simp
    try rfl
   try go_frame
   refine wpAnyD_done (by kernel_rfl) ?_ _
   go_wp2_with (first | (refine wpList_load_row rfl 60 _ rfl bx rfl 60 _ (0, 0) _ hbox Tryd.underlying60 rfl (rfC_info _ _ _) ?_) | (refine wpList_store_row rfl 60 _ _ rfl bz _ rfl rfl 60 rZ hz (rfC_info _ _ _) rfl (rfC_one _ _ _) ?_) | fail)
   refine bodyPost_ret (v := .agg (rfC a s vs.length)) ?_ rfl ?_
   ·exact results_cell_row rfl _ _ bz 60 _ (0, 0) _ rfl (setRow_heap _ _ _ _ _ _ hz) Tryd.underlying60 rfl (rfC_info _ _ _)
   ·have hBf := belowSetRow (cs := rfC a s vs.length) hB hbz0
    rw [hst.out]
    exact ⟨a, L, vs, rfl, hR.below hBf, hV, hI, hBf⟩
  | some g =>
   replace c2 : w2.cell? ⟨b, off + k * 11 + 2, none⟩ = some (.bool true) := c2
   replace c3 : w2.cell? ⟨b, off + k * 11 + 3, none⟩ = some (.int .i64 g.id.b) := c3
   replace c4 : w2.cell? ⟨b, off + k * 11 + 3 + 1, none⟩ = some (.int .i64 g.id.s) := c4
   replace c5 : w2.cell? ⟨b, off + k * 11 + 3 + 2, none⟩ = some (.int .u64 g.id.u) := c5
   have hid := fun T => id_eql g.id o.f T
   obtain ⟨xb, hxb⟩ : ∃ xb, Hid (decide (g.id = o.f) = xb) := ⟨_, Lib.hid rfl⟩
   rw [hxb.out] at hid
   apply tkD 9 hb0 rfl
   ·intro T hT
    have hT0 := (hT.cell (cell_lt c2)).trans c2
    go_simp
    try rfl
   try go_frame
   apply tkD 10 hb0 rfl
   ·intro T hT
    go_simp
    try rfl
   try go_frame
   apply tkD 11 hb0 rfl
   ·intro T hT
    go_simp
    try rfl
   try go_frame
   apply tkD 12 hb0 rfl
   ·intro T hT
    have hT0 := (hT.cell (cell_lt k3)).trans k3
    go_simp
    try rfl
   try go_frame
   apply tkD 13 hb0 rfl
   ·intro T hT
    have hT0 := (hT.cell (cell_lt k3)).trans k3
    go_simp
    try rfl
   try go_frame
   apply tkD 14 hb0 rfl
   ·intro T hT
    have hT0 := (hT.cell (cell_lt k3)).trans k3
    go_simp
    try rfl
   try go_frame
   apply tkD 15 hb0 rfl
   ·intro T hT
    have hT0 := (hT.cell (cell_lt k3)).trans k3
    go_simp
    try rfl
   try go_frame
   apply tkD 16 hb0 rfl
   ·intro T hT
    have hT0 := (hT.cell (cell_lt k3)).trans k3
    go_simp
    try rfl
   try go_frame
   apply tkD 17 hb0 rfl
   ·intro T hT
    have hT0 := (hT.cell (cell_lt k3)).trans k3
    go_simp
    try rfl
   try go_frame
   apply tkD 18 hb0 rfl
   ·intro T hT
    have hT0 := (hT.cell (cell_lt c3)).trans c3
    have hT1 := (hT.cell (cell_lt c4)).trans c4
    have hT2 := (hT.cell (cell_lt c5)).trans c5
    go_simp
    try rfl
   try go_frame
   apply tkD 19 hb0 rfl
   ·intro T hT
    go_simp
    try rfl
   try go_frame
   apply tkD 20 hb0 rfl
   ·intro T hT
    have hT0 := (hT.cell (cell_lt f0)).trans f0
    have hT1 := (hT.cell (cell_lt f1)).trans f1
    have hT2 := (hT.cell (cell_lt f2)).trans f2
    go_simp
    try rfl
   try go_frame
   apply tkD 21 hb0 rfl
   ·intro T hT
    go_simp
    try rfl
   try go_frame
   apply tkD 22 hb0 rfl
   ·intro T hT
    go_simp
    try rfl
   try go_frame
   refine wpAnyD_done (by kernel_rfl) ?_ _
   cases xb with
   | false =>
    have hst : Hid (s.act o i = s) := Lib.hid (by rw [hact]; unfold RS.doObject; rw [hm.out, h3]; exact if_neg (of_decide_eq_false hxb.out))
    replace h2 := Lib.hid h2
    replace h3 := Lib.hid h3
    replace hact := Lib.hid hact
    go_wp2_with (first | (refine wpList_load_row rfl 60 _ rfl bx rfl 60 _ (0, 0) _ hbox Tryd.underlying60 rfl (rfC_info _ _ _) ?_) | (refine wpList_store_row rfl 60 _ _ rfl bz _ rfl rfl 60 rZ hz (rfC_info _ _ _) rfl (rfC_one _ _ _) ?_) | fail)
    refine bodyPost_ret (v := .agg (rfC a s vs.length)) ?_ rfl ?_
    ·exact results_cell_row rfl _ _ bz 60 _ (0, 0) _ rfl (setRow_heap _ _ _ _ _ _ hz) Tryd.underlying60 rfl (rfC_info _ _ _)
    ·have hBf := belowSetRow (cs := rfC a s vs.length) hB hbz0
     rw [hst.out]
     exact ⟨a, L, vs, rfl, hR.below hBf, hV, hI, hBf⟩
   | true =>
    obtain ⟨mm, hmm⟩ : ∃ x, Hid (m = x) := ⟨_, Lib.hid rfl⟩
    have hst : s.act o i = s.setM m ⟨mr, some (objG g o)⟩ := by rw [hact]; unfold RS.doObject; rw [hm.out, h3]; exact if_pos (of_decide_eq_true hxb.out)
    have hV1 := hV.setM hs (r' := mr) (go' := some (objG g o)) h3 (fun i x => by
     constructor
     ·rintro ⟨g', e, h4, h5⟩
      injection e with e
      subst e
      exact ⟨g, rfl, h4, h5⟩
     ·rintro ⟨g', e, h4, h5⟩
      injection e with e
      subst e
      exact ⟨_, rfl, h4, h5⟩)
    obtain ⟨nb, hnb⟩ : ∃ x : Mb, Hid ((⟨mr, some (objG g o)⟩ : Mb) = x) := ⟨_, Lib.hid rfl⟩
    obtain ⟨nb0, hnb0⟩ : ∃ x : Mb, Hid ((⟨mr, some g⟩ : Mb) = x) := ⟨_, Lib.hid rfl⟩
    have hnbg : Hid ((gsO nb.g) = gsO nb0.g) := Lib.hid (by rw [← hnb.out, ← hnb0.out]; rfl)
    rw [hnb.out, hmm.out] at hV1 hst
    rw [hmm.out] at h2
    clear hix1 hix2
    have hs1 := set_map hs.mn (x := nb) h2
    have hLl : L.length = s.ms.length := by have := congrArg List.length hR.lq; rwa [List.length_map] at this
    have hkL : k < L.length := by rw [hLl]; exact hk'
    obtain ⟨S1, hS1⟩ : ∃ S, Hid (s.setM mm nb = S) := ⟨_, Lib.hid rfl⟩
    have hmsq : (L.set k ((mm, nb), xp, xc)).map Prod.fst = S1.ms := by
     rw [List.map_set, hR.lq, ← hS1.out]
     exact hs1
    have hS1l : S1.ms.length = s.ms.length := by rw [← hmsq, List.length_map, List.length_set, hLl]
    have hS1i : S1.ins = s.ins := by rw [← hS1.out]; rfl
    have hS1g : S1.gone = s.gone := by rw [← hS1.out]; rfl
    have hS1b : S1.bk = s.bk := by rw [← hS1.out]; rfl
    have hS1e : (⟨s.ins, s.gone, S1.ms, s.bk⟩ : RS) = S1 := by rw [← hS1i, ← hS1g, ← hS1b]
    rw [hS1.out] at hV1 hst
    obtain ⟨nm, hnm⟩ : ∃ n, Hid (s.ms.length = n) := ⟨_, Lib.hid rfl⟩
    rw [hnm.out] at hS1l hLl
    have hix1 : (0 : Int) ≤ (k : Int) := by omega
    have hix2 : (k : Int) < (nm : Int) := by have := hnm.out; omega
    replace hs1 := Lib.hid hs1
    replace hLl := Lib.hid hLl
    replace hmsq := Lib.hid hmsq
    replace hS1l := Lib.hid hS1l
    replace hS1i := Lib.hid hS1i
    replace hS1g := Lib.hid hS1g
    replace hS1b := Lib.hid hS1b
    replace hS1e := Lib.hid hS1e
    replace hV1 := Lib.hid hV1
    replace hst := Lib.hid hst
    have hmm0 : ((m, (⟨mr, some g⟩ : Mb)), xp, xc) = ((mm, nb0), xp, xc) := by rw [hmm.out, hnb0.out]
    have hcO := hc.out
    have hxLO := hxL.out
    rw [hmm0] at hcO hxLO
    replace hcO := Lib.hid hcO
    clear hxL
    have hxL := Lib.hid hxLO
    rw [hnm.out] at k3
    have za := hC.op.ca
    have hbm := Below.lit w2 (.cells (mC ((mm, nb0), xp, xc)) 108)
    obtain ⟨w3, hw3, hM3⟩ := nameW (p := fun W => MBox W w2.heap.size ((mm, nb0), xp, xc)) (MBox.made w2 _)
    rw [hw3.out] at hbm
    obtain ⟨bm, hbmn⟩ : ∃ bm, Hid (w2.heap.size = bm) := ⟨_, Lib.hid rfl⟩
    have hbm2 : w2.heap.size ≤ bm := by rw [hbmn.out]; exact Nat.le_refl _
    rw [hbmn.out] at hM3
    have za3 := (hbm.cell (cell_lt za)).trans za
    have o3 : w3.cell? ⟨bm, 9, none⟩ = some (.bool (obO nb0.g)) := by rw [hM3.cell]; rfl
    have o3f := hM3.free 9
    have hM3' := hM3
    rw [← hnb0.out] at hM3'
    obtain ⟨w4, hw4, hM4⟩ := nameW (p := fun W => MBox W bm ((mm, ⟨mr, some ⟨g.id, g.gs, g.n, g.t, g.vo, true, g.la⟩⟩), xp, xc)) hM3'.setOb
    have hk4 : bo ≠ bm := by have := cell_lt hC.op.cb; have : bo < w2.heap.size := this; omega
    have hb24 : Below w2.heap.size w2 w4 := by rw [← hw4.out]; exact hbm.trans (setCell_below hbm2 hbm.size)
    have za4 := (hb24.cell (cell_lt za)).trans za
    have l4 : w4.cell? ⟨bm, 10, none⟩ = some (.int .i64 g.la) := by rw [hM4.cell]; rfl
    have l4f := hM4.free 10
    obtain ⟨N, hN'⟩ : ∃ N, max g.la o.a = N := ⟨_, rfl⟩
    have hM5' := hM4.setLa N
    rw [show (⟨mr, some ⟨g.id, g.gs, g.n, g.t, g.vo, true, N⟩⟩ : Mb) = nb by rw [← hnb.out, ← hN']; rfl] at hM5'
    obtain ⟨wv, hwv, hMv⟩ := nameW (p := fun W => MBox W bm ((mm, nb), xp, xc)) hM5'
    have hbv : Below w2.heap.size w2 wv := by rw [← hwv.out]; exact hb24.trans (setCell_below hbm2 hb24.size)
    have hCv := hC.below hbv
    have hRv := hRz.below hbv
    have hBv := hB.trans (hbv.mono hB.size)
    replace h2 := Lib.hid h2
    replace h3 := Lib.hid h3
    replace hact := Lib.hid hact
    replace hmm0 := Lib.hid hmm0
    clear hM5' hM3' hxLO
    go_upto_region 36 with (first
     | (rw [hw3.out])
     | (refine wpL_loadM rfl _ rfl b (off + k * 11) rfl ((mm, nb0), xp, xc) hcO.out ?_)
     | (refine wpL_allocT 108 _ rfl rfl (zero_M _) ?_; simp only [Act.put, List.setIfInBounds_toArray, List.set_cons_succ, List.set_cons_zero])
     | (refine wpL_storeT 108 _ (mC ((mm, nb0), xp, xc)) rfl _ _ rfl (by first | rfl | (simp only [World.size_alloc]; rfl)) rfl (mC_info _) rfl (mC_one _) ?_; try simp only [Act.put])
     | fail)
    rw [hbmn.out]
    go_upto_region 37 with (first | (rw [hw4.out]) | fail)
    go_upto_region 38 with (first | (rw [hwv.out]) | fail)
    clear k3
    have hww := withR_any wv a.pl a.cl L k ((mm, nb), xp, xc) hRv.lm hR.nz.2.2.1 hkL (by have := hLl.out; have := hnm.out; omega)
    rw [hLl.out] at hww
    have k3 := hCv.box.c3
    rw [hnm.out] at k3
    have hxM : ((mm, nb0), xp, xc) ∈ L := hxL.out
    replace hww := Lib.hid hww
    replace hRv := Lib.hid hRv
    go_wp2_with (first
     | (refine wpList_load_row rfl 108 _ rfl bm rfl 108 _ (0, 0) _ hMv Tryd.underlying108 rfl (mC_info _) ?_)
     | fail)
    refine hww.out.mono ?_
    rintro e T ⟨q, d, rfl, hrq, hfq, hqz, hbT⟩
    have hCT := hCv.below hbT
    have k3T := hCT.box.c3
    rw [hnm.out] at k3T
    have f3T := hCT.box.free 3
    have hBT := hBv.trans (hbT.mono hBv.size)
    have hbxv : bx < wv.heap.size := blk_lt hCv.box
    have hbzv : bz < wv.heap.size := blk_lt hCv.z
    have hwv0 : w.heap.size ≤ wv.heap.size := hBv.size
    obtain ⟨W5, hW5, hbox5⟩ := nameW (p := fun W => RfBox W bx { a with pl := q, cl := d } ⟨s.ins, s.gone, S1.ms, s.bk⟩ vs.length) (hCT.box.setL (p := q) (c := d) (n := nm) hS1l.out)
    rw [hS1e.out] at hbox5
    have hk5 : ∀ j, j < T.heap.size → j ≠ bx → W5.heap[j]? = T.heap[j]? := fun j hj hne => by rw [← hW5.out]; exact setCell_keep hj hne
    have hz5 : ZBox W5 bz := hCT.z.keep (hk5 bz (blk_lt hCT.z) hbzx)
    have hB5 : Below w.heap.size w W5 := by rw [← hW5.out]; exact hBT.trans (setCell_below hbx0 hBT.size)
    have hr5 : RL mE W5 q (L.set k ((mm, nb), xp, xc)) := by rw [← hW5.out]; exact hrq.set (hfq.mono hbxv)
    have hgsO : ∀ x ∈ L.set k (((mm, nb), xp, xc) : ME), x ∈ L ∨ x = ((mm, nb), xp, xc) := fun x hx => List.mem_or_eq_of_mem_set hx
    clear hbox hz
    have hbox := hbox5
    have hz := hz5
    replace hk5 := Lib.hid hk5
    replace hgsO := Lib.hid hgsO
    replace hr5 := Lib.hid hr5
    replace hrq := Lib.hid hrq
    go_upto_region 44 with (first | (rw [hW5.out]) | fail)
    go_wp2_with (first | (refine wpList_load_row rfl 60 _ rfl bx rfl 60 _ (0, 0) _ hbox Tryd.underlying60 rfl (rfC_info _ _ _) ?_) | (refine wpList_store_row rfl 60 _ _ rfl bz _ rfl rfl 60 rZ hz (rfC_info _ _ _) rfl (rfC_one _ _ _) ?_) | fail)
    refine bodyPost_ret (v := .agg (rfC { a with pl := q, cl := d } S1 vs.length)) ?_ rfl ?_
    ·exact results_cell_row rfl _ _ bz 60 _ (0, 0) _ rfl (setRow_heap _ _ _ _ _ _ hz) Tryd.underlying60 rfl (rfC_info _ _ _)
    ·obtain ⟨cs, hcs⟩ : ∃ cs, Hid (rfC { a with pl := q, cl := d } S1 vs.length = cs) := ⟨_, Lib.hid rfl⟩
     rw [hcs.out]
     have hBf := belowSetRow (cs := cs) hB5 hbz0
     have hRf := hR.below hBf
     have hfq' : FarP w.heap.size q := hfq.mono hwv0
     rw [hst.out, ← hcs.out]
     refine ⟨{ a with pl := q, cl := d }, L.set k ((mm, nb), xp, xc), vs, rfl, ?_, hV1.out, ⟨hI.pc, hI.pi, hI.pg, fun q e => hN _ (hfq' q e), hI.pv, fun x hx q e => ?_⟩, ?_⟩
     ·rw [hcs.out]
      have := hRf.withL (hr5.out.setRow (hfq.mono hbzv)) hmsq.out hqz (fun x hx => by
       rcases hgsO.out x hx with hx | rfl
       ·exact hRf.gsL x hx
       ·refine ⟨?_, fun q e => hRf.lt.gs _ hxM q e⟩
        have h5 := hRf.gs _ hxM
        rw [hnbg.out]
        exact h5) hRf.vvL hRf.nz.2.2.2
      rw [hS1e.out] at this
      exact this
     ·rcases hgsO.out x hx with hx | rfl
      ·exact hI.gs x hx q e
      ·exact hI.gs _ hxM q e
     ·rw [hcs.out]; exact hBf
end Go.Proofs.YtkolilbebkkpdaaDoor

namespace Go.Proofs.YtkolilbebkkpdaaDoor
open Go.RowKit Go.Maps Go.BigFrame
attribute [local go_sem] in_gr

theorem rep_cases {s : RS} {kk : Nat} (hs : s.Ok kk) (o : OpI) : (whoI s o.f = -1 ∧ s.doReplace o = s) ∨
  ∃ (k : Nat) (n : Int) (mb : Mb), whoI s o.f = k ∧ s.ms[k]? = some (n, mb) ∧ s.doReplace o = if o.o ∈ s.ins ∧ ofD o.o = n ∧ ofD o.d = n then (s.comes o.d (s.role (ofD o.d))).goes o.o else s := by
 rcases whoI_cases s o.f with ⟨h1, h2⟩ | ⟨k, p, h1, h2, h3⟩
 ·refine .inl ⟨h1, ?_⟩
  unfold RS.doReplace
  rw [RS.whose_none h2, if_neg (fun h => by omega)]
 ·obtain ⟨n, mb⟩ := p
  refine .inr ⟨k, n, mb, h1, h2, ?_⟩
  have hm := List.mem_of_getElem? h2
  have hw : s.whose o.f = n := RS.whose_of hs.ids hm h3
  have hn : 1 ≤ n := (hs.mem _ hm).1
  unfold RS.doReplace
  rw [hw]
  refine ite_congr (propext ⟨fun h => h.2, fun h => ⟨by omega, h⟩⟩) (fun _ => rfl) (fun _ => rfl)
set_option maxRecDepth 100000 in
set_option maxHeartbeats 16000000 in
theorem DoR_13 (P : Nat → Prop) (w : World) (a : RfV) (s : RS) (L : List ME) (vs : List VI) (o : OpI) (gp : Option Addr) (gc : Nat) (i : Idn) (kk : Nat) (hR : RfAt w a s L vs) (hV : VsOk s vs) (hs : s.Ok kk) (hkk : kk ≤ 1000) (hI : RfIn P a L) (hN : ∀ b, w.heap.size ≤ b → P b) (hk : o.k = 13) :
  Calls Tryd.prog 29 #[.agg (rfC a s vs.length), .agg (opC o gp gc), .agg #[.int .i64 i.b, .int .i64 i.s, .int .u64 i.u]] w fun e w' => ∃ a' L' vs', e = .returned (.agg (rfC a' (s.act o i) vs'.length)) ∧ RfAt w' a' (s.act o i) L' vs' ∧ VsOk (s.act o i) vs' ∧ RfIn P a' L' ∧ Below w.heap.size w w' := by
 have hfm := hs.fewM
 have hfw := hs.few
 rw [List.length_append] at hfw
 have hbx := Below.lit w (.cells (rfC a s vs.length) 60)
 have hRz := hR.below hbx
 obtain ⟨wb, hwb, hBx⟩ := nameW (p := fun W => RfBox W w.heap.size a s vs.length) (RfBox.made w a s vs.length)
 rw [hwb.out] at hbx hRz
 obtain ⟨bx, hbxn⟩ : ∃ bx, Hid (w.heap.size = bx) := ⟨_, Lib.hid rfl⟩
 have hbx0 : w.heap.size ≤ bx := by rw [hbxn.out]; exact Nat.le_refl _
 rw [hbxn.out] at hBx
 have hB := hbx
 have hbo := Below.lit wb (.cells (opC o gp gc) 42)
 obtain ⟨wo, hwo, hOo⟩ := nameW (p := fun W => OpAt W wb.heap.size o gp gc) (OpAt.made wb o gp gc)
 rw [hwo.out] at hbo
 have hbox1 : wb.heap.size ≠ bx := by have := blk_lt hBx; omega
 obtain ⟨bo, hbon⟩ : ∃ bo, Hid (wb.heap.size = bo) := ⟨_, Lib.hid rfl⟩
 rw [hbon.out] at hOo hbox1
 replace hBx := hBx.below hbo
 replace hRz := hRz.below hbo
 replace hB := hB.trans (hbo.mono hB.size)
 have hbi := Below.lit wo (.cells #[.int .i64 i.b, .int .i64 i.s, .int .u64 i.u] 34)
 obtain ⟨wi, hwi, hIi⟩ := nameW (p := fun W => IdAt W wo.heap.size i) (IdAt.made wo i)
 rw [hwi.out] at hbi
 have hbix1 : wo.heap.size ≠ bx := by have := blk_lt hBx; omega
 obtain ⟨bi, hbin⟩ : ∃ bi, Hid (wo.heap.size = bi) := ⟨_, Lib.hid rfl⟩
 rw [hbin.out] at hIi hbix1
 replace hBx := hBx.below hbi
 replace hOo := hOo.below hbi (cell_lt hOo.cb)
 replace hRz := hRz.below hbi
 replace hB := hB.trans (hbi.mono hB.size)
 have hbz := Below.lit wi (.cells rZ 60)
 obtain ⟨wz, hwz, hZ⟩ := nameW (p := fun W => ZBox W wi.heap.size) (ZBox.made wi)
 rw [hwz.out] at hbz
 have hbzx : wi.heap.size ≠ bx := by have := blk_lt hBx; omega
 have hbz0 : w.heap.size ≤ wi.heap.size := hB.size
 obtain ⟨bz, hbzn⟩ : ∃ bz, Hid (wi.heap.size = bz) := ⟨_, Lib.hid rfl⟩
 rw [hbzn.out] at hZ hbzx hbz0
 have hC : DC wz bx bo bi bz a s vs.length o gp gc i := ⟨hBx.below hbz, hOo.below hbz (cell_lt hOo.cb), hIi.below hbz, hZ⟩
 replace hRz := hRz.below hbz
 replace hB := hB.trans (hbz.mono hB.size)
 clear hbx hbo hbi hbz hBx hOo hIi hZ
 go_enter Tryd.func29, Tryd.ntmps29
 go_upto_region 1 with (first | (rw [hwb.out]) | (rw [hwo.out]) | (rw [hwi.out]) | (rw [hwz.out]) | (refine wpL_allocT 60 rZ rfl rfl (zero_R _) ?_; simp only [Act.put, List.setIfInBounds_toArray, List.set_cons_succ, List.set_cons_zero]) | fail)
 rw [hbxn.out, hbon.out, hbin.out, hbzn.out]
 obtain ⟨m, hm⟩ : ∃ m, Hid (ofD o.b = m) := ⟨_, Lib.hid rfl⟩
 obtain ⟨at_, hat⟩ : ∃ x, Hid (memI s m = x) := ⟨_, Lib.hid rfl⟩
 obtain ⟨wd, hwd⟩ : ∃ wd, Hid (wz.drew = wd) := ⟨_, Lib.hid rfl⟩
 have hw0 : Below wz.heap.size wz wd := by rw [← hwd.out]; exact (Below.refl _ _).drew
 replace hC := hC.below hw0
 replace hRz := hRz.below hw0
 replace hB := hB.trans (hw0.mono hB.size)
 have zb := hC.op.cb
 have hb0 : Below wd.heap.size wd wd := Below.refl _ _
 refine wp_region_D (D := fun T => Below wd.heap.size wd T) (by kernel_rfl) ?_
 rw [hwd.out]
 change wpAnyD _ _ _ _ _ 7 _ _ _
 apply tkD 0 hb0 rfl
 ·intro T hT
  exact run_loadR (hC.box.below hT) rfl rfl
 try go_frame
 apply tkD 1 hb0 rfl
 ·intro T hT
  exact run_loadR (hC.box.below hT) rfl rfl
 try go_frame
 apply tkD 2 hb0 rfl
 ·intro T hT
  have hT0 := (hT.cell (cell_lt zb)).trans zb
  go_simp
  try rfl
 try go_frame
 apply tkD 3 hb0 rfl
 ·intro T hT
  have hT0 := (hT.cell (cell_lt zb)).trans zb
  go_simp
  try rfl
 try go_frame
 refine oneD 4 (by kernel_rfl) rfl (by kernel_rfl) (fun K hK => ?_)
 go_simp
 refine (OfR_any wd a.pc a.cc _ _ _ _ _ o.b hRz.cards).mono ?_
 rintro e T1 ⟨rfl, hbT1⟩
 rw [hm.out]
 refine hK _ _ ⟨hbT1, ?_⟩
 clear hK K
 try go_frame
 refine oneD 5 (by kernel_rfl) rfl (by kernel_rfl) (fun K hK => ?_)
 go_simp
 refine (MemR_any T1 a s L vs m (hRz.below hbT1) (by omega)).mono ?_
 rintro e w1 ⟨rfl, hbT2⟩
 rw [hat.out]
 have hbT := hbT1.trans (hbT2.mono hbT1.size)
 refine hK _ _ ⟨hbT, ?_⟩
 clear hK K
 try go_frame
 apply tkD 6 hbT rfl
 ·intro T hT
  go_simp
  try rfl
 try go_frame
 refine wpAnyD_done (by kernel_rfl) ?_ _
 replace hC := hC.below hbT
 replace hRz := hRz.below hbT
 replace hB := hB.trans (hbT.mono hB.size)
 clear zb hb0 hbT hbT1 hbT2 hw0
 have hbxl : bx < w1.heap.size := blk_lt hC.box
 have hbzl : bz < w1.heap.size := blk_lt hC.z
 have hIz := hI.and hR.lt hbx0 hbz0
 have hNz := far_and hN hB.size hbxl hbzl
 have hbox := hC.box
 have hz := hC.z
 have zk := hC.op.ck
 rw [hk] at zk
 have f0 := hC.op.cfb
 have f1 := hC.op.cfs
 have f2 := hC.op.cfu
 replace f1 : w1.cell? ⟨bo, 16 + 1, none⟩ = _ := f1
 replace f2 : w1.cell? ⟨bo, 16 + 2, none⟩ = _ := f2
 have hact : s.act o i = s.doReplace o := by unfold RS.act; rw [if_neg (by rw [hk]; decide), if_neg (by rw [hk]; decide), if_neg (by rw [hk]; decide), if_neg (by rw [hk]; decide), if_neg (by rw [hk]; decide), if_neg (by rw [hk]; decide), if_neg (by rw [hk]; decide), if_pos hk]
 go_upto_region 40 with fail
 go_wp2_with (first | (refine wpList_load_row rfl 60 _ rfl bx rfl 60 _ (0, 0) _ hbox Tryd.underlying60 rfl (rfC_info _ _ _) ?_) | fail)
 refine (whoR_any w1 a s L vs o.f hRz (by omega)).mono ?_
 rintro e w2 ⟨rfl, hb2⟩
 obtain ⟨wq, hwq⟩ : ∃ q, Hid (whoI s o.f = q) := ⟨_, Lib.hid rfl⟩
 rw [hwq.out]
 replace hC := hC.below hb2
 replace hRz := hRz.below hb2
 replace hB := hB.trans (hb2.mono hB.size)
 clear f0 f1 f2 zk hb2 hbxl hbzl hNz
 go_upto_region 41 with fail
 obtain ⟨w3, hw3⟩ : ∃ w3, Hid (w2.drew = w3) := ⟨_, Lib.hid rfl⟩
 have hb3 : Below w2.heap.size w2 w3 := by rw [← hw3.out]; exact (Below.refl _ _).drew
 replace hC := hC.below hb3
 replace hRz := hRz.below hb3
 replace hB := hB.trans (hb3.mono hB.size)
 replace hbox := hC.box
 replace hz := hC.z
 have hb0 : Below w3.heap.size w3 w3 := Below.refl _ _
 have z1 := hbox.c1
 have zo := hC.op.co
 have zd := hC.op.cd
 refine wp_region_D (D := fun T => Below w3.heap.size w3 T) (by kernel_rfl) ?_
 rw [hw3.out]
 change wpAnyD _ _ _ _ _ 37 _ _ _
 clear hb3
 rcases rep_cases hs o with ⟨h1, h2⟩ | ⟨k, n, mb, h1, h2, h3⟩
 ·obtain rfl : wq = -1 := by rw [← hwq.out, h1]
  have hst : Hid (s.act o i = s) := Lib.hid (by rw [hact, h2])
  replace h1 := Lib.hid h1
  replace h2 := Lib.hid h2
  replace hact := Lib.hid hact
  apply tkD 0 hb0 rfl
  ·intro T hT
   go_simp
   try rfl
  try go_frame
  apply tkD 1 hb0 rfl
  ·intro T hT
   go_simp
   try rfl
  try go_frame
  apply tkD 2 hb0 rfl
  ·intro T hT
   go_simp
   try rfl
  try go_frame
  apply noD 3 hb0 rfl
  try go_frame
  apply noD 4 hb0 rfl
  try go_frame
  apply noD 5 hb0 rfl
  try go_frame
  apply noD 6 hb0 rfl
  try go_frame
  apply noD 7 hb0 rfl
  try go_frame
  apply tkD 8 hb0 rfl
  ·intro T hT
   go_simp
   try rfl
  try go_frame
  apply tkD 9 hb0 rfl
  ·intro T hT
   go_simp
   try rfl
  try go_frame
  apply noD 10 hb0 rfl
  try go_frame
  apply noD 11 hb0 rfl
  try go_frame
  apply noD 12 hb0 rfl
  try go_frame
  apply noD 13 hb0 rfl
  try go_frame
  apply noD 14 hb0 rfl
  try go_frame
  apply noD 15 hb0 rfl
  try go_frame
  apply noD 16 hb0 rfl
  try go_frame
  apply noD 17 hb0 rfl
  try go_frame
  apply noD 18 hb0 rfl
  try go_frame
  apply noD 19 hb0 rfl
  try go_frame
  apply noD 20 hb0 rfl
  try go_frame
  apply noD 21 hb0 rfl
  try go_frame
  apply tkD 22 hb0 rfl
  ·intro T hT
   go_simp
   try rfl
  try go_frame
  apply tkD 23 hb0 rfl
  ·intro T hT
   go_simp
   try rfl
  try go_frame
  apply noD 24 hb0 rfl
  try go_frame
  apply noD 25 hb0 rfl
  try go_frame
  apply noD 26 hb0 rfl
  try go_frame
  apply noD 27 hb0 rfl
  try go_frame
  apply noD 28 hb0 rfl
  try go_frame
  apply noD 29 hb0 rfl
  try go_frame
  apply noD 30 hb0 rfl
  try go_frame
  apply noD 31 hb0 rfl
  try go_frame
  apply noD 32 hb0 rfl
  try go_frame
  apply noD 33 hb0 rfl
  try go_frame
  apply noD 34 hb0 rfl
  try go_frame
  apply noD 35 hb0 rfl
  try go_frame
  apply tkD 36 hb0 rfl
  ·intro T hT
   go_simp
   try rfl
  try go_frame
  refine wpAnyD_done (by kernel_rfl) ?_ _
  go_wp2_with (first | (refine wpList_load_row rfl 60 _ rfl bx rfl 60 _ (0, 0) _ hbox Tryd.underlying60 rfl (rfC_info _ _ _) ?_) | (refine wpList_store_row rfl 60 _ _ rfl bz _ rfl rfl 60 rZ hz (rfC_info _ _ _) rfl (rfC_one _ _ _) ?_) | fail)
  refine bodyPost_ret (v := .agg (rfC a s vs.length)) ?_ rfl ?_
  ·exact results_cell_row rfl _ _ bz 60 _ (0, 0) _ rfl (setRow_heap _ _ _ _ _ _ hz) Tryd.underlying60 rfl (rfC_info _ _ _)
  ·have hBf := belowSetRow (cs := rfC a s vs.length) hB hbz0
   rw [hst.out]
   exact ⟨a, L, vs, rfl, hR.below hBf, hV, hI, hBf⟩
 ·obtain rfl : wq = (k : Int) := by rw [← hwq.out, h1]
  rw [← hact] at h3
  obtain ⟨hk', h2e⟩ := List.getElem?_eq_some_iff.1 h2
  obtain ⟨b, off, x, hxL, hxs, hp, _, hLk, hc⟩ := hRz.at_ hk'
  have c0 : w3.cell? ⟨b, off + k * 11, none⟩ = some (.int .i64 x.1.1) := hc 0 _ rfl
  rw [show x.1.1 = n by rw [hxs, h2e]] at c0
  have hix1 : (0 : Int) ≤ (k : Int) := by omega
  have hix2 : (k : Int) < (s.ms.length : Int) := by omega
  have t2 : decide (0 ≤ (k : Int)) = true := decide_eq_true (by omega)
  have k3 := hbox.c3
  rw [hp] at k3
  have tmax : max (k : Int) 0 = k := by omega
  obtain ⟨xi, hxi⟩ : ∃ xi, Hid (decide (o.o ∈ s.ins) = xi) := ⟨_, Lib.hid rfl⟩
  obtain ⟨oo, hoo⟩ : ∃ x, Hid (ofD o.o = x) := ⟨_, Lib.hid rfl⟩
  obtain ⟨od, hod⟩ : ∃ x, Hid (ofD o.d = x) := ⟨_, Lib.hid rfl⟩
  rw [hoo.out, hod.out] at h3
  replace h1 := Lib.hid h1
  replace h2 := Lib.hid h2
  replace h2e := Lib.hid h2e
  replace h3 := Lib.hid h3
  replace hc := Lib.hid hc
  replace hxs := Lib.hid hxs
  replace hLk := Lib.hid hLk
  replace hxL := Lib.hid hxL
  replace hp := Lib.hid hp
  replace hact := Lib.hid hact
  apply tkD 0 hb0 rfl
  ·intro T hT
   go_simp
   try rfl
  try go_frame
  apply tkD 1 hb0 rfl
  ·intro T hT
   go_simp
   try rfl
  try go_frame
  apply tkD 2 hb0 rfl
  ·intro T hT
   go_simp
   try rfl
  try go_frame
  apply tkD 3 hb0 rfl
  ·intro T hT
   have hT0 := (hT.cell (cell_lt z1)).trans z1
   go_simp
   try rfl
  try go_frame
  apply tkD 4 hb0 rfl
  ·intro T hT
   have hT0 := (hT.cell (cell_lt z1)).trans z1
   go_simp
   try rfl
  try go_frame
  apply tkD 5 hb0 rfl
  ·intro T hT
   have hT0 := (hT.cell (cell_lt zo)).trans zo
   go_simp
   try rfl
  try go_frame
  apply tkD 6 hb0 rfl
  ·intro T hT
   have hT0 := (hT.cell (cell_lt zo)).trans zo
   go_simp
   try rfl
  try go_frame
  refine oneD 7 (by kernel_rfl) rfl (by kernel_rfl) (fun K hK => ?_)
  go_simp
  refine (HasL_any a.pi s.ins.length s.ins a.ci o.o w3 hRz.ins (by omega)).mono ?_
  rintro e _ ⟨rfl, rfl⟩
  rw [hxi.out]
  refine hK _ _ ⟨hb0, ?_⟩
  clear hK K
  try go_frame
  cases xi with
  | false =>
   have hst : Hid (s.act o i = s) := Lib.hid (by rw [h3.out, if_neg]; exact fun h => of_decide_eq_false hxi.out h.1)
   apply tkD 8 hb0 rfl
   ·intro T hT
    go_simp
    try rfl
   try go_frame
   apply tkD 9 hb0 rfl
   ·intro T hT
    go_simp
    try rfl
   try go_frame
   apply noD 10 hb0 rfl
   try go_frame
   apply noD 11 hb0 rfl
   try go_frame
   apply noD 12 hb0 rfl
   try go_frame
   apply noD 13 hb0 rfl
   try go_frame
   apply noD 14 hb0 rfl
   try go_frame
   apply noD 15 hb0 rfl
   try go_frame
   apply noD 16 hb0 rfl
   try go_frame
   apply noD 17 hb0 rfl
   try go_frame
   apply noD 18 hb0 rfl
   try go_frame
   apply noD 19 hb0 rfl
   try go_frame
   apply noD 20 hb0 rfl
   try go_frame
   apply noD 21 hb0 rfl
   try go_frame
   apply tkD 22 hb0 rfl
   ·intro T hT
    go_simp
    try rfl
   try go_frame
   apply tkD 23 hb0 rfl
   ·intro T hT
    go_simp
    try rfl
   try go_frame
   apply noD 24 hb0 rfl
   try go_frame
   apply noD 25 hb0 rfl
   try go_frame
   apply noD 26 hb0 rfl
   try go_frame
   apply noD 27 hb0 rfl
   try go_frame
   apply noD 28 hb0 rfl
   try go_frame
   apply noD 29 hb0 rfl
   try go_frame
   apply noD 30 hb0 rfl
   try go_frame
   apply noD 31 hb0 rfl
   try go_frame
   apply noD 32 hb0 rfl
   try go_frame
   apply noD 33 hb0 rfl
   try go_frame
   apply noD 34 hb0 rfl
   try go_frame
   apply noD 35 hb0 rfl
   try go_frame
   apply tkD 36 hb0 rfl
   ·intro T hT
    go_simp
    try rfl
   try go_frame
   refine wpAnyD_done (by kernel_rfl) ?_ _
   go_wp2_with (first | (refine wpList_load_row rfl 60 _ rfl bx rfl 60 _ (0, 0) _ hbox Tryd.underlying60 rfl (rfC_info _ _ _) ?_) | (refine wpList_store_row rfl 60 _ _ rfl bz _ rfl rfl 60 rZ hz (rfC_info _ _ _) rfl (rfC_one _ _ _) ?_) | fail)
   refine bodyPost_ret (v := .agg (rfC a s vs.length)) ?_ rfl ?_
   ·exact results_cell_row rfl _ _ bz 60 _ (0, 0) _ rfl (setRow_heap _ _ _ _ _ _ hz) Tryd.underlying60 rfl (rfC_info _ _ _)
   ·have hBf := belowSetRow (cs := rfC a s vs.length) hB hbz0
    rw [hst.out]
    exact ⟨a, L, vs, rfl, hR.below hBf, hV, hI, hBf⟩
  | true =>
   apply tkD 8 hb0 rfl
   ·intro T hT
    go_simp
    try rfl
   try go_frame
   apply tkD 9 hb0 rfl
   ·intro T hT
    go_simp
    try rfl
   try go_frame
   apply tkD 10 hb0 rfl
   ·intro T hT
    exact run_loadR (hbox.below hT) rfl rfl
   try go_frame
   apply tkD 11 hb0 rfl
   ·intro T hT
    have hT0 := (hT.cell (cell_lt zo)).trans zo
    go_simp
    try rfl
   try go_frame
   apply tkD 12 hb0 rfl
   ·intro T hT
    have hT0 := (hT.cell (cell_lt zo)).trans zo
    go_simp
    try rfl
   try go_frame
   apply tkD 14 hb0 rfl
   ·intro T hT
    have hT0 := (hT.cell (cell_lt k3)).trans k3
    go_simp
    try rfl
   try go_frame
   apply tkD 15 hb0 rfl
   ·intro T hT
    have hT0 := (hT.cell (cell_lt k3)).trans k3
    go_simp
    try rfl
   try go_frame
   apply tkD 16 hb0 rfl
   ·intro T hT
    have hT0 := (hT.cell (cell_lt k3)).trans k3
    go_simp
    try rfl
   try go_frame
   apply tkD 17 hb0 rfl
   ·intro T hT
    have hT0 := (hT.cell (cell_lt k3)).trans k3
    go_simp
    try rfl
   try go_frame
   apply tkD 18 hb0 rfl
   ·intro T hT
    have hT0 := (hT.cell (cell_lt k3)).trans k3
    go_simp
    try rfl
   try go_frame
   apply tkD 19 hb0 rfl
   ·intro T hT
    have hT0 := (hT.cell (cell_lt k3)).trans k3
    go_simp
    try rfl
   try go_frame
   apply tkD 20 hb0 rfl
   ·intro T hT
    have hT0 := (hT.cell (cell_lt c0)).trans c0
    go_simp
    try rfl
   try go_frame
   refine oneD 13 (by kernel_rfl) rfl (by kernel_rfl) (fun K hK => ?_)
   go_simp
   refine (OfR_any w3 a.pc a.cc _ _ _ _ _ o.o hRz.cards).mono ?_
   rintro e w4 ⟨rfl, hb4⟩
   rw [hoo.out]
   refine hK _ _ ⟨hb4, ?_⟩
   clear hK K
   try go_frame
   by_cases hon : oo = n
   ·have t5 : (oo == n) = true := beq_iff_eq.2 hon
    replace hon := Lib.hid hon
    apply tkD 21 hb4 rfl
    ·intro T hT
     go_simp
     try rfl
    try go_frame
    apply tkD 22 hb4 rfl
    ·intro T hT
     go_simp
     try rfl
    try go_frame
    apply tkD 23 hb4 rfl
    ·intro T hT
     go_simp
     try rfl
    try go_frame
    apply tkD 24 hb4 rfl
    ·intro T hT
     exact run_loadR (hbox.below hT) rfl rfl
    try go_frame
    apply tkD 25 hb4 rfl
    ·intro T hT
     have hT0 := (hT.cell (cell_lt zd)).trans zd
     go_simp
     try rfl
    try go_frame
    apply tkD 26 hb4 rfl
    ·intro T hT
     have hT0 := (hT.cell (cell_lt zd)).trans zd
     go_simp
     try rfl
    try go_frame
    apply tkD 28 hb4 rfl
    ·intro T hT
     have hT0 := (hT.cell (cell_lt k3)).trans k3
     go_simp
     try rfl
    try go_frame
    apply tkD 29 hb4 rfl
    ·intro T hT
     have hT0 := (hT.cell (cell_lt k3)).trans k3
     go_simp
     try rfl
    try go_frame
    apply tkD 30 hb4 rfl
    ·intro T hT
     have hT0 := (hT.cell (cell_lt k3)).trans k3
     go_simp
     try rfl
    try go_frame
    apply tkD 31 hb4 rfl
    ·intro T hT
     have hT0 := (hT.cell (cell_lt k3)).trans k3
     go_simp
     try rfl
    try go_frame
    apply tkD 32 hb4 rfl
    ·intro T hT
     have hT0 := (hT.cell (cell_lt k3)).trans k3
     go_simp
     try rfl
    try go_frame
    apply tkD 33 hb4 rfl
    ·intro T hT
     have hT0 := (hT.cell (cell_lt k3)).trans k3
     go_simp
     try rfl
    try go_frame
    apply tkD 34 hb4 rfl
    ·intro T hT
     have hT0 := (hT.cell (cell_lt c0)).trans c0
     go_simp
     try rfl
    try go_frame
    refine oneD 27 (by kernel_rfl) rfl (by kernel_rfl) (fun K hK => ?_)
    go_simp
    refine (OfR_any w4 a.pc a.cc _ _ _ _ _ o.d (hRz.below hb4).cards).mono ?_
    rintro e w5 ⟨rfl, hb5⟩
    rw [hod.out]
    have hb35 := hb4.trans (hb5.mono hb4.size)
    refine hK _ _ ⟨hb35, ?_⟩
    clear hK K
    try go_frame
    by_cases hdn : od = n
    ·have t6 : (od == n) = true := beq_iff_eq.2 hdn
     obtain ⟨R, hRn⟩ : ∃ R, Hid (s.role od = R) := ⟨_, Lib.hid rfl⟩
     have hst : Hid (s.act o i = (s.comes o.d R).goes o.o) := Lib.hid (by rw [h3.out, if_pos ⟨of_decide_eq_true hxi.out, hon.out, hdn⟩, hRn.out])
     replace hdn := Lib.hid hdn
     apply tkD 35 hb35 rfl
     ·intro T hT
      go_simp
      try rfl
     try go_frame
     apply tkD 36 hb35 rfl
     ·intro T hT
      go_simp
      try rfl
     try go_frame
     refine wpAnyD_done (by kernel_rfl) ?_ _
     replace hC := hC.below hb35
     replace hRz := hRz.below hb35
     replace hB := hB.trans (hb35.mono hB.size)
     clear z1 zo zd k3 c0 hb0 hb4 hb5 hb35
     go_upto_region 42 with fail
     obtain ⟨w6, hw6⟩ : ∃ w6, Hid (w5.drew = w6) := ⟨_, Lib.hid rfl⟩
     have hb6 : Below w5.heap.size w5 w6 := by rw [← hw6.out]; exact (Below.refl _ _).drew
     replace hC := hC.below hb6
     replace hRz := hRz.below hb6
     replace hB := hB.trans (hb6.mono hB.size)
     replace hbox := hC.box
     have zd := hC.op.cd
     have hb0 : Below w6.heap.size w6 w6 := Below.refl _ _
     have hbx6 : bx < w6.heap.size := blk_lt hC.box
     have hbz6 : bz < w6.heap.size := blk_lt hC.z
     have hNz6 := far_and hN hB.size hbx6 hbz6
     refine wp_region_E (D := fun T => Below w6.heap.size w6 T) 10 (by kernel_rfl) ?_
     rw [hw6.out]
     change wpAnyE _ _ _ _ _ _ 11 _ _ _
     apply tkE 0 hb0 rfl
     ·intro T hT
      exact run_loadR (hbox.below hT) rfl rfl
     try go_frame
     apply tkE 1 hb0 rfl
     ·intro T hT
      have hT0 := (hT.cell (cell_lt zd)).trans zd
      go_simp
      try rfl
     try go_frame
     apply tkE 2 hb0 rfl
     ·intro T hT
      have hT0 := (hT.cell (cell_lt zd)).trans zd
      go_simp
      try rfl
     try go_frame
     apply tkE 3 hb0 rfl
     ·intro T hT
      exact run_loadR (hbox.below hT) rfl rfl
     try go_frame
     apply tkE 4 hb0 rfl
     ·intro T hT
      exact run_loadR (hbox.below hT) rfl rfl
     try go_frame
     apply tkE 5 hb0 rfl
     ·intro T hT
      have hT0 := (hT.cell (cell_lt zd)).trans zd
      go_simp
      try rfl
     try go_frame
     apply tkE 6 hb0 rfl
     ·intro T hT
      have hT0 := (hT.cell (cell_lt zd)).trans zd
      go_simp
      try rfl
     try go_frame
     refine oneE 7 (by kernel_rfl) rfl (by kernel_rfl) (fun K hK => ?_)
     go_simp
     refine (OfR_any w6 a.pc a.cc _ _ _ _ _ o.d hRz.cards).mono ?_
     rintro e w7 ⟨rfl, hb7⟩
     rw [hod.out]
     refine hK _ _ ⟨.inr hb7, ?_⟩
     clear hK K
     try go_frame
     refine oneE 8 (by kernel_rfl) rfl (by kernel_rfl) (fun K hK => ?_)
     go_simp
     refine (RoleR_any w7 a s L vs od (hRz.below hb7) (by omega)).mono ?_
     rintro e w8 ⟨rfl, hb8⟩
     rw [hRn.out]
     have hb68 := hb7.trans (hb8.mono hb7.size)
     refine hK _ _ ⟨.inr hb68, ?_⟩
     clear hK K
     try go_frame
     refine oneE 9 (by kernel_rfl) rfl (by kernel_rfl) (fun K hK => ?_)
     go_simp
     refine (comesR_any (fun b => P b ∧ b ≠ bx ∧ b ≠ bz) w8 a s L vs o.d R kk (hRz.below hb68) hs hIz (fun b hb => hNz6 b (Nat.le_trans hb68.size hb))).mono ?_
     rintro e w9 ⟨a1, L1, rfl, hR9, hI9, hb9⟩
     have hV9 := hV.comes o.d R
     have hrb : 0 ≤ R ∧ R ≤ 1000000 := by
      rw [← hRn.out]
      unfold RS.role rolI RS.memb
      cases e : lk s.ms od with
      | none => exact ⟨by decide, by decide⟩
      | some m => exact ⟨(hs.mem _ (lk_mem e)).2.2.1, (hs.mem _ (lk_mem e)).2.2.2⟩
     have hok9 := comes_ok hs o.d hrb
     obtain ⟨S1, hS1⟩ : ∃ S, Hid (s.comes o.d R = S) := ⟨_, Lib.hid rfl⟩
     rw [hS1.out] at hR9 hV9 hst hok9 ⊢
     have hb69 := hb68.trans (hb9.mono hb68.size)
     refine hK _ _ ⟨.inr hb69, ?_⟩
     clear hK K
     try go_frame
     have hC9 := hC.below hb69
     have hB9 := hB.trans (hb69.mono hB.size)
     have hboxs := hC9.box
     refine oneE 10 (by kernel_rfl) rfl (by kernel_rfl) (fun K hK => ?_)
     refine wp_store_row 60 _ _ rfl bx _ rfl rfl 60 _ hboxs (rfC_info _ _ _) rfl (rfC_one _ _ _) ?_
     refine hK _ _ ⟨.inl rfl, ?_⟩
     clear hK K
     try go_frame
     refine wpAnyE_done (by kernel_rfl) ?_ _
     obtain ⟨wa, hwa, hboxa⟩ := nameW (p := fun W => RfBox W bx a1 S1 vs.length) (setRow_heap w9 bx _ (rfC a1 S1 vs.length) _ _ hboxs)
     have hka : ∀ j, j < w9.heap.size → j ≠ bx → wa.heap[j]? = w9.heap[j]? := fun j _ hne => by rw [← hwa.out]; exact setRow_other w9 bx j _ hne
     have hCa := hC9.store hka hbox1 hbix1 hbzx hboxa
     have hRa : RfAt wa a1 S1 L1 vs := by rw [← hwa.out]; exact hR9.setRow (hI9.mono fun _ h => h.2.1)
     have hBa : Below w.heap.size w wa := by rw [← hwa.out]; exact belowSetRow hB9 hbx0 _
     have zo := hCa.op.co
     have hbxa : bx < wa.heap.size := blk_lt hCa.box
     have hbza : bz < wa.heap.size := blk_lt hCa.z
     clear hboxs hbox hz zd hC hRz hB hC9 hB9 hR9 hb0 hb6 hb7 hb8 hb68 hb9 hb69 hNz6
     have hbox := hCa.box
     replace hka := Lib.hid hka
     go_upto_region 43 with (first | (rw [hwa.out]) | fail)
     go_wp2_with (first | (refine wpList_load_row rfl 60 _ rfl bx rfl 60 _ (0, 0) _ hbox Tryd.underlying60 rfl (rfC_info _ _ _) ?_) | fail)
     refine (goesR_any (fun b => P b ∧ b ≠ bx ∧ b ≠ bz) wa a1 S1 L1 vs o.o kk hRa hV9 hok9 hkk hI9 (far_and hN hBa.size hbxa hbza)).mono ?_
     rintro e wc ⟨a2, L2, vs2, rfl, hR2, hV2, hI2, hbc⟩
     obtain ⟨S, hS⟩ : ∃ S, Hid (S1.goes o.o = S) := ⟨_, Lib.hid rfl⟩
     rw [hS.out] at hR2 hV2 hst ⊢
     have hCc := hCa.below hbc
     have hBc := hBa.trans (hbc.mono hBa.size)
     have hboxs := hCc.box
     obtain ⟨wg, hwg, hboxg⟩ := nameW (p := fun W => RfBox W bx a2 S vs2.length) (setRow_heap wc bx _ (rfC a2 S vs2.length) _ _ hboxs)
     have hz : ZBox wg bz := by rw [← hwg.out]; exact hCc.z.keep (setRow_other wc bx bz _ hbzx)
     have hRg : RfAt wg a2 S L2 vs2 := by rw [← hwg.out]; exact hR2.setRow (hI2.mono fun _ h => h.2.1)
     have hBg : Below w.heap.size w wg := by rw [← hwg.out]; exact belowSetRow hBc hbx0 _
     clear hbox
     go_upto_region 44 with (first | (refine wpList_store_row rfl 60 _ _ rfl bx _ rfl rfl 60 _ hboxs (rfC_info _ _ _) rfl (rfC_one _ _ _) ?_) | fail)
     rw [hwg.out]
     have hbox := hboxg
     go_wp2_with (first | (refine wpList_load_row rfl 60 _ rfl bx rfl 60 _ (0, 0) _ hbox Tryd.underlying60 rfl (rfC_info _ _ _) ?_) | (refine wpList_store_row rfl 60 _ _ rfl bz _ rfl rfl 60 rZ hz (rfC_info _ _ _) rfl (rfC_one _ _ _) ?_) | fail)
     refine bodyPost_ret (v := .agg (rfC a2 S vs2.length)) ?_ rfl ?_
     ·exact results_cell_row rfl _ _ bz 60 _ (0, 0) _ rfl (setRow_heap _ _ _ _ _ _ hz) Tryd.underlying60 rfl (rfC_info _ _ _)
     ·have hBf := belowSetRow (cs := rfC a2 S vs2.length) hBg hbz0
      rw [hst.out]
      exact ⟨a2, L2, vs2, rfl, hRg.setRow (hI2.mono fun _ h => h.2.2), hV2, hI2.mono fun _ h => h.1, hBf⟩
    ·have t6 : (od == n) = false := beq_eq_false_iff_ne.2 hdn
     have hst : Hid (s.act o i = s) := Lib.hid (by rw [h3.out, if_neg]; exact fun h => hdn h.2.2)
     replace hdn := Lib.hid hdn
     apply tkD 35 hb35 rfl
     ·intro T hT
      go_simp
      try rfl
     try go_frame
     apply tkD 36 hb35 rfl
     ·intro T hT
      go_simp
      try rfl
     try go_frame
     replace hB := hB.trans (hb35.mono hB.size)
     replace hbox := hbox.below hb35
     replace hz := hz.below hb35
     refine wpAnyD_done (by kernel_rfl) ?_ _
     go_wp2_with (first | (refine wpList_load_row rfl 60 _ rfl bx rfl 60 _ (0, 0) _ hbox Tryd.underlying60 rfl (rfC_info _ _ _) ?_) | (refine wpList_store_row rfl 60 _ _ rfl bz _ rfl rfl 60 rZ hz (rfC_info _ _ _) rfl (rfC_one _ _ _) ?_) | fail)
     refine bodyPost_ret (v := .agg (rfC a s vs.length)) ?_ rfl ?_
     ·exact results_cell_row rfl _ _ bz 60 _ (0, 0) _ rfl (setRow_heap _ _ _ _ _ _ hz) Tryd.underlying60 rfl (rfC_info _ _ _)
     ·have hBf := belowSetRow (cs := rfC a s vs.length) hB hbz0
      rw [hst.out]
      exact ⟨a, L, vs, rfl, hR.below hBf, hV, hI, hBf⟩
   ·have t5 : (oo == n) = false := beq_eq_false_iff_ne.2 hon
    have hst : Hid (s.act o i = s) := Lib.hid (by rw [h3.out, if_neg]; exact fun h => hon h.2.1)
    replace hon := Lib.hid hon
    apply tkD 21 hb4 rfl
    ·intro T hT
     go_simp
     try rfl
    try go_frame
    apply tkD 22 hb4 rfl
    ·intro T hT
     go_simp
     try rfl
    try go_frame
    apply tkD 23 hb4 rfl
    ·intro T hT
     go_simp
     try rfl
    try go_frame
    apply noD 24 hb4 rfl
    try go_frame
    apply noD 25 hb4 rfl
    try go_frame
    apply noD 26 hb4 rfl
    try go_frame
    apply noD 27 hb4 rfl
    try go_frame
    apply noD 28 hb4 rfl
    try go_frame
    apply noD 29 hb4 rfl
    try go_frame
    apply noD 30 hb4 rfl
    try go_frame
    apply noD 31 hb4 rfl
    try go_frame
    apply noD 32 hb4 rfl
    try go_frame
    apply noD 33 hb4 rfl
    try go_frame
    apply noD 34 hb4 rfl
    try go_frame
    apply noD 35 hb4 rfl
    try go_frame
    apply tkD 36 hb4 rfl
    ·intro T hT
     go_simp
     try rfl
    try go_frame
    replace hB := hB.trans (hb4.mono hB.size)
    replace hbox := hbox.below hb4
    replace hz := hz.below hb4
    refine wpAnyD_done (by kernel_rfl) ?_ _
    go_wp2_with (first | (refine wpList_load_row rfl 60 _ rfl bx rfl 60 _ (0, 0) _ hbox Tryd.underlying60 rfl (rfC_info _ _ _) ?_) | (refine wpList_store_row rfl 60 _ _ rfl bz _ rfl rfl 60 rZ hz (rfC_info _ _ _) rfl (rfC_one _ _ _) ?_) | fail)
    refine bodyPost_ret (v := .agg (rfC a s vs.length)) ?_ rfl ?_
    ·exact results_cell_row rfl _ _ bz 60 _ (0, 0) _ rfl (setRow_heap _ _ _ _ _ _ hz) Tryd.underlying60 rfl (rfC_info _ _ _)
    ·have hBf := belowSetRow (cs := rfC a s vs.length) hB hbz0
     rw [hst.out]
     exact ⟨a, L, vs, rfl, hR.below hBf, hV, hI, hBf⟩
end Go.Proofs.YtkolilbebkkpdaaDoor

namespace Go.Proofs.YtkolilbebkkpdaaDoor
open Go.RowKit Go.Maps Go.BigFrame

theorem DoR_any (P : Nat → Prop) (w : World) (a : RfV) (s : RS) (L : List ME) (vs : List VI) (o : OpI) (gp : Option Addr) (gc : Nat) (i : Idn) (kk : Nat) (hR : RfAt w a s L vs) (hV : VsOk s vs) (hs : s.Ok kk) (hkk : kk ≤ 1000) (ho : o.Ok) (hI : RfIn P a L) (hN : ∀ b, w.heap.size ≤ b → P b) (hU : UI w gp o.gs.length o.gs) (hg : ∀ q, gp = some q → P q.block) (hgl : LtP w.heap.size gp) (hi : o.k = 9 → (kk : Int) < i.s) :
  Calls Tryd.prog 29 #[.agg (rfC a s vs.length), .agg (opC o gp gc), .agg #[.int .i64 i.b, .int .i64 i.s, .int .u64 i.u]] w fun e w' => ∃ a' L' vs', e = .returned (.agg (rfC a' (s.act o i) vs'.length)) ∧ RfAt w' a' (s.act o i) L' vs' ∧ VsOk (s.act o i) vs' ∧ RfIn P a' L' ∧ Below w.heap.size w w' := by
 by_cases h1 : o.k = 1
 ·exact DoR_1 P w a s L vs o gp gc i kk hR hV hs hI hN h1
 by_cases h2 : o.k = 2
 ·exact DoR_2 P w a s L vs o gp gc i kk hR hV hs hI hN h2
 by_cases h3 : o.k = 3
 ·by_cases hd : o.d = 0
  ·exact DoR_3b P w a s L vs o gp gc i kk hR hV hs hkk hI hN h3 hd
  ·exact DoR_3a P w a s L vs o gp gc i kk hR hV hs hkk hI hN h3 hd ho.hd
 by_cases h5 : o.k = 5
 ·exact DoR_5 P w a s L vs o gp gc i kk hR hV hs hI hN h5
 by_cases h9 : o.k = 9
 ·exact DoR_9 P w a s L vs o gp gc i kk hR hV hs hkk hI hN hU hg hgl (hi h9) h9
 by_cases h11 : o.k = 11
 ·exact DoR_11 P w a s L vs o gp gc i kk hR hV hs hkk hI hN h11
 by_cases h12 : o.k = 12
 ·exact DoR_12 P w a s L vs o gp gc i kk hR hV hs hI hN h12
 by_cases h13 : o.k = 13
 ·exact DoR_13 P w a s L vs o gp gc i kk hR hV hs hkk hI hN h13
 refine DoR_no P w a s L vs o gp gc i kk hR hV hs hI hN fun c hc => ?_
 simp only [List.mem_cons, List.not_mem_nil, or_false] at hc
 rcases hc with rfl | rfl | rfl | rfl | rfl | rfl | rfl | rfl <;> assumption
end Go.Proofs.YtkolilbebkkpdaaDoor

