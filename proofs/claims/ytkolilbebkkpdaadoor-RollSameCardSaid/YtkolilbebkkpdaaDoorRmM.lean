/-
  The document's roll: a Vouch.
  The document's roll: what becomes of it: an Add, a Guard, a Vouch, and what a roll does not look at.
  The document's roll: what becomes of it: a Create, a Remove.
  The document's roll: what becomes of it: a Remove.
-/
import Derived.Test.YtkolilbebkkpdaaDoorRmL
namespace Go.Proofs.YtkolilbebkkpdaaDoor
open Go.RowKit Go.Maps Go.BigFrame
attribute [local go_sem] in_gr

/-- A vouch in a variable. -/
def VBox (w : World) (b : Nat) (x : VI) : Prop := w.heap[b]? = some (.cells (vC x) 128 (0, 0))
theorem VBox.made (w : World) (x : VI) : VBox (w.alloc (.cells (vC x) 128)) w.heap.size x := World.alloc_heap_new w _
theorem VBox.below {w w' : World} {b : Nat} {x : VI} (h : VBox w b x) (hb : Below w.heap.size w w') : VBox w' b x := (hb.block b (blk_lt h)).trans h
theorem VBox.cell {w : World} {b : Nat} {x : VI} (h : VBox w b x) (i : Nat) : w.cell? ⟨b, i, none⟩ = (vC x)[i]? := by simp [World.cell?, show w.heap[b]? = _ from h]
theorem VBox.free {w : World} {b : Nat} {x : VI} (h : VBox w b x) (i : Nat) : w.frozen? ⟨b, i, none⟩ = false := by
 have h : w.heap[b]? = _ := h
 simp [World.frozen?, h]
theorem VBox.setA {w : World} {b : Nat} {f : Idn} {y d t : Int} (h : VBox w b ⟨f, y, d, t⟩) (n : Int) : VBox (w.setCell ⟨b, 5, none⟩ (.int .i64 n)) b ⟨f, y, d, n⟩ := setCell_blk h 5 _
theorem RdE.swap {α : Type} {E : El α} {w : World} {p : Option Addr} {l : List α} (h : RdE E w p l) {k : Nat} (hk : k < l.length) {x : α} (hx : E.c x = E.c l[k]) : RdE E w p (l.set k x) := fun i hi => by
 have hi' : i < l.length := by rw [List.length_set] at hi; exact hi
 obtain ⟨b, off, he, hlt, hc⟩ := h i hi'
 refine ⟨b, off, he, hlt, ?_⟩
 by_cases hik : i = k
 ·subst hik
  rw [show (l.set i x)[i] = x by simp, hx]
  exact hc
 ·rw [show (l.set k x)[i] = l[i] by rw [List.getElem_set_ne (fun e => hik e.symm)]]
  exact hc
theorem vouch_mC (n r : Int) (g : Gd) (o : OpI) (p : Option Addr) (c : Nat) : mC ((n, ⟨r, some (vouchG g o)⟩), p, c) = mC ((n, ⟨r, some g⟩), p, c) := by
 unfold vouchG
 split
 ·split <;> rfl
 ·rfl
theorem vouch_gs (g : Gd) (o : OpI) : (vouchG g o).gs = g.gs := by
 unfold vouchG
 split
 ·split <;> rfl
 ·rfl
theorem vouA_snoc (o : OpI) (vs : List VI) (v : VI) : vouA o (vs ++ [v]) = if isV o v = true then min (vouA o vs) v.a else vouA o vs := by
 unfold vouA
 rw [List.foldl_append]; rfl
theorem vouL_snoc (o : OpI) (vs : List VI) (v : VI) : vouL o (vs ++ [v]) = if isV o v = true then vouL o vs else vouL o vs ++ [v] := by
 unfold vouL
 rw [List.filter_append]
 by_cases h : isV o v = true
 ·rw [if_pos h]; simp [h]
 ·rw [if_neg h]; simp [h]
set_option maxRecDepth 100000 in
set_option maxHeartbeats 16000000 in
theorem voR_any (P : Nat → Prop) (w : World) (a : RfV) (s : RS) (L : List ME) (vs : List VI) (o : OpI) (gp : Option Addr) (gc : Nat) (kk : Nat) (hR : RfAt w a s L vs) (hV : VsOk s vs) (hs : s.Ok kk) (hkk : kk ≤ 1000) (hI : RfIn P a L) (hN : ∀ b, w.heap.size ≤ b → P b) :
  Calls Tryd.prog 56 #[.agg (rfC a s vs.length), .agg (opC o gp gc)] w fun e w' => ∃ a' L' vs', e = .returned (.agg (rfC a' (s.doVouch o) vs'.length)) ∧ RfAt w' a' (s.doVouch o) L' vs' ∧ VsOk (s.doVouch o) vs' ∧ RfIn P a' L' ∧ Below w.heap.size w w' := by
 have hfm := hs.fewM
 have hfv := hV.few hs
 have hbx := Below.lit w (.cells (rfC a s vs.length) 60)
 have hRz := hR.below hbx
 obtain ⟨wb, hwb, hbox⟩ := nameW (p := fun W => RfBox W w.heap.size a s vs.length) (RfBox.made w a s vs.length)
 rw [hwb.out] at hbx hRz
 obtain ⟨bx, hbxn⟩ : ∃ bx, Hid (w.heap.size = bx) := ⟨_, Lib.hid rfl⟩
 have hbx0 : w.heap.size ≤ bx := by rw [hbxn.out]; exact Nat.le_refl _
 rw [hbxn.out] at hbox
 have hB := hbx
 have hbo := Below.lit wb (.cells (opC o gp gc) 42)
 obtain ⟨wo, hwo, hOo⟩ := nameW (p := fun W => OpAt W wb.heap.size o gp gc) (OpAt.made wb o gp gc)
 rw [hwo.out] at hbo
 obtain ⟨bo, hbon⟩ : ∃ bo, Hid (wb.heap.size = bo) := ⟨_, Lib.hid rfl⟩
 rw [hbon.out] at hOo
 replace hbox := hbox.below hbo
 replace hRz := hRz.below hbo
 replace hB := hB.trans (hbo.mono hB.size)
 have hbz := Below.lit wo (.cells rZ 60)
 obtain ⟨wz, hwz, hz⟩ := nameW (p := fun W => ZBox W wo.heap.size) (ZBox.made wo)
 rw [hwz.out] at hbz
 have hbzx : wo.heap.size ≠ bx := by have := blk_lt hbox; omega
 have hbz0 : w.heap.size ≤ wo.heap.size := hB.size
 obtain ⟨bz, hbzn⟩ : ∃ bz, Hid (wo.heap.size = bz) := ⟨_, Lib.hid rfl⟩
 rw [hbzn.out] at hz hbzx hbz0
 replace hbox := hbox.below hbz
 replace hOo := hOo.below hbz (cell_lt hOo.cb)
 replace hRz := hRz.below hbz
 replace hB := hB.trans (hbz.mono hB.size)
 clear hbx hbo hbz
 go_enter Tryd.func56, Tryd.ntmps56
 go_upto_region 1 with (first | (rw [hwb.out]) | (rw [hwo.out]) | (rw [hwz.out]) | (refine wpL_allocT 60 rZ rfl rfl (zero_R _) ?_; simp only [Act.put, List.setIfInBounds_toArray, List.set_cons_succ, List.set_cons_zero]) | fail)
 rw [hbxn.out, hbon.out, hbzn.out]
 go_wp2_with (first
  | (refine wpList_load_row rfl 60 _ rfl bx rfl 60 _ (0, 0) _ hbox Tryd.underlying60 rfl (rfC_info _ _ _) ?_)
  | (refine wpList_load_row rfl 42 _ rfl bo rfl 42 (opC o gp gc) (0, 0) _ hOo Tryd.underlying42 rfl (by kernel_rfl) ?_)
  | fail)
 refine (guR_any wz a s L vs o gp gc kk hRz hs).mono ?_
 rintro e w1 ⟨rfl, hb1⟩
 replace hbox := hbox.below hb1
 replace hOo := hOo.below hb1 (cell_lt hOo.cb)
 replace hz := hz.below hb1
 replace hRz := hRz.below hb1
 replace hB := hB.trans (hb1.mono hB.size)
 clear hb1
 obtain ⟨g1, hg1⟩ : ∃ x, Hid ((guI s o).1 = x) := ⟨_, Lib.hid rfl⟩
 obtain ⟨g2, hg2⟩ : ∃ x, Hid ((guI s o).2 = x) := ⟨_, Lib.hid rfl⟩
 rw [hg1.out, hg2.out]
 have hcase : (g2 ≠ 0 ∧ s.doVouch o = s) ∨ ∃ (k : Nat) (n : Int) (r : Int) (g : Gd), g2 = 0 ∧ s.ms[k]? = some (n, ⟨r, some g⟩) ∧ g.id = o.f ∧ s.memb n = some ⟨r, some g⟩ ∧ s.doVouch o = s.setM n ⟨r, some (vouchG g o)⟩ := by
  rcases guI_cases hs o with ⟨h1, h2, h3⟩ | ⟨k, n, rl, g, h1, h2, h3, _, h4, h5, h6⟩
  ·left
   refine ⟨by rw [← hg2.out, h2]; simp, ?_⟩
   unfold RS.doVouch
   rw [if_neg (by rw [h3]; simp)]
  ·by_cases hob : o.b ∈ g.gs
   ·rw [if_pos hob] at h5 h6
    right
    refine ⟨k, n, rl, g, by rw [← hg2.out, h5], h2, h3, h4, ?_⟩
    unfold RS.doVouch
    rw [h6, if_pos rfl, h4]
   ·rw [if_neg hob] at h5 h6
    left
    refine ⟨by rw [← hg2.out, h5]; simp, ?_⟩
    unfold RS.doVouch
    rw [if_neg (by rw [h6]; simp)]
 rcases hcase with ⟨hg0, hst⟩ | ⟨k, n, rl, g, rfl, h2, hid, hmb, hst⟩
 ·have t1 : (g2 != 0) = true := bne_iff_ne.2 hg0
  replace hst := Lib.hid hst
  replace hg0 := Lib.hid hg0
  go_wp2_with (first | (refine wpList_load_row rfl 60 _ rfl bx rfl 60 _ (0, 0) _ hbox Tryd.underlying60 rfl (rfC_info _ _ _) ?_) | (refine wpList_store_row rfl 60 _ _ rfl bz _ rfl rfl 60 rZ hz (rfC_info _ _ _) rfl (rfC_one _ _ _) ?_) | fail)
  refine bodyPost_ret (v := .agg (rfC a s vs.length)) ?_ rfl ?_
  ·exact results_cell_row rfl _ _ bz 60 _ (0, 0) _ rfl (setRow_heap _ _ _ _ _ _ hz) Tryd.underlying60 rfl (rfC_info _ _ _)
  ·have hBf := belowSetRow (cs := rfC a s vs.length) hB hbz0
   rw [hst.out]
   exact ⟨a, L, vs, rfl, hR.below hBf, hV, hI, hBf⟩
 ·obtain ⟨S1, hS1⟩ : ∃ S, Hid (s.setM n ⟨rl, some (vouchG g o)⟩ = S) := ⟨_, Lib.hid rfl⟩
  rw [hS1.out] at hst
  have hs1 := set_map hs.mn (x := ⟨rl, some (vouchG g o)⟩) h2
  obtain ⟨hk, h2e⟩ := List.getElem?_eq_some_iff.1 h2
  obtain ⟨_, _, x, hxL, hxs, _, _, hLk, _⟩ := hRz.at_ hk
  obtain ⟨xm, xp, xc⟩ := x
  obtain rfl : xm = (n, ⟨rl, some g⟩) := hxs.trans h2e
  have hLl : L.length = s.ms.length := by have := congrArg List.length hR.lq; rwa [List.length_map] at this
  have hkL : k < L.length := by rw [hLl]; exact hk
  have hLke : L[k] = ((n, ⟨rl, some g⟩), xp, xc) := by
   have := List.getElem?_eq_getElem hkL
   rw [hLk] at this
   injection this with this
   exact this.symm
  have hmsq : (L.set k ((n, ⟨rl, some (vouchG g o)⟩), xp, xc)).map Prod.fst = S1.ms := by
   rw [List.map_set, hR.lq, ← hS1.out]
   exact hs1
  have hVs := hV.vouch hs hmb hid
  rw [hS1.out] at hVs
  have hS1l : S1.ms.length = s.ms.length := by rw [← hmsq, List.length_map, List.length_set, hLl]
  have hS1i : S1.ins = s.ins := by rw [← hS1.out]; rfl
  have hS1g : S1.gone = s.gone := by rw [← hS1.out]; rfl
  have hS1b : S1.bk = s.bk := by rw [← hS1.out]; rfl
  have hgsx := hR.gs _ hxL
  replace hst := Lib.hid hst
  replace h2 := Lib.hid h2
  replace h2e := Lib.hid h2e
  replace hxs := Lib.hid hxs
  replace hLk := Lib.hid hLk
  replace hLke := Lib.hid hLke
  replace hxL := Lib.hid hxL
  replace hs1 := Lib.hid hs1
  replace hmsq := Lib.hid hmsq
  replace hVs := Lib.hid hVs
  replace hS1l := Lib.hid hS1l
  replace hS1i := Lib.hid hS1i
  replace hS1g := Lib.hid hS1g
  replace hS1b := Lib.hid hS1b
  replace hLl := Lib.hid hLl
  replace hmb := Lib.hid hmb
  replace hid := Lib.hid hid
  replace hgsx := Lib.hid hgsx
  have zb := hOo.cb
  have zd := hOo.cd
  have za := hOo.ca
  have zf0 := hOo.cfb
  have zf1 := hOo.cfs
  have zf2 := hOo.cfu
  have hbv := Below.lit w1 (.cells (vC ⟨o.f, o.b, o.d, o.a⟩) 128)
  obtain ⟨w2, hw2, hv2⟩ := nameW (p := fun W => VBox W w1.heap.size ⟨o.f, o.b, o.d, o.a⟩) (VBox.made w1 _)
  rw [hw2.out] at hbv
  have hsz2 : w2.heap.size = w1.heap.size + 1 := by rw [← hw2.out]; simp
  obtain ⟨bv, hbvn⟩ : ∃ bv, Hid (w1.heap.size = bv) := ⟨_, Lib.hid rfl⟩
  have hbxv : bx < bv := by rw [← hbvn.out]; exact blk_lt hbox
  have hbzv : bz < bv := by rw [← hbvn.out]; exact blk_lt hz
  have hwv : w.heap.size ≤ bv := by rw [← hbvn.out]; exact hB.size
  rw [hbvn.out] at hv2 hsz2
  replace hbox := hbox.below hbv
  replace hz := hz.below hbv
  replace hB := hB.trans (hbv.mono hB.size)
  replace hsz2 := Lib.hid hsz2
  replace hbox := Lib.hid hbox
  replace hz := Lib.hid hz
  replace hB := Lib.hid hB
  clear hRz hbv
  go_upto_region 5 with (first
   | (rw [hw2.out])
   | (refine wpL_build rfl 128 _ rfl (vC ⟨o.f, o.b, o.d, o.a⟩) (by kernel_rfl) ?_; simp only [Act.put, List.setIfInBounds_toArray, List.set_cons_succ, List.set_cons_zero])
   | (refine wpL_allocT 128 _ rfl rfl (zero_V _) ?_; simp only [Act.put, List.setIfInBounds_toArray, List.set_cons_succ, List.set_cons_zero])
   | (refine wpL_storeT 128 _ (vC ⟨o.f, o.b, o.d, o.a⟩) rfl _ _ rfl (by first | rfl | (simp only [World.size_alloc]; rfl)) rfl (vC_info _) rfl (vC_one _) ?_; try simp only [Act.put])
   | fail)
  rw [hbvn.out]
  have hbv2 : bv ≤ w2.heap.size := by have := hsz2.out; omega
  go_wp2_with fail
  go_loopw [8, 9] (fun v i wr => ∃ (j : Nat), j ≤ vs.length ∧ i = .int .i64 j ∧ OwnE vE wr (bv + 1) v (vouL o (vs.take j)) ∧ Hid (Below bv w2 wr) ∧ Hid (VBox wr bv ⟨o.f, o.b, o.d, vouA o (vs.take j)⟩)) (fun _ i _ => vs.length - (intOf i).toNat)
  case atStart => exact ⟨0, Nat.zero_le _, rfl, OwnE.nil _ _, Lib.hid (Below.refl _ _), Lib.hid hv2⟩
  case round =>
   clear zb zd za zf0 zf1 zf2
   obtain ⟨j, hj, rfl, hown, hbr, hvb⟩ := hrel
   have hboxr : RfBox wr bx a s vs.length := hbox.out.keep (hbr.out.block bx hbxv)
   have hzr : ZBox wr bz := hz.out.keep (hbr.out.block bz hbzv)
   have hBr := hB.out.trans (hbr.out.mono hwv)
   have hRr := hR.below hBr
   have z5 := hboxr.c5
   replace hboxr := Lib.hid hboxr
   replace hzr := Lib.hid hzr
   replace hBr := Lib.hid hBr
   by_cases hlt : j < vs.length
   ·obtain ⟨b, off, hpv, hbl, hc⟩ := hRr.vat hlt
    have hix1 : (0 : Int) ≤ (j : Int) := by omega
    have hix2 : (j : Int) < (vs.length : Int) := by omega
    have htk : vs.take (j + 1) = vs.take j ++ [vs[j]] := by rw [List.take_add_one, List.getElem?_eq_getElem hlt]; rfl
    have hvm : vs[j] ∈ vs := List.getElem_mem hlt
    have hvbd := hV.bd hs hvm
    obtain ⟨v, hv⟩ : ∃ v, Hid (vs[j] = v) := ⟨_, Lib.hid rfl⟩
    rw [hv.out] at htk hc hvbd
    have hsA := vouA_snoc o (vs.take j) v
    have hsL := vouL_snoc o (vs.take j) v
    rw [← htk] at hsA hsL
    have hll : (vouL o (vs.take j)).length ≤ 1000000 := by
     unfold vouL
     refine Nat.le_trans (List.length_filter_le ..) ?_
     rw [List.length_take]; omega
    obtain ⟨ys, hys⟩ : ∃ ys, Hid (vouL o (vs.take j) = ys) := ⟨_, Lib.hid rfl⟩
    obtain ⟨xa, hxa⟩ : ∃ x, Hid (vouA o (vs.take j) = x) := ⟨_, Lib.hid rfl⟩
    rw [hys.out] at hsL hown hll
    rw [hxa.out] at hsA hvb
    have c0 : wr.cell? ⟨b, off + j * 6, none⟩ = some (.int .i64 v.f.b) := hc 0 _ rfl
    have c1 : wr.cell? ⟨b, off + j * 6 + 1, none⟩ = some (.int .i64 v.f.s) := hc 1 _ rfl
    have c2 : wr.cell? ⟨b, off + j * 6 + 2, none⟩ = some (.int .u64 v.f.u) := hc 2 _ rfl
    have c3 : wr.cell? ⟨b, off + j * 6 + 3, none⟩ = some (.int .i64 v.b) := hc 3 _ rfl
    have c4 : wr.cell? ⟨b, off + j * 6 + 4, none⟩ = some (.int .i64 v.d) := hc 4 _ rfl
    have c5 : wr.cell? ⟨b, off + j * 6 + 5, none⟩ = some (.int .i64 v.a) := hc 5 _ rfl
    have x0 : wr.cell? ⟨bv, 0, none⟩ = some (.int .i64 o.f.b) := by rw [hvb.out.cell]; rfl
    have x1 : wr.cell? ⟨bv, 1, none⟩ = some (.int .i64 o.f.s) := by rw [hvb.out.cell]; rfl
    have x2 : wr.cell? ⟨bv, 2, none⟩ = some (.int .u64 o.f.u) := by rw [hvb.out.cell]; rfl
    have x3 : wr.cell? ⟨bv, 3, none⟩ = some (.int .i64 o.b) := by rw [hvb.out.cell]; rfl
    have x4 : wr.cell? ⟨bv, 4, none⟩ = some (.int .i64 o.d) := by rw [hvb.out.cell]; rfl
    have x5 : wr.cell? ⟨bv, 5, none⟩ = some (.int .i64 xa) := by rw [hvb.out.cell]; rfl
    have hidq := fun T => id_eql v.f o.f T
    obtain ⟨q1, hq1⟩ : ∃ q, Hid (decide (v.f = o.f) = q) := ⟨_, Lib.hid rfl⟩
    obtain ⟨q2, hq2⟩ : ∃ q, (v.b == o.b) = q := ⟨_, rfl⟩
    obtain ⟨q3, hq3⟩ : ∃ q, (v.d == o.d) = q := ⟨_, rfl⟩
    have hisv : Hid (isV o v = (q1 && q2 && q3)) := Lib.hid (by unfold isV; rw [hq1.out, ← hq2, ← hq3]; rfl)
    rw [hq1.out] at hidq
    rw [hisv.out] at hsA hsL
    rw [hpv] at z5
    replace hpv := Lib.hid hpv
    replace hsA := Lib.hid hsA
    replace hsL := Lib.hid hsL
    replace htk := Lib.hid htk
    replace hown := Lib.hid hown
    replace hc := Lib.hid hc
    replace hvbd := Lib.hid hvbd
    replace hvm := Lib.hid hvm
    replace hRr := Lib.hid hRr
    have hbvr : bv < wr.heap.size := blk_lt hvb.out
    go_upto_region 9 with fail
    obtain ⟨we, hwe⟩ : ∃ we, Hid (wr.drew = we) := ⟨_, Lib.hid rfl⟩
    have hw0 : Below wr.heap.size wr we := by rw [← hwe.out]; exact (Below.refl _ _).drew
    replace z5 := (hw0.cell (cell_lt z5)).trans z5
    replace c0 := (hw0.cell (cell_lt c0)).trans c0
    replace c1 := (hw0.cell (cell_lt c1)).trans c1
    replace c2 := (hw0.cell (cell_lt c2)).trans c2
    replace c3 := (hw0.cell (cell_lt c3)).trans c3
    replace c4 := (hw0.cell (cell_lt c4)).trans c4
    replace c5 := (hw0.cell (cell_lt c5)).trans c5
    replace x0 := (hw0.cell (cell_lt x0)).trans x0
    replace x1 := (hw0.cell (cell_lt x1)).trans x1
    replace x2 := (hw0.cell (cell_lt x2)).trans x2
    replace x3 := (hw0.cell (cell_lt x3)).trans x3
    replace x4 := (hw0.cell (cell_lt x4)).trans x4
    replace x5 := (hw0.cell (cell_lt x5)).trans x5
    have hbd := Lib.hid (hbr.out.trans (hw0.mono (Nat.le_of_lt hbvr)))
    have hownd := Lib.hid (hown.out.below hw0)
    have hvbd2 := Lib.hid (hvb.out.below hw0)
    have hcd : ∀ i u, (vC v)[i]? = some u → we.cell? ⟨b, off + j * 6 + i, none⟩ = some u := fun i u hu => by
     have h1 := hc.out i u hu
     exact (hw0.cell (p := ⟨b, off + j * 6 + i, none⟩) (cell_lt h1)).trans h1
    replace hcd := Lib.hid hcd
    have hb0 : Below we.heap.size we we := Below.refl _ _
    have hfin : Hid (((q1 && q2 && q3) = false → vouL o (vs.take (j + 1)) = ys ++ [v] ∧ vouA o (vs.take (j + 1)) = xa) ∧ ((q1 && q2 && q3) = true → vouL o (vs.take (j + 1)) = ys ∧ vouA o (vs.take (j + 1)) = min xa v.a)) := Lib.hid (by
     refine ⟨fun h => ?_, fun h => ?_⟩
     ·rw [hsL.out, hsA.out, h]; exact ⟨if_neg (by simp), if_neg (by simp)⟩
     ·rw [hsL.out, hsA.out, h]; exact ⟨if_pos rfl, if_pos rfl⟩)
    refine wp_region_D (D := fun T => Below we.heap.size we T) (by kernel_rfl) ?_
    rw [hwe.out]
    change wpAnyD _ _ _ _ _ 31 _ _ _
    apply tkD 0 hb0 rfl
    ·intro T hT
     have hT0 := (hT.cell (cell_lt z5)).trans z5
     go_simp
     try rfl
    try go_frame
    apply tkD 1 hb0 rfl
    ·intro T hT
     have hT0 := (hT.cell (cell_lt z5)).trans z5
     go_simp
     try rfl
    try go_frame
    apply tkD 2 hb0 rfl
    ·intro T hT
     have hT0 := (hT.cell (cell_lt z5)).trans z5
     go_simp
     try rfl
    try go_frame
    apply tkD 3 hb0 rfl
    ·intro T hT
     have hT0 := (hT.cell (cell_lt z5)).trans z5
     go_simp
     try rfl
    try go_frame
    apply tkD 4 hb0 rfl
    ·intro T hT
     have hT0 := (hT.cell (cell_lt z5)).trans z5
     go_simp
     try rfl
    try go_frame
    apply tkD 5 hb0 rfl
    ·intro T hT
     have hT0 := (hT.cell (cell_lt c0)).trans c0
     have hT1 := (hT.cell (cell_lt c1)).trans c1
     have hT2 := (hT.cell (cell_lt c2)).trans c2
     go_simp
     try rfl
    try go_frame
    apply tkD 6 hb0 rfl
    ·intro T hT
     go_simp
     try rfl
    try go_frame
    apply tkD 7 hb0 rfl
    ·intro T hT
     have hT0 := (hT.cell (cell_lt x0)).trans x0
     have hT1 := (hT.cell (cell_lt x1)).trans x1
     have hT2 := (hT.cell (cell_lt x2)).trans x2
     go_simp
     try rfl
    try go_frame
    apply tkD 8 hb0 rfl
    ·intro T hT
     go_simp
     try rfl
    try go_frame
    apply tkD 9 hb0 rfl
    ·intro T hT
     go_simp
     try rfl
    try go_frame
    cases q1 with
    | false =>
     apply noD 10 hb0 rfl
     try go_frame
     apply noD 11 hb0 rfl
     try go_frame
     apply noD 12 hb0 rfl
     try go_frame
     apply noD 13 hb0 rfl
     try go_frame
     apply noD 14 hb0 rfl
     try go_frame
     apply noD 15 hb0 rfl
     try go_frame
     apply noD 16 hb0 rfl
     try go_frame
     apply noD 17 hb0 rfl
     try go_frame
     apply noD 18 hb0 rfl
     try go_frame
     apply tkD 19 hb0 rfl
     ·intro T hT
      go_simp
      try rfl
     try go_frame
     apply tkD 20 hb0 rfl
     ·intro T hT
      go_simp
      try rfl
     try go_frame
     apply noD 21 hb0 rfl
     try go_frame
     apply noD 22 hb0 rfl
     try go_frame
     apply noD 23 hb0 rfl
     try go_frame
     apply noD 24 hb0 rfl
     try go_frame
     apply noD 25 hb0 rfl
     try go_frame
     apply noD 26 hb0 rfl
     try go_frame
     apply noD 27 hb0 rfl
     try go_frame
     apply noD 28 hb0 rfl
     try go_frame
     apply noD 29 hb0 rfl
     try go_frame
     apply tkD 30 hb0 rfl
     ·intro T hT
      go_simp
      try rfl
     try go_frame
     refine wpAnyD_done (by kernel_rfl) ?_ _
     obtain ⟨e1, e2⟩ := hfin.out.1 rfl
     replace e1 := Lib.hid e1
     replace e2 := Lib.hid e2
     have hownx := hownd.out
     have hzx : bv + 1 ≤ we.heap.size := by have := hw0.size; omega
     go_wp2_with (first
      | (refine wpL_loadV rfl _ rfl b (off + j * 6) rfl v hcd.out ?_)
      | (refine Go.Great.wpList_buildSliceTo rfl 58 128 1 _ rfl we.heap.size rfl _ rfl Tryd.underlying58 (vC v) (by kernel_rfl) ?_; simp only [Act.put, List.setIfInBounds_toArray, List.set_cons_succ, List.set_cons_zero])
      | (at_builtin; refine app_eb vE rfl _ _ rfl (y := v) rfl hownx rfl rfl hll hzx ?_; intro v5 W7 hown5 hb5)
      | fail)
     have hv7 : VBox W7 bv ⟨o.f, o.b, o.d, xa⟩ := (hb5.block bv (Nat.lt_succ_self _)).trans hvbd2.out
     have hb7 : Below bv w2 W7 := hbd.out.trans (hb5.mono (Nat.le_succ _))
     replace hv7 := Lib.hid hv7
     replace hb7 := Lib.hid hb7
     go_roundw
     case rel => exact ⟨j + 1, by omega, by go_num, by rw [e1.out]; exact hown5, hb7, by rw [e2.out]; exact hv7⟩
     case measure => simp [intOf]; omega
    | true =>
     apply tkD 10 hb0 rfl
     ·intro T hT
      have hT0 := (hT.cell (cell_lt z5)).trans z5
      go_simp
      try rfl
     try go_frame
     apply tkD 11 hb0 rfl
     ·intro T hT
      have hT0 := (hT.cell (cell_lt z5)).trans z5
      go_simp
      try rfl
     try go_frame
     apply tkD 12 hb0 rfl
     ·intro T hT
      have hT0 := (hT.cell (cell_lt z5)).trans z5
      go_simp
      try rfl
     try go_frame
     apply tkD 13 hb0 rfl
     ·intro T hT
      have hT0 := (hT.cell (cell_lt z5)).trans z5
      go_simp
      try rfl
     try go_frame
     apply tkD 14 hb0 rfl
     ·intro T hT
      have hT0 := (hT.cell (cell_lt z5)).trans z5
      go_simp
      try rfl
     try go_frame
     apply tkD 15 hb0 rfl
     ·intro T hT
      have hT0 := (hT.cell (cell_lt c3)).trans c3
      go_simp
      try rfl
     try go_frame
     apply tkD 16 hb0 rfl
     ·intro T hT
      go_simp
      try rfl
     try go_frame
     apply tkD 17 hb0 rfl
     ·intro T hT
      have hT0 := (hT.cell (cell_lt x3)).trans x3
      go_simp
      try rfl
     try go_frame
     apply tkD 18 hb0 rfl
     ·intro T hT
      go_simp
      try rfl
     try go_frame
     apply tkD 19 hb0 rfl
     ·intro T hT
      go_simp
      try rfl
     try go_frame
     apply tkD 20 hb0 rfl
     ·intro T hT
      go_simp
      try rfl
     try go_frame
     cases q2 with
     | false =>
      apply noD 21 hb0 rfl
      try go_frame
      apply noD 22 hb0 rfl
      try go_frame
      apply noD 23 hb0 rfl
      try go_frame
      apply noD 24 hb0 rfl
      try go_frame
      apply noD 25 hb0 rfl
      try go_frame
      apply noD 26 hb0 rfl
      try go_frame
      apply noD 27 hb0 rfl
      try go_frame
      apply noD 28 hb0 rfl
      try go_frame
      apply noD 29 hb0 rfl
      try go_frame
      apply tkD 30 hb0 rfl
      ·intro T hT
       go_simp
       try rfl
      try go_frame
      refine wpAnyD_done (by kernel_rfl) ?_ _
      obtain ⟨e1, e2⟩ := hfin.out.1 rfl
      replace e1 := Lib.hid e1
      replace e2 := Lib.hid e2
      have hownx := hownd.out
      have hzx : bv + 1 ≤ we.heap.size := by have := hw0.size; omega
      go_wp2_with (first
       | (refine wpL_loadV rfl _ rfl b (off + j * 6) rfl v hcd.out ?_)
       | (refine Go.Great.wpList_buildSliceTo rfl 58 128 1 _ rfl we.heap.size rfl _ rfl Tryd.underlying58 (vC v) (by kernel_rfl) ?_; simp only [Act.put, List.setIfInBounds_toArray, List.set_cons_succ, List.set_cons_zero])
       | (at_builtin; refine app_eb vE rfl _ _ rfl (y := v) rfl hownx rfl rfl hll hzx ?_; intro v5 W7 hown5 hb5)
       | fail)
      have hv7 : VBox W7 bv ⟨o.f, o.b, o.d, xa⟩ := (hb5.block bv (Nat.lt_succ_self _)).trans hvbd2.out
      have hb7 : Below bv w2 W7 := hbd.out.trans (hb5.mono (Nat.le_succ _))
      replace hv7 := Lib.hid hv7
      replace hb7 := Lib.hid hb7
      go_roundw
      case rel => exact ⟨j + 1, by omega, by go_num, by rw [e1.out]; exact hown5, hb7, by rw [e2.out]; exact hv7⟩
      case measure => simp [intOf]; omega
     | true =>
      apply tkD 21 hb0 rfl
      ·intro T hT
       have hT0 := (hT.cell (cell_lt z5)).trans z5
       go_simp
       try rfl
      try go_frame
      apply tkD 22 hb0 rfl
      ·intro T hT
       have hT0 := (hT.cell (cell_lt z5)).trans z5
       go_simp
       try rfl
      try go_frame
      apply tkD 23 hb0 rfl
      ·intro T hT
       have hT0 := (hT.cell (cell_lt z5)).trans z5
       go_simp
       try rfl
      try go_frame
      apply tkD 24 hb0 rfl
      ·intro T hT
       have hT0 := (hT.cell (cell_lt z5)).trans z5
       go_simp
       try rfl
      try go_frame
      apply tkD 25 hb0 rfl
      ·intro T hT
       have hT0 := (hT.cell (cell_lt z5)).trans z5
       go_simp
       try rfl
      try go_frame
      apply tkD 26 hb0 rfl
      ·intro T hT
       have hT0 := (hT.cell (cell_lt c4)).trans c4
       go_simp
       try rfl
      try go_frame
      apply tkD 27 hb0 rfl
      ·intro T hT
       go_simp
       try rfl
      try go_frame
      apply tkD 28 hb0 rfl
      ·intro T hT
       have hT0 := (hT.cell (cell_lt x4)).trans x4
       go_simp
       try rfl
      try go_frame
      apply tkD 29 hb0 rfl
      ·intro T hT
       go_simp
       try rfl
      try go_frame
      apply tkD 30 hb0 rfl
      ·intro T hT
       go_simp
       try rfl
      try go_frame
      cases q3 with
      | false =>
       refine wpAnyD_done (by kernel_rfl) ?_ _
       obtain ⟨e1, e2⟩ := hfin.out.1 rfl
       replace e1 := Lib.hid e1
       replace e2 := Lib.hid e2
       have hownx := hownd.out
       have hzx : bv + 1 ≤ we.heap.size := by have := hw0.size; omega
       go_wp2_with (first
        | (refine wpL_loadV rfl _ rfl b (off + j * 6) rfl v hcd.out ?_)
        | (refine Go.Great.wpList_buildSliceTo rfl 58 128 1 _ rfl we.heap.size rfl _ rfl Tryd.underlying58 (vC v) (by kernel_rfl) ?_; simp only [Act.put, List.setIfInBounds_toArray, List.set_cons_succ, List.set_cons_zero])
        | (at_builtin; refine app_eb vE rfl _ _ rfl (y := v) rfl hownx rfl rfl hll hzx ?_; intro v5 W7 hown5 hb5)
        | fail)
       have hv7 : VBox W7 bv ⟨o.f, o.b, o.d, xa⟩ := (hb5.block bv (Nat.lt_succ_self _)).trans hvbd2.out
       have hb7 : Below bv w2 W7 := hbd.out.trans (hb5.mono (Nat.le_succ _))
       replace hv7 := Lib.hid hv7
       replace hb7 := Lib.hid hb7
       go_roundw
       case rel => exact ⟨j + 1, by omega, by go_num, by rw [e1.out]; exact hown5, hb7, by rw [e2.out]; exact hv7⟩
       case measure => simp [intOf]; omega
      | true =>
       refine wpAnyD_done (by kernel_rfl) ?_ _
       obtain ⟨e1, e2⟩ := hfin.out.2 rfl
       replace e1 := Lib.hid e1
       obtain ⟨N, hN'⟩ : ∃ N, min xa v.a = N := ⟨_, rfl⟩
       rw [hN'] at e2
       replace e2 := Lib.hid e2
       go_upto_region 10 with fail
       obtain ⟨wg, hwg⟩ : ∃ wg, Hid (we.drew = wg) := ⟨_, Lib.hid rfl⟩
       have hw1 : Below we.heap.size we wg := by rw [← hwg.out]; exact (Below.refl _ _).drew
       replace z5 := (hw1.cell (cell_lt z5)).trans z5
       replace c5 := (hw1.cell (cell_lt c5)).trans c5
       replace x5 := (hw1.cell (cell_lt x5)).trans x5
       have hvg := hvbd2.out.below hw1
       have hbg := Lib.hid (hbd.out.trans (hw1.mono (Nat.le_trans hbv2 hbd.out.size)))
       have hog := Lib.hid (hownd.out.below hw1)
       have hb1 : Below wg.heap.size wg wg := Below.refl _ _
       have x5f := hvg.free 5
       refine wp_region_E (D := fun T => Below wg.heap.size wg T) 10 (by kernel_rfl) ?_
       rw [hwg.out]
       change wpAnyE _ _ _ _ _ _ 11 _ _ _
       apply tkE 0 hb1 rfl
       ·intro T hT
        have hT0 := (hT.cell (cell_lt x5)).trans x5
        go_simp
        try rfl
       try go_frame
       apply tkE 1 hb1 rfl
       ·intro T hT
        have hT0 := (hT.cell (cell_lt x5)).trans x5
        go_simp
        try rfl
       try go_frame
       apply tkE 2 hb1 rfl
       ·intro T hT
        have hT0 := (hT.cell (cell_lt z5)).trans z5
        go_simp
        try rfl
       try go_frame
       apply tkE 3 hb1 rfl
       ·intro T hT
        have hT0 := (hT.cell (cell_lt z5)).trans z5
        go_simp
        try rfl
       try go_frame
       apply tkE 4 hb1 rfl
       ·intro T hT
        have hT0 := (hT.cell (cell_lt z5)).trans z5
        go_simp
        try rfl
       try go_frame
       apply tkE 5 hb1 rfl
       ·intro T hT
        have hT0 := (hT.cell (cell_lt z5)).trans z5
        go_simp
        try rfl
       try go_frame
       apply tkE 6 hb1 rfl
       ·intro T hT
        have hT0 := (hT.cell (cell_lt z5)).trans z5
        go_simp
        try rfl
       try go_frame
       apply tkE 7 hb1 rfl
       ·intro T hT
        have hT0 := (hT.cell (cell_lt c5)).trans c5
        go_simp
        try rfl
       try go_frame
       apply tkE 8 hb1 rfl
       ·intro T hT
        go_simp
        try rfl
       try go_frame
       apply tkE 9 hb1 rfl
       ·intro T hT
        go_simp
        try rfl
       try go_frame
       refine oneE 10 (by kernel_rfl) rfl (by kernel_rfl) (fun K hK => ?_)
       go_simp
       refine hK _ _ ⟨.inl rfl, ?_⟩
       clear hK K
       try go_frame
       refine wpAnyE_done (by kernel_rfl) ?_ _
       obtain ⟨wh, hwh, hvh⟩ := nameW (p := fun W => VBox W bv ⟨o.f, o.b, o.d, N⟩) (hvg.setA N)
       have hbh : Below bv w2 wh := by rw [← hwh.out]; exact hbg.out.trans (setCell_below (Nat.le_refl _) (Nat.le_trans hbv2 hbg.out.size))
       have hoh : OwnE vE wh (bv + 1) _ ys := hog.out.same fun g hg => by
        have h1 := hog.out.lt hg
        rw [← hwh.out]
        exact setCell_keep h1.2 (by omega)
       replace hbh := Lib.hid hbh
       go_wp2_with (first | (rw [hwh.out]) | fail)
       go_roundw
       case rel => exact ⟨j + 1, by omega, by go_num, by rw [e1.out]; exact hoh, hbh, by rw [e2.out]; exact Lib.hid hvh⟩
       case measure => simp [intOf]; omega
   ·have hjn : vs.take j = vs := List.take_of_length_le (by omega)
    rw [hjn] at hown hvb
    have hll : (vouL o vs).length ≤ 1000000 := by
     unfold vouL
     refine Nat.le_trans (List.length_filter_le ..) ?_
     omega
    have hzr1 : bv + 1 ≤ wr.heap.size := by have := blk_lt hvb.out; omega
    have hvr := hvb.out
    obtain ⟨V', hV'⟩ : ∃ l, Hid (vouV o vs = l) := ⟨_, Lib.hid rfl⟩
    have hVe : vouL o vs ++ [⟨o.f, o.b, o.d, vouA o vs⟩] = V' := hV'.out
    obtain ⟨n9, hn9⟩ : ∃ n, Hid (V'.length = n) := ⟨_, Lib.hid rfl⟩
    have hVs := hVs.out
    rw [hV'.out] at hVs
    replace hVs := Lib.hid hVs
    replace hVe := Lib.hid hVe
    replace hjn := Lib.hid hjn
    replace hRr := Lib.hid hRr
    have hS1e : (⟨s.ins, s.gone, S1.ms, s.bk⟩ : RS) = S1 := by rw [← hS1i.out, ← hS1g.out, ← hS1b.out]
    replace hS1e := Lib.hid hS1e
    go_upto_region 13 with (first
     | (refine wpList_load_row rfl 128 _ rfl bv rfl 128 _ (0, 0) _ hvr Tryd.underlying128 rfl (vC_info _) ?_)
     | (refine Go.Great.wpList_buildSliceTo rfl 58 128 1 _ rfl wr.heap.size rfl _ rfl Tryd.underlying58 (vC ⟨o.f, o.b, o.d, vouA o vs⟩) (by kernel_rfl) ?_; simp only [Act.put, List.setIfInBounds_toArray, List.set_cons_succ, List.set_cons_zero])
     | (at_builtin; refine app_eb vE rfl _ _ rfl (y := ⟨o.f, o.b, o.d, vouA o vs⟩) rfl hown rfl rfl hll hzr1 ?_; intro v5 W7 hown5 hb5; rw [hVe.out] at hown5; have hx7 : RfBox W7 bx a s vs.length := hboxr.out.keep (hb5.block bx (by omega)); have y5 := hx7.c5; have f5 := hx7.free 5; obtain ⟨q9, d9, rfl, _, hr9, hf9, hnz9, _⟩ := hown5.u2; rw [hn9.out]; obtain ⟨wf, hwf, hbox9⟩ := nameW (p := fun W => RfBox W bx { a with pv := q9, cv := d9 } s n9) (hx7.setV (p := q9) (c := d9) (n := n9)))
     | (rw [hwf.out])
     | fail)
    have hsame : rfC { a with pv := q9, cv := d9 } s n9 = rfC { a with pv := q9, cv := d9 } S1 n9 := by
     unfold rfC
     rw [hS1i.out, hS1g.out, hS1l.out, hS1b.out]
    have hbox : RfBox wf bx { a with pv := q9, cv := d9 } S1 n9 := by
     unfold RfBox at hbox9 ⊢
     rw [← hsame]; exact hbox9
    have hB7 : Below w.heap.size w W7 := hBr.out.trans (hb5.mono (Nat.le_succ_of_le hwv))
    have hz7 : ZBox W7 bz := hzr.out.keep (hb5.block bz (by omega))
    have hz : ZBox wf bz := by rw [← hwf.out]; exact hz7.keep (setCell_keep (blk_lt hz7) hbzx)
    have hv9 : RL vE wf q9 V' := by rw [← hwf.out]; exact hr9.set (hf9.mono (by omega))
    have hBf0 : Below w.heap.size w wf := by rw [← hwf.out]; exact hB7.trans (setCell_below hbx0 hB7.size)
    have hf9z : FarP (bz + 1) q9 := hf9.mono (by omega)
    have hf9' : FarP w.heap.size q9 := hf9.mono (by omega)
    clear hown hown5 hbox9 hx7 y5 f5 hb5 hvr hr9 z5
    replace hsame := Lib.hid hsame
    go_wp2_with (first | (refine wpList_load_row rfl 60 _ rfl bx rfl 60 _ (0, 0) _ hbox Tryd.underlying60 rfl (rfC_info _ _ _) ?_) | (refine wpList_store_row rfl 60 _ _ rfl bz _ rfl rfl 60 rZ hz (rfC_info _ _ _) rfl (rfC_one _ _ _) ?_) | fail)
    refine bodyPost_ret (v := .agg (rfC { a with pv := q9, cv := d9 } S1 n9)) ?_ rfl ?_
    ·exact results_cell_row rfl _ _ bz 60 _ (0, 0) _ rfl (setRow_heap _ _ _ _ _ _ hz) Tryd.underlying60 rfl (rfC_info _ _ _)
    ·obtain ⟨cs, hcs⟩ : ∃ cs, Hid (rfC { a with pv := q9, cv := d9 } S1 n9 = cs) := ⟨_, Lib.hid rfl⟩
     rw [hcs.out]
     have hBf := belowSetRow (cs := cs) hBf0 hbz0
     have hRf := hR.below hBf
     rw [hst.out, ← hcs.out]
     have hgsO : ∀ x ∈ L.set k (((n, ⟨rl, some (vouchG g o)⟩), xp, xc) : ME), x ∈ L ∨ x = ((n, ⟨rl, some (vouchG g o)⟩), xp, xc) := fun x hx => List.mem_or_eq_of_mem_set hx
     refine ⟨{ a with pv := q9, cv := d9 }, L.set k ((n, ⟨rl, some (vouchG g o)⟩), xp, xc), V', by rw [hn9.out], ?_, hVs.out, ⟨hI.pc, hI.pi, hI.pg, hI.pl, fun q e => hN _ (hf9' q e), fun x hx q e => ?_⟩, ?_⟩
     ·rw [hcs.out]
      have hkL' : k < L.length := hkL
      have hsw : RdE mE (wf.setRow bz cs) a.pl (L.set k ((n, ⟨rl, some (vouchG g o)⟩), xp, xc)) := hRf.lm.swap hkL' (by
       show (mC _).toList = (mC _).toList
       rw [hLke.out, vouch_mC])
      have := hRf.withL ⟨hsw, hRf.lt.pl⟩ hmsq.out hR.nz.2.2.1 (fun x hx => by
       rcases hgsO x hx with hx | rfl
       ·exact hRf.gsL x hx
       ·have h5 := hRf.gs _ hxL.out
        refine ⟨?_, fun q e => hRf.lt.gs _ hxL.out q e⟩
        show UI _ xp (vouchG g o).gs.length (vouchG g o).gs
        rw [vouch_gs]
        exact h5) (hv9.setRow hf9z) hnz9
      rw [hS1e.out] at this
      exact this
     ·rcases hgsO x hx with hx | rfl
      ·exact hI.gs x hx q e
      ·exact hI.gs _ hxL.out q e
     ·rw [hcs.out]; exact hBf
end Go.Proofs.YtkolilbebkkpdaaDoor

namespace Go.Proofs.YtkolilbebkkpdaaDoor
open Go.RowKit Go.Maps Go.BigFrame
attribute [local go_sem] in_gr

theorem UI.other {w w' : World} {p : Option Addr} {n : Nat} {xs : List Int} (h : UI w p n xs) {b : Nat} (hk : ∀ j, j < w.heap.size → j ≠ b → w'.heap[j]? = w.heap[j]?) (hp : ∀ q, p = some q → q.block ≠ b) : UI w' p n xs := by
 refine ⟨h.len, ?_, h.bd⟩
 rcases h.rd with h1 | ⟨b', off, hp', hc⟩
 ·exact .inl h1
 ·refine .inr ⟨b', off, hp', fun j hj => ?_⟩
  have hv : (w.cell? ⟨b', off + j, none⟩) = _ := hc j hj
  have hlt : b' < w.heap.size := cell_lt (a := ⟨b', off + j, none⟩) hv
  rw [← hc j hj]
  have := hk b' hlt (hp _ hp')
  unfold World.cell?
  simp only [this]
theorem RfAt.other {w w' : World} {a : RfV} {s : RS} {L : List ME} {vs : List VI} (h : RfAt w a s L vs) {b : Nat} (hz : w.heap.size ≤ w'.heap.size) (hk : ∀ j, j < w.heap.size → j ≠ b → w'.heap[j]? = w.heap[j]?) (hI : RfIn (· ≠ b) a L) : RfAt w' a s L vs := by
 have hr : ∀ {α : Type} {E : El α} {p : Option Addr} {l : List α}, RdE E w p l → (∀ q, p = some q → q.block ≠ b) → RdE E w' p l := fun hR hp => hR.same hz fun a ha hlt => hk _ hlt (hp a ha)
 obtain ⟨gl, g1, g2⟩ := h.gone
 exact ⟨hr h.cards hI.pc, h.ins.other hk hI.pi, ⟨gl, g1, g2.other hk hI.pg⟩, hr h.lm hI.pl, h.lq, fun x hx => (h.gs x hx).other hk (hI.gs x hx), hr h.vv hI.pv, h.nz, h.lt.mono fun _ h1 => Nat.lt_of_lt_of_le h1 hz⟩
theorem RfAt.setRow {w : World} {a : RfV} {s : RS} {L : List ME} {vs : List VI} (h : RfAt w a s L vs) {b : Nat} {cs : Array Value} (hI : RfIn (· ≠ b) a L) : RfAt (w.setRow b cs) a s L vs :=
 h.other (by simp [World.setRow]) (fun j _ hj => setRow_other w b j cs hj) hI
theorem RfAt.setCell {w : World} {a : RfV} {s : RS} {L : List ME} {vs : List VI} (h : RfAt w a s L vs) {b i : Nat} {v : Value} (hI : RfIn (· ≠ b) a L) : RfAt (w.setCell ⟨b, i, none⟩ v) a s L vs :=
 h.other (grown_cell w b i v).size (fun _ hj hne => setCell_keep hj hne) hI
theorem RfIn.and {P : Nat → Prop} {a : RfV} {L : List ME} {B bx bz : Nat} (hI : RfIn P a L) (hl : RfIn (· < B) a L) (h1 : B ≤ bx) (h2 : B ≤ bz) : RfIn (fun b => P b ∧ b ≠ bx ∧ b ≠ bz) a L :=
 have k : ∀ b, b < B → b ≠ bx ∧ b ≠ bz := fun b hb => ⟨by omega, by omega⟩
 ⟨fun q e => ⟨hI.pc q e, k _ (hl.pc q e)⟩, fun q e => ⟨hI.pi q e, k _ (hl.pi q e)⟩, fun q e => ⟨hI.pg q e, k _ (hl.pg q e)⟩, fun q e => ⟨hI.pl q e, k _ (hl.pl q e)⟩, fun q e => ⟨hI.pv q e, k _ (hl.pv q e)⟩, fun x hx q e => ⟨hI.gs x hx q e, k _ (hl.gs x hx q e)⟩⟩
theorem far_and {P : Nat → Prop} {B B' bx bz : Nat} (hN : ∀ b, B ≤ b → P b) (h : B ≤ B') (h1 : bx < B') (h2 : bz < B') : ∀ b, B' ≤ b → P b ∧ b ≠ bx ∧ b ≠ bz := fun b hb => ⟨hN b (Nat.le_trans h hb), by omega, by omega⟩
set_option maxRecDepth 100000 in
set_option maxHeartbeats 16000000 in
theorem DoR_2 (P : Nat → Prop) (w : World) (a : RfV) (s : RS) (L : List ME) (vs : List VI) (o : OpI) (gp : Option Addr) (gc : Nat) (i : Idn) (kk : Nat) (hR : RfAt w a s L vs) (hV : VsOk s vs) (hs : s.Ok kk) (hI : RfIn P a L) (hN : ∀ b, w.heap.size ≤ b → P b) (hk : o.k = 2) :
  Calls Tryd.prog 29 #[.agg (rfC a s vs.length), .agg (opC o gp gc), .agg #[.int .i64 i.b, .int .i64 i.s, .int .u64 i.u]] w fun e w' => ∃ a' L' vs', e = .returned (.agg (rfC a' (s.act o i) vs'.length)) ∧ RfAt w' a' (s.act o i) L' vs' ∧ VsOk (s.act o i) vs' ∧ RfIn P a' L' ∧ Below w.heap.size w w' := by
 have hfm := hs.fewM
 have hbx := Below.lit w (.cells (rfC a s vs.length) 60)
 have hRz := hR.below hbx
 obtain ⟨wb, hwb, hBx⟩ := nameW (p := fun W => RfBox W w.heap.size a s vs.length) (RfBox.made w a s vs.length)
 rw [hwb.out] at hbx hRz
 obtain ⟨bx, hbxn⟩ : ∃ bx, Hid (w.heap.size = bx) := ⟨_, Lib.hid rfl⟩
 have hbx0 : w.heap.size ≤ bx := by rw [hbxn.out]; exact Nat.le_refl _
 rw [hbxn.out] at hBx
 have hB := hbx
 have hbo := Below.lit wb (.cells (opC o gp gc) 42)
 obtain ⟨wo, hwo, hOo⟩ := nameW (p := fun W => OpAt W wb.heap.size o gp gc) (OpAt.made wb o gp gc)
 rw [hwo.out] at hbo
 have hbox1 : wb.heap.size ≠ bx := by have := blk_lt hBx; omega
 obtain ⟨bo, hbon⟩ : ∃ bo, Hid (wb.heap.size = bo) := ⟨_, Lib.hid rfl⟩
 rw [hbon.out] at hOo hbox1
 replace hBx := hBx.below hbo
 replace hRz := hRz.below hbo
 replace hB := hB.trans (hbo.mono hB.size)
 have hbi := Below.lit wo (.cells #[.int .i64 i.b, .int .i64 i.s, .int .u64 i.u] 34)
 obtain ⟨wi, hwi, hIi⟩ := nameW (p := fun W => IdAt W wo.heap.size i) (IdAt.made wo i)
 rw [hwi.out] at hbi
 have hbix1 : wo.heap.size ≠ bx := by have := blk_lt hBx; omega
 obtain ⟨bi, hbin⟩ : ∃ bi, Hid (wo.heap.size = bi) := ⟨_, Lib.hid rfl⟩
 rw [hbin.out] at hIi hbix1
 replace hBx := hBx.below hbi
 replace hOo := hOo.below hbi (cell_lt hOo.cb)
 replace hRz := hRz.below hbi
 replace hB := hB.trans (hbi.mono hB.size)
 have hbz := Below.lit wi (.cells rZ 60)
 obtain ⟨wz, hwz, hZ⟩ := nameW (p := fun W => ZBox W wi.heap.size) (ZBox.made wi)
 rw [hwz.out] at hbz
 have hbzx : wi.heap.size ≠ bx := by have := blk_lt hBx; omega
 have hbz0 : w.heap.size ≤ wi.heap.size := hB.size
 obtain ⟨bz, hbzn⟩ : ∃ bz, Hid (wi.heap.size = bz) := ⟨_, Lib.hid rfl⟩
 rw [hbzn.out] at hZ hbzx hbz0
 have hC : DC wz bx bo bi bz a s vs.length o gp gc i := ⟨hBx.below hbz, hOo.below hbz (cell_lt hOo.cb), hIi.below hbz, hZ⟩
 replace hRz := hRz.below hbz
 replace hB := hB.trans (hbz.mono hB.size)
 clear hbx hbo hbi hbz hBx hOo hIi hZ
 go_enter Tryd.func29, Tryd.ntmps29
 go_upto_region 1 with (first | (rw [hwb.out]) | (rw [hwo.out]) | (rw [hwi.out]) | (rw [hwz.out]) | (refine wpL_allocT 60 rZ rfl rfl (zero_R _) ?_; simp only [Act.put, List.setIfInBounds_toArray, List.set_cons_succ, List.set_cons_zero]) | fail)
 rw [hbxn.out, hbon.out, hbin.out, hbzn.out]
 obtain ⟨m, hm⟩ : ∃ m, Hid (ofD o.b = m) := ⟨_, Lib.hid rfl⟩
 obtain ⟨at_, hat⟩ : ∃ x, Hid (memI s m = x) := ⟨_, Lib.hid rfl⟩
 obtain ⟨wd, hwd⟩ : ∃ wd, Hid (wz.drew = wd) := ⟨_, Lib.hid rfl⟩
 have hw0 : Below wz.heap.size wz wd := by rw [← hwd.out]; exact (Below.refl _ _).drew
 replace hC := hC.below hw0
 replace hRz := hRz.below hw0
 replace hB := hB.trans (hw0.mono hB.size)
 have zb := hC.op.cb
 have hb0 : Below wd.heap.size wd wd := Below.refl _ _
 refine wp_region_D (D := fun T => Below wd.heap.size wd T) (by kernel_rfl) ?_
 rw [hwd.out]
 change wpAnyD _ _ _ _ _ 7 _ _ _
 apply tkD 0 hb0 rfl
 ·intro T hT
  exact run_loadR (hC.box.below hT) rfl rfl
 try go_frame
 apply tkD 1 hb0 rfl
 ·intro T hT
  exact run_loadR (hC.box.below hT) rfl rfl
 try go_frame
 apply tkD 2 hb0 rfl
 ·intro T hT
  have hT0 := (hT.cell (cell_lt zb)).trans zb
  go_simp
  try rfl
 try go_frame
 apply tkD 3 hb0 rfl
 ·intro T hT
  have hT0 := (hT.cell (cell_lt zb)).trans zb
  go_simp
  try rfl
 try go_frame
 refine oneD 4 (by kernel_rfl) rfl (by kernel_rfl) (fun K hK => ?_)
 go_simp
 refine (OfR_any wd a.pc a.cc _ _ _ _ _ o.b hRz.cards).mono ?_
 rintro e T1 ⟨rfl, hbT1⟩
 rw [hm.out]
 refine hK _ _ ⟨hbT1, ?_⟩
 clear hK K
 try go_frame
 refine oneD 5 (by kernel_rfl) rfl (by kernel_rfl) (fun K hK => ?_)
 go_simp
 refine (MemR_any T1 a s L vs m (hRz.below hbT1) (by omega)).mono ?_
 rintro e w1 ⟨rfl, hbT2⟩
 rw [hat.out]
 have hbT := hbT1.trans (hbT2.mono hbT1.size)
 refine hK _ _ ⟨hbT, ?_⟩
 clear hK K
 try go_frame
 apply tkD 6 hbT rfl
 ·intro T hT
  go_simp
  try rfl
 try go_frame
 refine wpAnyD_done (by kernel_rfl) ?_ _
 replace hC := hC.below hbT
 replace hRz := hRz.below hbT
 replace hB := hB.trans (hbT.mono hB.size)
 clear zb hb0 hbT hbT1 hbT2 hw0
 have hbxl : bx < w1.heap.size := blk_lt hC.box
 have hbzl : bz < w1.heap.size := blk_lt hC.z
 have hIz := hI.and hR.lt hbx0 hbz0
 have hNz := far_and hN hB.size hbxl hbzl
 have hbox := hC.box
 have hz := hC.z
 have zk := hC.op.ck
 rw [hk] at zk
 have zd := hC.op.cd
 have zr := hC.op.cr
 go_upto_region 9 with fail
 go_wp2_with (first | (refine wpList_load_row rfl 60 _ rfl bx rfl 60 _ (0, 0) _ hbox Tryd.underlying60 rfl (rfC_info _ _ _) ?_) | fail)
 refine (comesR_any (fun b => P b ∧ b ≠ bx ∧ b ≠ bz) w1 a s L vs o.d o.r kk hRz hs hIz hNz).mono ?_
 rintro e w2 ⟨a', L', rfl, hR2, hI2, hb2⟩
 obtain ⟨vs', hvs⟩ : ∃ vs', vs = vs' := ⟨_, rfl⟩
 have hV2 := hV.comes o.d o.r
 obtain ⟨S, hS⟩ : ∃ S, Hid (s.comes o.d o.r = S) := ⟨_, Lib.hid rfl⟩
 rw [hS.out] at hR2 hV2 ⊢
 rw [hvs] at hR2 hV2 ⊢
 replace hz := hz.below hb2
 have hB2 := hB.trans (hb2.mono hB.size)
 have hst : Hid (s.act o i = S) := Lib.hid (by unfold RS.act; rw [if_neg (by rw [hk]; decide), if_pos hk]; exact hS.out)
 replace hvs := Lib.hid hvs
 go_wp2_with (first | (refine wpList_store_row rfl 60 _ _ rfl bz _ rfl rfl 60 rZ hz (rfC_info _ _ _) rfl (rfC_one _ _ _) ?_) | fail)
 refine bodyPost_ret (v := .agg (rfC a' S vs'.length)) ?_ rfl ?_
 ·exact results_cell_row rfl _ _ bz 60 _ (0, 0) _ rfl (setRow_heap _ _ _ _ _ _ hz) Tryd.underlying60 rfl (rfC_info _ _ _)
 ·have hBf := belowSetRow (cs := rfC a' S vs'.length) hB2 hbz0
  rw [hst.out]
  exact ⟨a', L', vs', rfl, hR2.setRow (hI2.mono fun _ h => h.2.2), hV2, hI2.mono fun _ h => h.1, hBf⟩
set_option maxRecDepth 100000 in
set_option maxHeartbeats 16000000 in
theorem DoR_9 (P : Nat → Prop) (w : World) (a : RfV) (s : RS) (L : List ME) (vs : List VI) (o : OpI) (gp : Option Addr) (gc : Nat) (i : Idn) (kk : Nat) (hR : RfAt w a s L vs) (hV : VsOk s vs) (hs : s.Ok kk) (hkk : kk ≤ 1000) (hI : RfIn P a L) (hN : ∀ b, w.heap.size ≤ b → P b) (hU : UI w gp o.gs.length o.gs) (hg : ∀ q, gp = some q → P q.block) (hgl : LtP w.heap.size gp) (hi : (kk : Int) < i.s) (hk : o.k = 9) :
  Calls Tryd.prog 29 #[.agg (rfC a s vs.length), .agg (opC o gp gc), .agg #[.int .i64 i.b, .int .i64 i.s, .int .u64 i.u]] w fun e w' => ∃ a' L' vs', e = .returned (.agg (rfC a' (s.act o i) vs'.length)) ∧ RfAt w' a' (s.act o i) L' vs' ∧ VsOk (s.act o i) vs' ∧ RfIn P a' L' ∧ Below w.heap.size w w' := by
 have hfm := hs.fewM
 have hbx := Below.lit w (.cells (rfC a s vs.length) 60)
 have hRz := hR.below hbx
 obtain ⟨wb, hwb, hBx⟩ := nameW (p := fun W => RfBox W w.heap.size a s vs.length) (RfBox.made w a s vs.length)
 rw [hwb.out] at hbx hRz
 obtain ⟨bx, hbxn⟩ : ∃ bx, Hid (w.heap.size = bx) := ⟨_, Lib.hid rfl⟩
 have hbx0 : w.heap.size ≤ bx := by rw [hbxn.out]; exact Nat.le_refl _
 rw [hbxn.out] at hBx
 have hB := hbx
 have hbo := Below.lit wb (.cells (opC o gp gc) 42)
 obtain ⟨wo, hwo, hOo⟩ := nameW (p := fun W => OpAt W wb.heap.size o gp gc) (OpAt.made wb o gp gc)
 rw [hwo.out] at hbo
 have hbox1 : wb.heap.size ≠ bx := by have := blk_lt hBx; omega
 obtain ⟨bo, hbon⟩ : ∃ bo, Hid (wb.heap.size = bo) := ⟨_, Lib.hid rfl⟩
 rw [hbon.out] at hOo hbox1
 replace hBx := hBx.below hbo
 replace hRz := hRz.below hbo
 replace hB := hB.trans (hbo.mono hB.size)
 have hbi := Below.lit wo (.cells #[.int .i64 i.b, .int .i64 i.s, .int .u64 i.u] 34)
 obtain ⟨wi, hwi, hIi⟩ := nameW (p := fun W => IdAt W wo.heap.size i) (IdAt.made wo i)
 rw [hwi.out] at hbi
 have hbix1 : wo.heap.size ≠ bx := by have := blk_lt hBx; omega
 obtain ⟨bi, hbin⟩ : ∃ bi, Hid (wo.heap.size = bi) := ⟨_, Lib.hid rfl⟩
 rw [hbin.out] at hIi hbix1
 replace hBx := hBx.below hbi
 replace hOo := hOo.below hbi (cell_lt hOo.cb)
 replace hRz := hRz.below hbi
 replace hB := hB.trans (hbi.mono hB.size)
 have hbz := Below.lit wi (.cells rZ 60)
 obtain ⟨wz, hwz, hZ⟩ := nameW (p := fun W => ZBox W wi.heap.size) (ZBox.made wi)
 rw [hwz.out] at hbz
 have hbzx : wi.heap.size ≠ bx := by have := blk_lt hBx; omega
 have hbz0 : w.heap.size ≤ wi.heap.size := hB.size
 obtain ⟨bz, hbzn⟩ : ∃ bz, Hid (wi.heap.size = bz) := ⟨_, Lib.hid rfl⟩
 rw [hbzn.out] at hZ hbzx hbz0
 have hC : DC wz bx bo bi bz a s vs.length o gp gc i := ⟨hBx.below hbz, hOo.below hbz (cell_lt hOo.cb), hIi.below hbz, hZ⟩
 replace hRz := hRz.below hbz
 replace hB := hB.trans (hbz.mono hB.size)
 clear hbx hbo hbi hbz hBx hOo hIi hZ
 go_enter Tryd.func29, Tryd.ntmps29
 go_upto_region 1 with (first | (rw [hwb.out]) | (rw [hwo.out]) | (rw [hwi.out]) | (rw [hwz.out]) | (refine wpL_allocT 60 rZ rfl rfl (zero_R _) ?_; simp only [Act.put, List.setIfInBounds_toArray, List.set_cons_succ, List.set_cons_zero]) | fail)
 rw [hbxn.out, hbon.out, hbin.out, hbzn.out]
 obtain ⟨m, hm⟩ : ∃ m, Hid (ofD o.b = m) := ⟨_, Lib.hid rfl⟩
 obtain ⟨at_, hat⟩ : ∃ x, Hid (memI s m = x) := ⟨_, Lib.hid rfl⟩
 obtain ⟨wd, hwd⟩ : ∃ wd, Hid (wz.drew = wd) := ⟨_, Lib.hid rfl⟩
 have hw0 : Below wz.heap.size wz wd := by rw [← hwd.out]; exact (Below.refl _ _).drew
 replace hC := hC.below hw0
 replace hRz := hRz.below hw0
 replace hB := hB.trans (hw0.mono hB.size)
 have zb := hC.op.cb
 have hb0 : Below wd.heap.size wd wd := Below.refl _ _
 refine wp_region_D (D := fun T => Below wd.heap.size wd T) (by kernel_rfl) ?_
 rw [hwd.out]
 change wpAnyD _ _ _ _ _ 7 _ _ _
 apply tkD 0 hb0 rfl
 ·intro T hT
  exact run_loadR (hC.box.below hT) rfl rfl
 try go_frame
 apply tkD 1 hb0 rfl
 ·intro T hT
  exact run_loadR (hC.box.below hT) rfl rfl
 try go_frame
 apply tkD 2 hb0 rfl
 ·intro T hT
  have hT0 := (hT.cell (cell_lt zb)).trans zb
  go_simp
  try rfl
 try go_frame
 apply tkD 3 hb0 rfl
 ·intro T hT
  have hT0 := (hT.cell (cell_lt zb)).trans zb
  go_simp
  try rfl
 try go_frame
 refine oneD 4 (by kernel_rfl) rfl (by kernel_rfl) (fun K hK => ?_)
 go_simp
 refine (OfR_any wd a.pc a.cc _ _ _ _ _ o.b hRz.cards).mono ?_
 rintro e T1 ⟨rfl, hbT1⟩
 rw [hm.out]
 refine hK _ _ ⟨hbT1, ?_⟩
 clear hK K
 try go_frame
 refine oneD 5 (by kernel_rfl) rfl (by kernel_rfl) (fun K hK => ?_)
 go_simp
 refine (MemR_any T1 a s L vs m (hRz.below hbT1) (by omega)).mono ?_
 rintro e w1 ⟨rfl, hbT2⟩
 rw [hat.out]
 have hbT := hbT1.trans (hbT2.mono hbT1.size)
 refine hK _ _ ⟨hbT, ?_⟩
 clear hK K
 try go_frame
 apply tkD 6 hbT rfl
 ·intro T hT
  go_simp
  try rfl
 try go_frame
 refine wpAnyD_done (by kernel_rfl) ?_ _
 replace hC := hC.below hbT
 replace hRz := hRz.below hbT
 replace hB := hB.trans (hbT.mono hB.size)
 clear zb hb0 hbT hbT1 hbT2 hw0
 have hbxl : bx < w1.heap.size := blk_lt hC.box
 have hbzl : bz < w1.heap.size := blk_lt hC.z
 have hIz := hI.and hR.lt hbx0 hbz0
 have hNz := far_and hN hB.size hbxl hbzl
 have hbox := hC.box
 have hz := hC.z
 have zk := hC.op.ck
 rw [hk] at zk
 have hop := hC.op
 have hid := hC.idn
 go_upto_region 30 with fail
 go_wp2_with (first
  | (refine wpList_load_row rfl 60 _ rfl bx rfl 60 _ (0, 0) _ hbox Tryd.underlying60 rfl (rfC_info _ _ _) ?_)
  | (refine wpList_load_row rfl 42 _ rfl bo rfl 42 (opC o gp gc) (0, 0) _ hop Tryd.underlying42 rfl (by kernel_rfl) ?_)
  | (refine wpList_load_row rfl 34 _ rfl bi rfl 34 _ (0, 0) _ hid Tryd.underlying34 rfl (by kernel_rfl) ?_)
  | fail)
 refine (gdR_any (fun b => P b ∧ b ≠ bx ∧ b ≠ bz) w1 a s L vs o gp gc i kk hRz hV hs hkk hIz hNz (hU.below hB) (fun q e => ⟨hg q e, by have := hgl q e; omega, by have := hgl q e; omega⟩) (fun q e => Nat.lt_of_lt_of_le (hgl q e) hB.size) hi).mono ?_
 rintro e w2 ⟨a', L', vs', rfl, hR2, hV2, hI2, hb2⟩
 obtain ⟨S, hS⟩ : ∃ S, Hid (s.doGuard o i = S) := ⟨_, Lib.hid rfl⟩
 rw [hS.out] at hR2 hV2 ⊢
 replace hz := hz.below hb2
 have hB2 := hB.trans (hb2.mono hB.size)
 have hst : Hid (s.act o i = S) := Lib.hid (by unfold RS.act; rw [if_neg (by rw [hk]; decide), if_neg (by rw [hk]; decide), if_neg (by rw [hk]; decide), if_neg (by rw [hk]; decide), if_pos hk]; exact hS.out)
 go_wp2_with (first | (refine wpList_store_row rfl 60 _ _ rfl bz _ rfl rfl 60 rZ hz (rfC_info _ _ _) rfl (rfC_one _ _ _) ?_) | fail)
 refine bodyPost_ret (v := .agg (rfC a' S vs'.length)) ?_ rfl ?_
 ·exact results_cell_row rfl _ _ bz 60 _ (0, 0) _ rfl (setRow_heap _ _ _ _ _ _ hz) Tryd.underlying60 rfl (rfC_info _ _ _)
 ·have hBf := belowSetRow (cs := rfC a' S vs'.length) hB2 hbz0
  rw [hst.out]
  exact ⟨a', L', vs', rfl, hR2.setRow (hI2.mono fun _ h => h.2.2), hV2, hI2.mono fun _ h => h.1, hBf⟩
set_option maxRecDepth 100000 in
set_option maxHeartbeats 16000000 in
theorem DoR_11 (P : Nat → Prop) (w : World) (a : RfV) (s : RS) (L : List ME) (vs : List VI) (o : OpI) (gp : Option Addr) (gc : Nat) (i : Idn) (kk : Nat) (hR : RfAt w a s L vs) (hV : VsOk s vs) (hs : s.Ok kk) (hkk : kk ≤ 1000) (hI : RfIn P a L) (hN : ∀ b, w.heap.size ≤ b → P b) (hk : o.k = 11) :
  Calls Tryd.prog 29 #[.agg (rfC a s vs.length), .agg (opC o gp gc), .agg #[.int .i64 i.b, .int .i64 i.s, .int .u64 i.u]] w fun e w' => ∃ a' L' vs', e = .returned (.agg (rfC a' (s.act o i) vs'.length)) ∧ RfAt w' a' (s.act o i) L' vs' ∧ VsOk (s.act o i) vs' ∧ RfIn P a' L' ∧ Below w.heap.size w w' := by
 have hfm := hs.fewM
 have hbx := Below.lit w (.cells (rfC a s vs.length) 60)
 have hRz := hR.below hbx
 obtain ⟨wb, hwb, hBx⟩ := nameW (p := fun W => RfBox W w.heap.size a s vs.length) (RfBox.made w a s vs.length)
 rw [hwb.out] at hbx hRz
 obtain ⟨bx, hbxn⟩ : ∃ bx, Hid (w.heap.size = bx) := ⟨_, Lib.hid rfl⟩
 have hbx0 : w.heap.size ≤ bx := by rw [hbxn.out]; exact Nat.le_refl _
 rw [hbxn.out] at hBx
 have hB := hbx
 have hbo := Below.lit wb (.cells (opC o gp gc) 42)
 obtain ⟨wo, hwo, hOo⟩ := nameW (p := fun W => OpAt W wb.heap.size o gp gc) (OpAt.made wb o gp gc)
 rw [hwo.out] at hbo
 have hbox1 : wb.heap.size ≠ bx := by have := blk_lt hBx; omega
 obtain ⟨bo, hbon⟩ : ∃ bo, Hid (wb.heap.size = bo) := ⟨_, Lib.hid rfl⟩
 rw [hbon.out] at hOo hbox1
 replace hBx := hBx.below hbo
 replace hRz := hRz.below hbo
 replace hB := hB.trans (hbo.mono hB.size)
 have hbi := Below.lit wo (.cells #[.int .i64 i.b, .int .i64 i.s, .int .u64 i.u] 34)
 obtain ⟨wi, hwi, hIi⟩ := nameW (p := fun W => IdAt W wo.heap.size i) (IdAt.made wo i)
 rw [hwi.out] at hbi
 have hbix1 : wo.heap.size ≠ bx := by have := blk_lt hBx; omega
 obtain ⟨bi, hbin⟩ : ∃ bi, Hid (wo.heap.size = bi) := ⟨_, Lib.hid rfl⟩
 rw [hbin.out] at hIi hbix1
 replace hBx := hBx.below hbi
 replace hOo := hOo.below hbi (cell_lt hOo.cb)
 replace hRz := hRz.below hbi
 replace hB := hB.trans (hbi.mono hB.size)
 have hbz := Below.lit wi (.cells rZ 60)
 obtain ⟨wz, hwz, hZ⟩ := nameW (p := fun W => ZBox W wi.heap.size) (ZBox.made wi)
 rw [hwz.out] at hbz
 have hbzx : wi.heap.size ≠ bx := by have := blk_lt hBx; omega
 have hbz0 : w.heap.size ≤ wi.heap.size := hB.size
 obtain ⟨bz, hbzn⟩ : ∃ bz, Hid (wi.heap.size = bz) := ⟨_, Lib.hid rfl⟩
 rw [hbzn.out] at hZ hbzx hbz0
 have hC : DC wz bx bo bi bz a s vs.length o gp gc i := ⟨hBx.below hbz, hOo.below hbz (cell_lt hOo.cb), hIi.below hbz, hZ⟩
 replace hRz := hRz.below hbz
 replace hB := hB.trans (hbz.mono hB.size)
 clear hbx hbo hbi hbz hBx hOo hIi hZ
 go_enter Tryd.func29, Tryd.ntmps29
 go_upto_region 1 with (first | (rw [hwb.out]) | (rw [hwo.out]) | (rw [hwi.out]) | (rw [hwz.out]) | (refine wpL_allocT 60 rZ rfl rfl (zero_R _) ?_; simp only [Act.put, List.setIfInBounds_toArray, List.set_cons_succ, List.set_cons_zero]) | fail)
 rw [hbxn.out, hbon.out, hbin.out, hbzn.out]
 obtain ⟨m, hm⟩ : ∃ m, Hid (ofD o.b = m) := ⟨_, Lib.hid rfl⟩
 obtain ⟨at_, hat⟩ : ∃ x, Hid (memI s m = x) := ⟨_, Lib.hid rfl⟩
 obtain ⟨wd, hwd⟩ : ∃ wd, Hid (wz.drew = wd) := ⟨_, Lib.hid rfl⟩
 have hw0 : Below wz.heap.size wz wd := by rw [← hwd.out]; exact (Below.refl _ _).drew
 replace hC := hC.below hw0
 replace hRz := hRz.below hw0
 replace hB := hB.trans (hw0.mono hB.size)
 have zb := hC.op.cb
 have hb0 : Below wd.heap.size wd wd := Below.refl _ _
 refine wp_region_D (D := fun T => Below wd.heap.size wd T) (by kernel_rfl) ?_
 rw [hwd.out]
 change wpAnyD _ _ _ _ _ 7 _ _ _
 apply tkD 0 hb0 rfl
 ·intro T hT
  exact run_loadR (hC.box.below hT) rfl rfl
 try go_frame
 apply tkD 1 hb0 rfl
 ·intro T hT
  exact run_loadR (hC.box.below hT) rfl rfl
 try go_frame
 apply tkD 2 hb0 rfl
 ·intro T hT
  have hT0 := (hT.cell (cell_lt zb)).trans zb
  go_simp
  try rfl
 try go_frame
 apply tkD 3 hb0 rfl
 ·intro T hT
  have hT0 := (hT.cell (cell_lt zb)).trans zb
  go_simp
  try rfl
 try go_frame
 refine oneD 4 (by kernel_rfl) rfl (by kernel_rfl) (fun K hK => ?_)
 go_simp
 refine (OfR_any wd a.pc a.cc _ _ _ _ _ o.b hRz.cards).mono ?_
 rintro e T1 ⟨rfl, hbT1⟩
 rw [hm.out]
 refine hK _ _ ⟨hbT1, ?_⟩
 clear hK K
 try go_frame
 refine oneD 5 (by kernel_rfl) rfl (by kernel_rfl) (fun K hK => ?_)
 go_simp
 refine (MemR_any T1 a s L vs m (hRz.below hbT1) (by omega)).mono ?_
 rintro e w1 ⟨rfl, hbT2⟩
 rw [hat.out]
 have hbT := hbT1.trans (hbT2.mono hbT1.size)
 refine hK _ _ ⟨hbT, ?_⟩
 clear hK K
 try go_frame
 apply tkD 6 hbT rfl
 ·intro T hT
  go_simp
  try rfl
 try go_frame
 refine wpAnyD_done (by kernel_rfl) ?_ _
 replace hC := hC.below hbT
 replace hRz := hRz.below hbT
 replace hB := hB.trans (hbT.mono hB.size)
 clear zb hb0 hbT hbT1 hbT2 hw0
 have hbxl : bx < w1.heap.size := blk_lt hC.box
 have hbzl : bz < w1.heap.size := blk_lt hC.z
 have hIz := hI.and hR.lt hbx0 hbz0
 have hNz := far_and hN hB.size hbxl hbzl
 have hbox := hC.box
 have hz := hC.z
 have zk := hC.op.ck
 rw [hk] at zk
 have hop := hC.op
 go_upto_region 32 with fail
 go_wp2_with (first
  | (refine wpList_load_row rfl 60 _ rfl bx rfl 60 _ (0, 0) _ hbox Tryd.underlying60 rfl (rfC_info _ _ _) ?_)
  | (refine wpList_load_row rfl 42 _ rfl bo rfl 42 (opC o gp gc) (0, 0) _ hop Tryd.underlying42 rfl (by kernel_rfl) ?_)
  | fail)
 refine (voR_any (fun b => P b ∧ b ≠ bx ∧ b ≠ bz) w1 a s L vs o gp gc kk hRz hV hs hkk hIz hNz).mono ?_
 rintro e w2 ⟨a', L', vs', rfl, hR2, hV2, hI2, hb2⟩
 obtain ⟨S, hS⟩ : ∃ S, Hid (s.doVouch o = S) := ⟨_, Lib.hid rfl⟩
 rw [hS.out] at hR2 hV2 ⊢
 replace hz := hz.below hb2
 have hB2 := hB.trans (hb2.mono hB.size)
 have hst : Hid (s.act o i = S) := Lib.hid (by unfold RS.act; rw [if_neg (by rw [hk]; decide), if_neg (by rw [hk]; decide), if_neg (by rw [hk]; decide), if_neg (by rw [hk]; decide), if_neg (by rw [hk]; decide), if_pos hk]; exact hS.out)
 go_wp2_with (first | (refine wpList_store_row rfl 60 _ _ rfl bz _ rfl rfl 60 rZ hz (rfC_info _ _ _) rfl (rfC_one _ _ _) ?_) | fail)
 refine bodyPost_ret (v := .agg (rfC a' S vs'.length)) ?_ rfl ?_
 ·exact results_cell_row rfl _ _ bz 60 _ (0, 0) _ rfl (setRow_heap _ _ _ _ _ _ hz) Tryd.underlying60 rfl (rfC_info _ _ _)
 ·have hBf := belowSetRow (cs := rfC a' S vs'.length) hB2 hbz0
  rw [hst.out]
  exact ⟨a', L', vs', rfl, hR2.setRow (hI2.mono fun _ h => h.2.2), hV2, hI2.mono fun _ h => h.1, hBf⟩
set_option maxRecDepth 100000 in
set_option maxHeartbeats 16000000 in
theorem DoR_no (P : Nat → Prop) (w : World) (a : RfV) (s : RS) (L : List ME) (vs : List VI) (o : OpI) (gp : Option Addr) (gc : Nat) (i : Idn) (kk : Nat) (hR : RfAt w a s L vs) (hV : VsOk s vs) (hs : s.Ok kk) (hI : RfIn P a L) (hN : ∀ b, w.heap.size ≤ b → P b) (hk : ∀ c ∈ ([1, 2, 3, 5, 9, 11, 12, 13] : List Int), o.k ≠ c) :
  Calls Tryd.prog 29 #[.agg (rfC a s vs.length), .agg (opC o gp gc), .agg #[.int .i64 i.b, .int .i64 i.s, .int .u64 i.u]] w fun e w' => ∃ a' L' vs', e = .returned (.agg (rfC a' (s.act o i) vs'.length)) ∧ RfAt w' a' (s.act o i) L' vs' ∧ VsOk (s.act o i) vs' ∧ RfIn P a' L' ∧ Below w.heap.size w w' := by
 have hfm := hs.fewM
 have hbx := Below.lit w (.cells (rfC a s vs.length) 60)
 have hRz := hR.below hbx
 obtain ⟨wb, hwb, hBx⟩ := nameW (p := fun W => RfBox W w.heap.size a s vs.length) (RfBox.made w a s vs.length)
 rw [hwb.out] at hbx hRz
 obtain ⟨bx, hbxn⟩ : ∃ bx, Hid (w.heap.size = bx) := ⟨_, Lib.hid rfl⟩
 have hbx0 : w.heap.size ≤ bx := by rw [hbxn.out]; exact Nat.le_refl _
 rw [hbxn.out] at hBx
 have hB := hbx
 have hbo := Below.lit wb (.cells (opC o gp gc) 42)
 obtain ⟨wo, hwo, hOo⟩ := nameW (p := fun W => OpAt W wb.heap.size o gp gc) (OpAt.made wb o gp gc)
 rw [hwo.out] at hbo
 have hbox1 : wb.heap.size ≠ bx := by have := blk_lt hBx; omega
 obtain ⟨bo, hbon⟩ : ∃ bo, Hid (wb.heap.size = bo) := ⟨_, Lib.hid rfl⟩
 rw [hbon.out] at hOo hbox1
 replace hBx := hBx.below hbo
 replace hRz := hRz.below hbo
 replace hB := hB.trans (hbo.mono hB.size)
 have hbi := Below.lit wo (.cells #[.int .i64 i.b, .int .i64 i.s, .int .u64 i.u] 34)
 obtain ⟨wi, hwi, hIi⟩ := nameW (p := fun W => IdAt W wo.heap.size i) (IdAt.made wo i)
 rw [hwi.out] at hbi
 have hbix1 : wo.heap.size ≠ bx := by have := blk_lt hBx; omega
 obtain ⟨bi, hbin⟩ : ∃ bi, Hid (wo.heap.size = bi) := ⟨_, Lib.hid rfl⟩
 rw [hbin.out] at hIi hbix1
 replace hBx := hBx.below hbi
 replace hOo := hOo.below hbi (cell_lt hOo.cb)
 replace hRz := hRz.below hbi
 replace hB := hB.trans (hbi.mono hB.size)
 have hbz := Below.lit wi (.cells rZ 60)
 obtain ⟨wz, hwz, hZ⟩ := nameW (p := fun W => ZBox W wi.heap.size) (ZBox.made wi)
 rw [hwz.out] at hbz
 have hbzx : wi.heap.size ≠ bx := by have := blk_lt hBx; omega
 have hbz0 : w.heap.size ≤ wi.heap.size := hB.size
 obtain ⟨bz, hbzn⟩ : ∃ bz, Hid (wi.heap.size = bz) := ⟨_, Lib.hid rfl⟩
 rw [hbzn.out] at hZ hbzx hbz0
 have hC : DC wz bx bo bi bz a s vs.length o gp gc i := ⟨hBx.below hbz, hOo.below hbz (cell_lt hOo.cb), hIi.below hbz, hZ⟩
 replace hRz := hRz.below hbz
 replace hB := hB.trans (hbz.mono hB.size)
 clear hbx hbo hbi hbz hBx hOo hIi hZ
 go_enter Tryd.func29, Tryd.ntmps29
 go_upto_region 1 with (first | (rw [hwb.out]) | (rw [hwo.out]) | (rw [hwi.out]) | (rw [hwz.out]) | (refine wpL_allocT 60 rZ rfl rfl (zero_R _) ?_; simp only [Act.put, List.setIfInBounds_toArray, List.set_cons_succ, List.set_cons_zero]) | fail)
 rw [hbxn.out, hbon.out, hbin.out, hbzn.out]
 obtain ⟨m, hm⟩ : ∃ m, Hid (ofD o.b = m) := ⟨_, Lib.hid rfl⟩
 obtain ⟨at_, hat⟩ : ∃ x, Hid (memI s m = x) := ⟨_, Lib.hid rfl⟩
 obtain ⟨wd, hwd⟩ : ∃ wd, Hid (wz.drew = wd) := ⟨_, Lib.hid rfl⟩
 have hw0 : Below wz.heap.size wz wd := by rw [← hwd.out]; exact (Below.refl _ _).drew
 replace hC := hC.below hw0
 replace hRz := hRz.below hw0
 replace hB := hB.trans (hw0.mono hB.size)
 have zb := hC.op.cb
 have hb0 : Below wd.heap.size wd wd := Below.refl _ _
 refine wp_region_D (D := fun T => Below wd.heap.size wd T) (by kernel_rfl) ?_
 rw [hwd.out]
 change wpAnyD _ _ _ _ _ 7 _ _ _
 apply tkD 0 hb0 rfl
 ·intro T hT
  exact run_loadR (hC.box.below hT) rfl rfl
 try go_frame
 apply tkD 1 hb0 rfl
 ·intro T hT
  exact run_loadR (hC.box.below hT) rfl rfl
 try go_frame
 apply tkD 2 hb0 rfl
 ·intro T hT
  have hT0 := (hT.cell (cell_lt zb)).trans zb
  go_simp
  try rfl
 try go_frame
 apply tkD 3 hb0 rfl
 ·intro T hT
  have hT0 := (hT.cell (cell_lt zb)).trans zb
  go_simp
  try rfl
 try go_frame
 refine oneD 4 (by kernel_rfl) rfl (by kernel_rfl) (fun K hK => ?_)
 go_simp
 refine (OfR_any wd a.pc a.cc _ _ _ _ _ o.b hRz.cards).mono ?_
 rintro e T1 ⟨rfl, hbT1⟩
 rw [hm.out]
 refine hK _ _ ⟨hbT1, ?_⟩
 clear hK K
 try go_frame
 refine oneD 5 (by kernel_rfl) rfl (by kernel_rfl) (fun K hK => ?_)
 go_simp
 refine (MemR_any T1 a s L vs m (hRz.below hbT1) (by omega)).mono ?_
 rintro e w1 ⟨rfl, hbT2⟩
 rw [hat.out]
 have hbT := hbT1.trans (hbT2.mono hbT1.size)
 refine hK _ _ ⟨hbT, ?_⟩
 clear hK K
 try go_frame
 apply tkD 6 hbT rfl
 ·intro T hT
  go_simp
  try rfl
 try go_frame
 refine wpAnyD_done (by kernel_rfl) ?_ _
 replace hC := hC.below hbT
 replace hRz := hRz.below hbT
 replace hB := hB.trans (hbT.mono hB.size)
 clear zb hb0 hbT hbT1 hbT2 hw0
 have hbxl : bx < w1.heap.size := blk_lt hC.box
 have hbzl : bz < w1.heap.size := blk_lt hC.z
 have hIz := hI.and hR.lt hbx0 hbz0
 have hNz := far_and hN hB.size hbxl hbzl
 have hbox := hC.box
 have hz := hC.z
 have zk := hC.op.ck
 have n1 : (o.k == 1) = false := beq_eq_false_iff_ne.2 (hk 1 (by simp))
 have n2 : (o.k == 2) = false := beq_eq_false_iff_ne.2 (hk 2 (by simp))
 have n3 : (o.k == 3) = false := beq_eq_false_iff_ne.2 (hk 3 (by simp))
 have n5 : (o.k == 5) = false := beq_eq_false_iff_ne.2 (hk 5 (by simp))
 have n9 : (o.k == 9) = false := beq_eq_false_iff_ne.2 (hk 9 (by simp))
 have n11 : (o.k == 11) = false := beq_eq_false_iff_ne.2 (hk 11 (by simp))
 have n12 : (o.k == 12) = false := beq_eq_false_iff_ne.2 (hk 12 (by simp))
 have n13 : (o.k == 13) = false := beq_eq_false_iff_ne.2 (hk 13 (by simp))
 have hst : Hid (s.act o i = s) := Lib.hid (by unfold RS.act; rw [if_neg (hk 1 (by simp)), if_neg (hk 2 (by simp)), if_neg (hk 3 (by simp)), if_neg (hk 5 (by simp)), if_neg (hk 9 (by simp)), if_neg (hk 11 (by simp)), if_neg (hk 12 (by simp)), if_neg (hk 13 (by simp))])
 go_upto_region 44 with fail
 go_wp2_with (first | (refine wpList_load_row rfl 60 _ rfl bx rfl 60 _ (0, 0) _ hbox Tryd.underlying60 rfl (rfC_info _ _ _) ?_) | (refine wpList_store_row rfl 60 _ _ rfl bz _ rfl rfl 60 rZ hz (rfC_info _ _ _) rfl (rfC_one _ _ _) ?_) | fail)
 refine bodyPost_ret (v := .agg (rfC a s vs.length)) ?_ rfl ?_
 ·exact results_cell_row rfl _ _ bz 60 _ (0, 0) _ rfl (setRow_heap _ _ _ _ _ _ hz) Tryd.underlying60 rfl (rfC_info _ _ _)
 ·have hBf := belowSetRow (cs := rfC a s vs.length) hB hbz0
  rw [hst.out]
  exact ⟨a, L, vs, rfl, hR.below hBf, hV, hI, hBf⟩
end Go.Proofs.YtkolilbebkkpdaaDoor

namespace Go.Proofs.YtkolilbebkkpdaaDoor
open Go.RowKit Go.Maps Go.BigFrame
attribute [local go_sem] in_gr

set_option maxRecDepth 100000 in
set_option maxHeartbeats 16000000 in
theorem DoR_1 (P : Nat → Prop) (w : World) (a : RfV) (s : RS) (L : List ME) (vs : List VI) (o : OpI) (gp : Option Addr) (gc : Nat) (i : Idn) (kk : Nat) (hR : RfAt w a s L vs) (hV : VsOk s vs) (hs : s.Ok kk) (hI : RfIn P a L) (hN : ∀ b, w.heap.size ≤ b → P b) (hk : o.k = 1) :
  Calls Tryd.prog 29 #[.agg (rfC a s vs.length), .agg (opC o gp gc), .agg #[.int .i64 i.b, .int .i64 i.s, .int .u64 i.u]] w fun e w' => ∃ a' L' vs', e = .returned (.agg (rfC a' (s.act o i) vs'.length)) ∧ RfAt w' a' (s.act o i) L' vs' ∧ VsOk (s.act o i) vs' ∧ RfIn P a' L' ∧ Below w.heap.size w w' := by
 have hfm := hs.fewM
 have hbx := Below.lit w (.cells (rfC a s vs.length) 60)
 have hRz := hR.below hbx
 obtain ⟨wb, hwb, hBx⟩ := nameW (p := fun W => RfBox W w.heap.size a s vs.length) (RfBox.made w a s vs.length)
 rw [hwb.out] at hbx hRz
 obtain ⟨bx, hbxn⟩ : ∃ bx, Hid (w.heap.size = bx) := ⟨_, Lib.hid rfl⟩
 have hbx0 : w.heap.size ≤ bx := by rw [hbxn.out]; exact Nat.le_refl _
 rw [hbxn.out] at hBx
 have hB := hbx
 have hbo := Below.lit wb (.cells (opC o gp gc) 42)
 obtain ⟨wo, hwo, hOo⟩ := nameW (p := fun W => OpAt W wb.heap.size o gp gc) (OpAt.made wb o gp gc)
 rw [hwo.out] at hbo
 have hbox1 : wb.heap.size ≠ bx := by have := blk_lt hBx; omega
 obtain ⟨bo, hbon⟩ : ∃ bo, Hid (wb.heap.size = bo) := ⟨_, Lib.hid rfl⟩
 rw [hbon.out] at hOo hbox1
 replace hBx := hBx.below hbo
 replace hRz := hRz.below hbo
 replace hB := hB.trans (hbo.mono hB.size)
 have hbi := Below.lit wo (.cells #[.int .i64 i.b, .int .i64 i.s, .int .u64 i.u] 34)
 obtain ⟨wi, hwi, hIi⟩ := nameW (p := fun W => IdAt W wo.heap.size i) (IdAt.made wo i)
 rw [hwi.out] at hbi
 have hbix1 : wo.heap.size ≠ bx := by have := blk_lt hBx; omega
 obtain ⟨bi, hbin⟩ : ∃ bi, Hid (wo.heap.size = bi) := ⟨_, Lib.hid rfl⟩
 rw [hbin.out] at hIi hbix1
 replace hBx := hBx.below hbi
 replace hOo := hOo.below hbi (cell_lt hOo.cb)
 replace hRz := hRz.below hbi
 replace hB := hB.trans (hbi.mono hB.size)
 have hbz := Below.lit wi (.cells rZ 60)
 obtain ⟨wz, hwz, hZ⟩ := nameW (p := fun W => ZBox W wi.heap.size) (ZBox.made wi)
 rw [hwz.out] at hbz
 have hbzx : wi.heap.size ≠ bx := by have := blk_lt hBx; omega
 have hbz0 : w.heap.size ≤ wi.heap.size := hB.size
 obtain ⟨bz, hbzn⟩ : ∃ bz, Hid (wi.heap.size = bz) := ⟨_, Lib.hid rfl⟩
 rw [hbzn.out] at hZ hbzx hbz0
 have hC : DC wz bx bo bi bz a s vs.length o gp gc i := ⟨hBx.below hbz, hOo.below hbz (cell_lt hOo.cb), hIi.below hbz, hZ⟩
 replace hRz := hRz.below hbz
 replace hB := hB.trans (hbz.mono hB.size)
 clear hbx hbo hbi hbz hBx hOo hIi hZ
 go_enter Tryd.func29, Tryd.ntmps29
 go_upto_region 1 with (first | (rw [hwb.out]) | (rw [hwo.out]) | (rw [hwi.out]) | (rw [hwz.out]) | (refine wpL_allocT 60 rZ rfl rfl (zero_R _) ?_; simp only [Act.put, List.setIfInBounds_toArray, List.set_cons_succ, List.set_cons_zero]) | fail)
 rw [hbxn.out, hbon.out, hbin.out, hbzn.out]
 obtain ⟨m, hm⟩ : ∃ m, Hid (ofD o.b = m) := ⟨_, Lib.hid rfl⟩
 obtain ⟨at_, hat⟩ : ∃ x, Hid (memI s m = x) := ⟨_, Lib.hid rfl⟩
 obtain ⟨wd, hwd⟩ : ∃ wd, Hid (wz.drew = wd) := ⟨_, Lib.hid rfl⟩
 have hw0 : Below wz.heap.size wz wd := by rw [← hwd.out]; exact (Below.refl _ _).drew
 replace hC := hC.below hw0
 replace hRz := hRz.below hw0
 replace hB := hB.trans (hw0.mono hB.size)
 have zb := hC.op.cb
 have hb0 : Below wd.heap.size wd wd := Below.refl _ _
 refine wp_region_D (D := fun T => Below wd.heap.size wd T) (by kernel_rfl) ?_
 rw [hwd.out]
 change wpAnyD _ _ _ _ _ 7 _ _ _
 apply tkD 0 hb0 rfl
 ·intro T hT
  exact run_loadR (hC.box.below hT) rfl rfl
 try go_frame
 apply tkD 1 hb0 rfl
 ·intro T hT
  exact run_loadR (hC.box.below hT) rfl rfl
 try go_frame
 apply tkD 2 hb0 rfl
 ·intro T hT
  have hT0 := (hT.cell (cell_lt zb)).trans zb
  go_simp
  try rfl
 try go_frame
 apply tkD 3 hb0 rfl
 ·intro T hT
  have hT0 := (hT.cell (cell_lt zb)).trans zb
  go_simp
  try rfl
 try go_frame
 refine oneD 4 (by kernel_rfl) rfl (by kernel_rfl) (fun K hK => ?_)
 go_simp
 refine (OfR_any wd a.pc a.cc _ _ _ _ _ o.b hRz.cards).mono ?_
 rintro e T1 ⟨rfl, hbT1⟩
 rw [hm.out]
 refine hK _ _ ⟨hbT1, ?_⟩
 clear hK K
 try go_frame
 refine oneD 5 (by kernel_rfl) rfl (by kernel_rfl) (fun K hK => ?_)
 go_simp
 refine (MemR_any T1 a s L vs m (hRz.below hbT1) (by omega)).mono ?_
 rintro e w1 ⟨rfl, hbT2⟩
 rw [hat.out]
 have hbT := hbT1.trans (hbT2.mono hbT1.size)
 refine hK _ _ ⟨hbT, ?_⟩
 clear hK K
 try go_frame
 apply tkD 6 hbT rfl
 ·intro T hT
  go_simp
  try rfl
 try go_frame
 refine wpAnyD_done (by kernel_rfl) ?_ _
 replace hC := hC.below hbT
 replace hRz := hRz.below hbT
 replace hB := hB.trans (hbT.mono hB.size)
 clear zb hb0 hbT hbT1 hbT2 hw0
 have hbxl : bx < w1.heap.size := blk_lt hC.box
 have hbzl : bz < w1.heap.size := blk_lt hC.z
 have hIz := hI.and hR.lt hbx0 hbz0
 have hNz := far_and hN hB.size hbxl hbzl
 have hbox := hC.box
 have hz := hC.z
 have zk := hC.op.ck
 rw [hk] at zk
 have zb := hC.op.cb
 have zn := hC.op.cn
 have z1 := hC.box.c1
 have z2 := hC.box.c2
 have hact : s.act o i = s.doCreate o := by unfold RS.act; rw [if_pos hk]
 obtain ⟨n1, hn1⟩ : ∃ n, Hid (s.ins.length = n) := ⟨_, Lib.hid rfl⟩
 obtain ⟨n2, hn2⟩ : ∃ n, Hid (s.gone.length = n) := ⟨_, Lib.hid rfl⟩
 rw [hn1.out] at z1
 rw [hn2.out] at z2
 by_cases h1 : n1 = 0
 ·subst h1
  by_cases h2 : n2 = 0
  ·subst h2
   have hnil : s.ins ++ s.gone = [] := by rw [List.eq_nil_of_length_eq_zero hn1.out, List.eq_nil_of_length_eq_zero hn2.out]; rfl
   have hfr : s.fresh o.b = decide (0 < m) := by
    unfold RS.fresh RS.wasB
    rw [hnil, hm.out]
    simp
   go_upto_region 4 with fail
   go_wp2_with (first | (refine wpL_loadRG _ rfl bx rfl hbox (by kernel_rfl) ?_) | fail)
   refine (OfR_any w1 a.pc a.cc _ _ _ _ _ o.b hRz.cards).mono ?_
   rintro e w2 ⟨rfl, hb2⟩
   rw [hm.out]
   replace hC := hC.below hb2
   replace hRz := hRz.below hb2
   replace hB := hB.trans (hb2.mono hB.size)
   replace hbox := hC.box
   replace hz := hC.z
   replace zb := hC.op.cb
   replace zn := hC.op.cn
   by_cases hm0 : m = 0
   ·have t1 : (m == 0) = true := beq_iff_eq.2 hm0
    have hst : Hid (s.act o i = s) := Lib.hid (by rw [hact]; unfold RS.doCreate; rw [if_neg]; rintro ⟨_, h⟩; rw [hfr, hm0] at h; simp at h)
    replace hm0 := Lib.hid hm0
    replace hfr := Lib.hid hfr
    replace hnil := Lib.hid hnil
    replace hact := Lib.hid hact
    go_wp2_with (first | (refine wpList_load_row rfl 60 _ rfl bx rfl 60 _ (0, 0) _ hbox Tryd.underlying60 rfl (rfC_info _ _ _) ?_) | (refine wpList_store_row rfl 60 _ _ rfl bz _ rfl rfl 60 rZ hz (rfC_info _ _ _) rfl (rfC_one _ _ _) ?_) | fail)
    refine bodyPost_ret (v := .agg (rfC a s vs.length)) ?_ rfl ?_
    ·exact results_cell_row rfl _ _ bz 60 _ (0, 0) _ rfl (setRow_heap _ _ _ _ _ _ hz) Tryd.underlying60 rfl (rfC_info _ _ _)
    ·have hBf := belowSetRow (cs := rfC a s vs.length) hB hbz0
     rw [hst.out]
     exact ⟨a, L, vs, rfl, hR.below hBf, hV, hI, hBf⟩
   ·have t1 : (m == 0) = false := beq_eq_false_iff_ne.2 hm0
    have hmb := ofD_bd o.b
    have hst1 : s.act o i = ⟨(s.comes o.b 3).ins, (s.comes o.b 3).gone, (s.comes o.b 3).ms, o.n⟩ := by
     rw [hact]; unfold RS.doCreate; rw [if_pos ⟨hnil, by rw [hfr]; rw [hm.out] at hmb; exact decide_eq_true (by omega)⟩]
    have hV2 := hV.comes o.b 3
    obtain ⟨S, hS⟩ : ∃ S, Hid (s.comes o.b 3 = S) := ⟨_, Lib.hid rfl⟩
    rw [hS.out] at hst1 hV2
    replace hst1 := Lib.hid hst1
    replace hm0 := Lib.hid hm0
    replace hfr := Lib.hid hfr
    replace hnil := Lib.hid hnil
    replace hact := Lib.hid hact
    replace hV2 := Lib.hid hV2
    clear hmb
    go_upto_region 6 with fail
    go_wp2_with (first | (refine wpList_load_row rfl 60 _ rfl bx rfl 60 _ (0, 0) _ hbox Tryd.underlying60 rfl (rfC_info _ _ _) ?_) | fail)
    refine (comesR_any (fun b => P b ∧ b ≠ bx ∧ b ≠ bz) w2 a s L vs o.b 3 kk hRz hs hIz (fun b hb => hNz b (Nat.le_trans hb2.size hb))).mono ?_
    rintro e w3 ⟨a', L', rfl, hR3, hI3, hb3⟩
    rw [hS.out] at hR3 ⊢
    have hC3 := hC.below hb3
    have hB3 := hB.trans (hb3.mono hB.size)
    have hboxs := hC3.box
    obtain ⟨w4, hw4, hbox4⟩ := nameW (p := fun W => RfBox W bx a' S vs.length) (setRow_heap w3 bx _ (rfC a' S vs.length) _ _ hboxs)
    have hR4 : RfAt w4 a' S L' vs := by rw [← hw4.out]; exact hR3.setRow (hI3.mono fun _ h => h.2.1)
    have hk4 : ∀ j, j < w3.heap.size → j ≠ bx → w4.heap[j]? = w3.heap[j]? := fun j _ hne => by rw [← hw4.out]; exact setRow_other w3 bx j _ hne
    have hC4 := hC3.store hk4 hbox1 hbix1 hbzx hbox4
    have hB4 : Below w.heap.size w w4 := by rw [← hw4.out]; exact belowSetRow hB3 hbx0 _
    have zn4 := hC4.op.cn
    have y4 := hbox4.c4
    have f4 := hbox4.free 4
    obtain ⟨w5, hw5, hbox5⟩ := nameW (p := fun W => RfBox W bx a' ⟨S.ins, S.gone, S.ms, o.n⟩ vs.length) (hbox4.setB o.n)
    have hR5 : RfAt w5 a' S L' vs := by rw [← hw5.out]; exact hR4.setCell (hI3.mono fun _ h => h.2.1)
    have hk5 : ∀ j, j < w4.heap.size → j ≠ bx → w5.heap[j]? = w4.heap[j]? := fun j hj hne => by rw [← hw5.out]; exact setCell_keep hj hne
    have hz5 : ZBox w5 bz := hC4.z.keep (hk5 bz (blk_lt hC4.z) hbzx)
    have hB5 : Below w.heap.size w w5 := by rw [← hw5.out]; exact hB4.trans (setCell_below hbx0 hB4.size)
    have hR6 : RfAt w5 a' ⟨S.ins, S.gone, S.ms, o.n⟩ L' vs := hR5.row rfl (List.Perm.refl _) rfl
    replace hk4 := Lib.hid hk4
    replace hk5 := Lib.hid hk5
    clear zb zn z1 z2
    go_upto_region 7 with (first | (refine wpList_store_row rfl 60 _ _ rfl bx _ rfl rfl 60 _ hboxs (rfC_info _ _ _) rfl (rfC_one _ _ _) ?_) | fail)
    rw [hw4.out]
    go_upto_region 44 with (first | (rw [hw5.out]) | fail)
    replace hbox := hbox5
    replace hz := hz5
    go_wp2_with (first | (refine wpList_load_row rfl 60 _ rfl bx rfl 60 _ (0, 0) _ hbox Tryd.underlying60 rfl (rfC_info _ _ _) ?_) | (refine wpList_store_row rfl 60 _ _ rfl bz _ rfl rfl 60 rZ hz (rfC_info _ _ _) rfl (rfC_one _ _ _) ?_) | fail)
    refine bodyPost_ret (v := .agg (rfC a' ⟨S.ins, S.gone, S.ms, o.n⟩ vs.length)) ?_ rfl ?_
    ·exact results_cell_row rfl _ _ bz 60 _ (0, 0) _ rfl (setRow_heap _ _ _ _ _ _ hz) Tryd.underlying60 rfl (rfC_info _ _ _)
    ·have hBf := belowSetRow (cs := rfC a' ⟨S.ins, S.gone, S.ms, o.n⟩ vs.length) hB5 hbz0
     rw [hst1.out]
     exact ⟨a', L', vs, rfl, hR6.setRow (hI3.mono fun _ h => h.2.2), hV2.out.row rfl, hI3.mono fun _ h => h.1, hBf⟩
  ·have t1 : decide ((0 : Int) < (n2 : Int)) = true := decide_eq_true (by omega)
   have t2 : decide (0 < n2) = true := decide_eq_true (by omega)
   have hst : Hid (s.act o i = s) := Lib.hid (by rw [hact]; unfold RS.doCreate; rw [if_neg]; rintro ⟨h, _⟩; rw [List.append_eq_nil_iff] at h; exact h2 (by rw [← hn2.out, h.2]; rfl))
   replace h2 := Lib.hid h2
   replace hact := Lib.hid hact
   go_upto_region 5 with fail
   go_wp2_with (first | (refine wpList_load_row rfl 60 _ rfl bx rfl 60 _ (0, 0) _ hbox Tryd.underlying60 rfl (rfC_info _ _ _) ?_) | (refine wpList_store_row rfl 60 _ _ rfl bz _ rfl rfl 60 rZ hz (rfC_info _ _ _) rfl (rfC_one _ _ _) ?_) | fail)
   refine bodyPost_ret (v := .agg (rfC a s vs.length)) ?_ rfl ?_
   ·exact results_cell_row rfl _ _ bz 60 _ (0, 0) _ rfl (setRow_heap _ _ _ _ _ _ hz) Tryd.underlying60 rfl (rfC_info _ _ _)
   ·have hBf := belowSetRow (cs := rfC a s vs.length) hB hbz0
    rw [hst.out]
    exact ⟨a, L, vs, rfl, hR.below hBf, hV, hI, hBf⟩
 ·have t1 : decide ((0 : Int) < (n1 : Int)) = true := decide_eq_true (by omega)
  have t2 : decide (0 < n1) = true := decide_eq_true (by omega)
  have hst : Hid (s.act o i = s) := Lib.hid (by rw [hact]; unfold RS.doCreate; rw [if_neg]; rintro ⟨h, _⟩; rw [List.append_eq_nil_iff] at h; exact h1 (by rw [← hn1.out, h.1]; rfl))
  replace h1 := Lib.hid h1
  replace hact := Lib.hid hact
  go_upto_region 5 with fail
  go_wp2_with (first | (refine wpList_load_row rfl 60 _ rfl bx rfl 60 _ (0, 0) _ hbox Tryd.underlying60 rfl (rfC_info _ _ _) ?_) | (refine wpList_store_row rfl 60 _ _ rfl bz _ rfl rfl 60 rZ hz (rfC_info _ _ _) rfl (rfC_one _ _ _) ?_) | fail)
  refine bodyPost_ret (v := .agg (rfC a s vs.length)) ?_ rfl ?_
  ·exact results_cell_row rfl _ _ bz 60 _ (0, 0) _ rfl (setRow_heap _ _ _ _ _ _ hz) Tryd.underlying60 rfl (rfC_info _ _ _)
  ·have hBf := belowSetRow (cs := rfC a s vs.length) hB hbz0
   rw [hst.out]
   exact ⟨a, L, vs, rfl, hR.below hBf, hV, hI, hBf⟩
end Go.Proofs.YtkolilbebkkpdaaDoor

namespace Go.Proofs.YtkolilbebkkpdaaDoor
open Go.RowKit Go.Maps Go.BigFrame
attribute [local go_sem] in_gr

/-- Where the loop that lets devices go stands. -/
structure LoopSt (P : Nat → Prop) (w wr : World) (bx bo bi bz : Nat) (S : RS) (a : RfV) (L : List ME) (vs : List VI) (o : OpI) (gp : Option Addr) (gc : Nat) (i : Idn) (pa : Option Addr) (n : Nat) (xs : List Int) : Prop where
 dc : DC wr bx bo bi bz a S vs.length o gp gc i
 rf : RfAt wr a S L vs
 vo : VsOk S vs
 ri : RfIn P a L
 be : Below w.heap.size w wr
 ua : UI wr pa n xs
theorem LoopSt.below {P : Nat → Prop} {w wr W : World} {bx bo bi bz : Nat} {S : RS} {a : RfV} {L : List ME} {vs : List VI} {o : OpI} {gp : Option Addr} {gc : Nat} {i : Idn} {pa : Option Addr} {n : Nat} {xs : List Int} (h : LoopSt P w wr bx bo bi bz S a L vs o gp gc i pa n xs) (hb : Below wr.heap.size wr W) : LoopSt P w W bx bo bi bz S a L vs o gp gc i pa n xs :=
 ⟨h.dc.below hb, h.rf.below hb, h.vo, h.ri, h.be.trans (hb.mono h.be.size), h.ua.below hb⟩
def memF (m : Int) (l : List Int) : List Int := l.filter fun e => decide (ofD e = m)
theorem memF_snoc (m : Int) (l : List Int) (e : Int) : memF m (l ++ [e]) = if ofD e = m then memF m l ++ [e] else memF m l := by
 unfold memF
 rw [List.filter_append]
 by_cases h : ofD e = m
 ·rw [if_pos h]; simp [h]
 ·rw [if_neg h]; simp [h]
set_option maxRecDepth 100000 in
set_option maxHeartbeats 16000000 in
theorem DoR_3a (P : Nat → Prop) (w : World) (a : RfV) (s : RS) (L : List ME) (vs : List VI) (o : OpI) (gp : Option Addr) (gc : Nat) (i : Idn) (kk : Nat) (hR : RfAt w a s L vs) (hV : VsOk s vs) (hs : s.Ok kk) (hkk : kk ≤ 1000) (hI : RfIn P a L) (hN : ∀ b, w.heap.size ≤ b → P b) (hk : o.k = 3) (hd : o.d ≠ 0) (hdb : 0 ≤ o.d ∧ o.d ≤ 1000000) :
  Calls Tryd.prog 29 #[.agg (rfC a s vs.length), .agg (opC o gp gc), .agg #[.int .i64 i.b, .int .i64 i.s, .int .u64 i.u]] w fun e w' => ∃ a' L' vs', e = .returned (.agg (rfC a' (s.act o i) vs'.length)) ∧ RfAt w' a' (s.act o i) L' vs' ∧ VsOk (s.act o i) vs' ∧ RfIn P a' L' ∧ Below w.heap.size w w' := by
 have hfm := hs.fewM
 have hbx := Below.lit w (.cells (rfC a s vs.length) 60)
 have hRz := hR.below hbx
 obtain ⟨wb, hwb, hBx⟩ := nameW (p := fun W => RfBox W w.heap.size a s vs.length) (RfBox.made w a s vs.length)
 rw [hwb.out] at hbx hRz
 obtain ⟨bx, hbxn⟩ : ∃ bx, Hid (w.heap.size = bx) := ⟨_, Lib.hid rfl⟩
 have hbx0 : w.heap.size ≤ bx := by rw [hbxn.out]; exact Nat.le_refl _
 rw [hbxn.out] at hBx
 have hB := hbx
 have hbo := Below.lit wb (.cells (opC o gp gc) 42)
 obtain ⟨wo, hwo, hOo⟩ := nameW (p := fun W => OpAt W wb.heap.size o gp gc) (OpAt.made wb o gp gc)
 rw [hwo.out] at hbo
 have hbox1 : wb.heap.size ≠ bx := by have := blk_lt hBx; omega
 obtain ⟨bo, hbon⟩ : ∃ bo, Hid (wb.heap.size = bo) := ⟨_, Lib.hid rfl⟩
 rw [hbon.out] at hOo hbox1
 replace hBx := hBx.below hbo
 replace hRz := hRz.below hbo
 replace hB := hB.trans (hbo.mono hB.size)
 have hbi := Below.lit wo (.cells #[.int .i64 i.b, .int .i64 i.s, .int .u64 i.u] 34)
 obtain ⟨wi, hwi, hIi⟩ := nameW (p := fun W => IdAt W wo.heap.size i) (IdAt.made wo i)
 rw [hwi.out] at hbi
 have hbix1 : wo.heap.size ≠ bx := by have := blk_lt hBx; omega
 obtain ⟨bi, hbin⟩ : ∃ bi, Hid (wo.heap.size = bi) := ⟨_, Lib.hid rfl⟩
 rw [hbin.out] at hIi hbix1
 replace hBx := hBx.below hbi
 replace hOo := hOo.below hbi (cell_lt hOo.cb)
 replace hRz := hRz.below hbi
 replace hB := hB.trans (hbi.mono hB.size)
 have hbz := Below.lit wi (.cells rZ 60)
 obtain ⟨wz, hwz, hZ⟩ := nameW (p := fun W => ZBox W wi.heap.size) (ZBox.made wi)
 rw [hwz.out] at hbz
 have hbzx : wi.heap.size ≠ bx := by have := blk_lt hBx; omega
 have hbz0 : w.heap.size ≤ wi.heap.size := hB.size
 obtain ⟨bz, hbzn⟩ : ∃ bz, Hid (wi.heap.size = bz) := ⟨_, Lib.hid rfl⟩
 rw [hbzn.out] at hZ hbzx hbz0
 have hC : DC wz bx bo bi bz a s vs.length o gp gc i := ⟨hBx.below hbz, hOo.below hbz (cell_lt hOo.cb), hIi.below hbz, hZ⟩
 replace hRz := hRz.below hbz
 replace hB := hB.trans (hbz.mono hB.size)
 clear hbx hbo hbi hbz hBx hOo hIi hZ
 go_enter Tryd.func29, Tryd.ntmps29
 go_upto_region 1 with (first | (rw [hwb.out]) | (rw [hwo.out]) | (rw [hwi.out]) | (rw [hwz.out]) | (refine wpL_allocT 60 rZ rfl rfl (zero_R _) ?_; simp only [Act.put, List.setIfInBounds_toArray, List.set_cons_succ, List.set_cons_zero]) | fail)
 rw [hbxn.out, hbon.out, hbin.out, hbzn.out]
 obtain ⟨m, hm⟩ : ∃ m, Hid (ofD o.b = m) := ⟨_, Lib.hid rfl⟩
 obtain ⟨at_, hat⟩ : ∃ x, Hid (memI s m = x) := ⟨_, Lib.hid rfl⟩
 obtain ⟨wd, hwd⟩ : ∃ wd, Hid (wz.drew = wd) := ⟨_, Lib.hid rfl⟩
 have hw0 : Below wz.heap.size wz wd := by rw [← hwd.out]; exact (Below.refl _ _).drew
 replace hC := hC.below hw0
 replace hRz := hRz.below hw0
 replace hB := hB.trans (hw0.mono hB.size)
 have zb := hC.op.cb
 have hb0 : Below wd.heap.size wd wd := Below.refl _ _
 refine wp_region_D (D := fun T => Below wd.heap.size wd T) (by kernel_rfl) ?_
 rw [hwd.out]
 change wpAnyD _ _ _ _ _ 7 _ _ _
 apply tkD 0 hb0 rfl
 ·intro T hT
  exact run_loadR (hC.box.below hT) rfl rfl
 try go_frame
 apply tkD 1 hb0 rfl
 ·intro T hT
  exact run_loadR (hC.box.below hT) rfl rfl
 try go_frame
 apply tkD 2 hb0 rfl
 ·intro T hT
  have hT0 := (hT.cell (cell_lt zb)).trans zb
  go_simp
  try rfl
 try go_frame
 apply tkD 3 hb0 rfl
 ·intro T hT
  have hT0 := (hT.cell (cell_lt zb)).trans zb
  go_simp
  try rfl
 try go_frame
 refine oneD 4 (by kernel_rfl) rfl (by kernel_rfl) (fun K hK => ?_)
 go_simp
 refine (OfR_any wd a.pc a.cc _ _ _ _ _ o.b hRz.cards).mono ?_
 rintro e T1 ⟨rfl, hbT1⟩
 rw [hm.out]
 refine hK _ _ ⟨hbT1, ?_⟩
 clear hK K
 try go_frame
 refine oneD 5 (by kernel_rfl) rfl (by kernel_rfl) (fun K hK => ?_)
 go_simp
 refine (MemR_any T1 a s L vs m (hRz.below hbT1) (by omega)).mono ?_
 rintro e w1 ⟨rfl, hbT2⟩
 rw [hat.out]
 have hbT := hbT1.trans (hbT2.mono hbT1.size)
 refine hK _ _ ⟨hbT, ?_⟩
 clear hK K
 try go_frame
 apply tkD 6 hbT rfl
 ·intro T hT
  go_simp
  try rfl
 try go_frame
 refine wpAnyD_done (by kernel_rfl) ?_ _
 replace hC := hC.below hbT
 replace hRz := hRz.below hbT
 replace hB := hB.trans (hbT.mono hB.size)
 clear zb hb0 hbT hbT1 hbT2 hw0
 have hbxl : bx < w1.heap.size := blk_lt hC.box
 have hbzl : bz < w1.heap.size := blk_lt hC.z
 have hIz := hI.and hR.lt hbx0 hbz0
 have hNz := far_and hN hB.size hbxl hbzl
 have hbox := hC.box
 have hz := hC.z
 have zk := hC.op.ck
 rw [hk] at zk
 have zd := hC.op.cd
 have hact : s.act o i = goL s [o.d] := by unfold RS.act; rw [if_neg (by rw [hk]; decide), if_neg (by rw [hk]; decide), if_pos hk, if_pos hd]; rfl
 have hbl := Below.lit w1 (.cells #[.int .i64 o.d] 3)
 have hown := (Arr.new w1 3 [.int .i64 o.d])
 have hua0 : UI (w1.alloc (.cells #[.int .i64 o.d] 3)) (some ⟨w1.heap.size, 0, none⟩) 1 [o.d] := by
  refine ⟨rfl, .inr ⟨w1.heap.size, 0, rfl, fun k hk => ?_⟩, fun x hx => by rw [List.mem_singleton] at hx; subst hx; omega⟩
  have hk0 : k = 0 := by simp at hk; omega
  subst hk0
  exact hown.cell (i := 0) (by simp)
 obtain ⟨w2, hw2, hua⟩ := nameW (p := fun W => UI W (some ⟨w1.heap.size, 0, none⟩) 1 [o.d]) hua0
 rw [hw2.out] at hbl
 obtain ⟨pa, hpan⟩ : ∃ pa, Hid ((some ⟨w1.heap.size, 0, none⟩ : Option Addr) = pa) := ⟨_, Lib.hid rfl⟩
 have hpx : ∀ q, pa = some q → q.block ≠ bx := fun q e => by rw [← hpan.out] at e; injection e with e; subst e; show w1.heap.size ≠ bx; omega
 obtain ⟨n, hn⟩ : ∃ n, Hid ((1 : Nat) = n) := ⟨_, Lib.hid rfl⟩
 obtain ⟨xs, hxs⟩ : ∃ xs, Hid ([o.d] = xs) := ⟨_, Lib.hid rfl⟩
 rw [hpan.out, hn.out, hxs.out] at hua
 rw [hxs.out] at hact
 have hL0 : LoopSt (fun b => P b ∧ b ≠ bx ∧ b ≠ bz) w w2 bx bo bi bz (goL s (xs.take 0)) a L vs o gp gc i pa n xs :=
  ⟨hC.below hbl, hRz.below hbl, hV, hIz, hB.trans (hbl.mono hB.size), hua⟩
 have hnb : n ≤ 1000 := by rw [← hn.out]; decide
 have t1 : (o.d == 0) = false := beq_eq_false_iff_ne.2 hd
 have zd2 := (hbl.cell (cell_lt zd)).trans zd
 replace hL0 := Lib.hid hL0
 replace hd := Lib.hid hd
 replace hact := Lib.hid hact
 clear hown hua0 hua hbox hz hC hRz hB
 go_upto_region 12 with (first | (rw [hw2.out]) | fail)
 rw [hpan.out, show (Value.slice pa 1 1) = Value.slice pa n 1 by rw [← hn.out]]
 go_upto_region 19 with fail
 go_wp2_with fail
 go_loopw [10] (fun jv wr => ∃ (j : Nat) (a' : RfV) (L' : List ME) (vs' : List VI), j ≤ n ∧ jv = .int .i64 j ∧ Hid (LoopSt (fun b => P b ∧ b ≠ bx ∧ b ≠ bz) w wr bx bo bi bz (goL s (xs.take j)) a' L' vs' o gp gc i pa n xs)) (fun jv _ => n - (intOf jv).toNat)
 case atStart => exact ⟨0, a, L, vs, Nat.zero_le _, rfl, hL0⟩
 case round =>
  obtain ⟨j, a1, L1, vs1, hj, rfl, hS⟩ := hrel
  by_cases hlt : j < n
  ·obtain ⟨b, off, hpa', _, cx, _⟩ := hS.out.ua.look hlt
   obtain ⟨x, hx⟩ : ∃ x, Hid (nth xs j = x) := ⟨_, Lib.hid rfl⟩
   rw [hx.out] at cx
   have hxl : j < xs.length := by rw [hS.out.ua.len]; exact hlt
   have htk : goL s (xs.take (j + 1)) = (goL s (xs.take j)).goes x := by
    rw [List.take_add_one, List.getElem?_eq_getElem hxl, ← goL_snoc, ← hx.out, nth_eq hxl]; rfl
   have hok := goL_ok (xs.take j) s hs
   obtain ⟨S, hSn⟩ : ∃ S, Hid (goL s (xs.take j) = S) := ⟨_, Lib.hid rfl⟩
   rw [hSn.out] at hS htk hok
   have hix1 : (0 : Int) ≤ (j : Int) := by omega
   have hix2 : (j : Int) < (n : Int) := by omega
   replace htk := Lib.hid htk
   replace hok := Lib.hid hok
   replace hpa' := Lib.hid hpa'
   have hSl := hpa'.out
   subst hSl
   go_upto_region 22 with fail
   obtain ⟨we, hwe⟩ : ∃ we, Hid (wr.drew = we) := ⟨_, Lib.hid rfl⟩
   have hw1 : Below wr.heap.size wr we := by rw [← hwe.out]; exact (Below.refl _ _).drew
   replace cx := (hw1.cell (cell_lt cx)).trans cx
   have hSd := Lib.hid (hS.out.below hw1)
   have hboxd := hSd.out.dc.box
   have hbxe : bx < we.heap.size := blk_lt hboxd
   have hbze : bz < we.heap.size := blk_lt hSd.out.dc.z
   have hwe0 : w.heap.size ≤ we.heap.size := hSd.out.be.size
   have hb1 : Below we.heap.size we we := Below.refl _ _
   replace hboxd := Lib.hid hboxd
   refine wp_region_E (D := fun T => Below we.heap.size we T) 6 (by kernel_rfl) ?_
   rw [hwe.out]
   change wpAnyE _ _ _ _ _ _ 7 _ _ _
   apply tkE 0 hb1 rfl
   ·intro T hT
    exact run_loadR (hboxd.out.below hT) rfl rfl
   try go_frame
   apply tkE 1 hb1 rfl
   ·intro T hT
    go_simp
    try rfl
   try go_frame
   apply tkE 2 hb1 rfl
   ·intro T hT
    go_simp
    try rfl
   try go_frame
   apply tkE 3 hb1 rfl
   ·intro T hT
    go_simp
    try rfl
   try go_frame
   apply tkE 4 hb1 rfl
   ·intro T hT
    have hT0 := (hT.cell (cell_lt cx)).trans cx
    go_simp
    try rfl
   try go_frame
   refine oneE 5 (by kernel_rfl) rfl (by kernel_rfl) (fun K hK => ?_)
   go_simp
   refine (goesR_any (fun b => P b ∧ b ≠ bx ∧ b ≠ bz) we a1 S L1 vs1 x kk hSd.out.rf hSd.out.vo hok.out hkk hSd.out.ri (far_and hN hwe0 hbxe hbze)).mono ?_
   rintro e T ⟨a2, L2, vs2, rfl, hR2, hV2, hI2, hbT⟩
   rw [← htk.out] at hR2 hV2 ⊢
   refine hK _ _ ⟨.inr hbT, ?_⟩
   clear hK K
   try go_frame
   have hdT := hSd.out.dc.below hbT
   have hboxs := hdT.box
   refine oneE 6 (by kernel_rfl) rfl (by kernel_rfl) (fun K hK => ?_)
   refine wp_store_row 60 _ _ rfl bx _ rfl rfl 60 _ hboxs (rfC_info _ _ _) rfl (rfC_one _ _ _) ?_
   refine hK _ _ ⟨.inl rfl, ?_⟩
   clear hK K
   try go_frame
   refine wpAnyE_done (by kernel_rfl) ?_ _
   obtain ⟨wg, hwg, hboxg⟩ := nameW (p := fun W => RfBox W bx a2 (goL s (xs.take (j + 1))) vs2.length) (setRow_heap T bx _ (rfC a2 (goL s (xs.take (j + 1))) vs2.length) _ _ hboxs)
   have hkg : ∀ j, j < T.heap.size → j ≠ bx → wg.heap[j]? = T.heap[j]? := fun j _ hne => by rw [← hwg.out]; exact setRow_other T bx j _ hne
   have hnew : LoopSt (fun b => P b ∧ b ≠ bx ∧ b ≠ bz) w wg bx bo bi bz (goL s (xs.take (j + 1))) a2 L2 vs2 o gp gc i (some ⟨b, off, none⟩) n xs :=
    ⟨hdT.store hkg hbox1 hbix1 hbzx hboxg, by rw [← hwg.out]; exact hR2.setRow (hI2.mono fun _ h => h.2.1), hV2, hI2, by rw [← hwg.out]; exact belowSetRow (hSd.out.be.trans (hbT.mono hwe0)) hbx0 _, (hSd.out.ua.below hbT).other hkg hpx⟩
   replace hnew := Lib.hid hnew
   replace hkg := Lib.hid hkg
   replace hR2 := Lib.hid hR2
   replace hV2 := Lib.hid hV2
   go_wp2_with (first | (rw [hwg.out]) | fail)
   go_roundw
   case rel => exact ⟨j + 1, a2, L2, vs2, by omega, by go_num, hnew⟩
   case measure => simp [intOf]; omega
  ·have hjn : xs.take j = xs := List.take_of_length_le (by rw [hS.out.ua.len]; omega)
   rw [hjn] at hS
   have hbox := hS.out.dc.box
   have hz := hS.out.dc.z
   have hB := hS.out.be
   have hR2 := hS.out.rf
   have hV2 := hS.out.vo
   have hI2 := hS.out.ri
   replace hS := Lib.hid hS
   replace hjn := Lib.hid hjn
   go_upto_region 44 with fail
   go_wp2_with (first | (refine wpList_load_row rfl 60 _ rfl bx rfl 60 _ (0, 0) _ hbox Tryd.underlying60 rfl (rfC_info _ _ _) ?_) | (refine wpList_store_row rfl 60 _ _ rfl bz _ rfl rfl 60 rZ hz (rfC_info _ _ _) rfl (rfC_one _ _ _) ?_) | fail)
   refine bodyPost_ret (v := .agg (rfC a1 (goL s xs) vs1.length)) ?_ rfl ?_
   ·exact results_cell_row rfl _ _ bz 60 _ (0, 0) _ rfl (setRow_heap _ _ _ _ _ _ hz) Tryd.underlying60 rfl (rfC_info _ _ _)
   ·have hBf := belowSetRow (cs := rfC a1 (goL s xs) vs1.length) hB hbz0
    rw [hact.out]
    exact ⟨a1, L1, vs1, rfl, hR2.setRow (hI2.mono fun _ h => h.2.2), hV2, hI2.mono fun _ h => h.1, hBf⟩
set_option maxRecDepth 100000 in
set_option maxHeartbeats 16000000 in
theorem DoR_3b (P : Nat → Prop) (w : World) (a : RfV) (s : RS) (L : List ME) (vs : List VI) (o : OpI) (gp : Option Addr) (gc : Nat) (i : Idn) (kk : Nat) (hR : RfAt w a s L vs) (hV : VsOk s vs) (hs : s.Ok kk) (hkk : kk ≤ 1000) (hI : RfIn P a L) (hN : ∀ b, w.heap.size ≤ b → P b) (hk : o.k = 3) (hd : o.d = 0) :
  Calls Tryd.prog 29 #[.agg (rfC a s vs.length), .agg (opC o gp gc), .agg #[.int .i64 i.b, .int .i64 i.s, .int .u64 i.u]] w fun e w' => ∃ a' L' vs', e = .returned (.agg (rfC a' (s.act o i) vs'.length)) ∧ RfAt w' a' (s.act o i) L' vs' ∧ VsOk (s.act o i) vs' ∧ RfIn P a' L' ∧ Below w.heap.size w w' := by
 have hfm := hs.fewM
 have hfw := hs.few
 rw [List.length_append] at hfw
 have hbx := Below.lit w (.cells (rfC a s vs.length) 60)
 have hRz := hR.below hbx
 obtain ⟨wb, hwb, hBx⟩ := nameW (p := fun W => RfBox W w.heap.size a s vs.length) (RfBox.made w a s vs.length)
 rw [hwb.out] at hbx hRz
 obtain ⟨bx, hbxn⟩ : ∃ bx, Hid (w.heap.size = bx) := ⟨_, Lib.hid rfl⟩
 have hbx0 : w.heap.size ≤ bx := by rw [hbxn.out]; exact Nat.le_refl _
 rw [hbxn.out] at hBx
 have hB := hbx
 have hbo := Below.lit wb (.cells (opC o gp gc) 42)
 obtain ⟨wo, hwo, hOo⟩ := nameW (p := fun W => OpAt W wb.heap.size o gp gc) (OpAt.made wb o gp gc)
 rw [hwo.out] at hbo
 have hbox1 : wb.heap.size ≠ bx := by have := blk_lt hBx; omega
 obtain ⟨bo, hbon⟩ : ∃ bo, Hid (wb.heap.size = bo) := ⟨_, Lib.hid rfl⟩
 rw [hbon.out] at hOo hbox1
 replace hBx := hBx.below hbo
 replace hRz := hRz.below hbo
 replace hB := hB.trans (hbo.mono hB.size)
 have hbi := Below.lit wo (.cells #[.int .i64 i.b, .int .i64 i.s, .int .u64 i.u] 34)
 obtain ⟨wi, hwi, hIi⟩ := nameW (p := fun W => IdAt W wo.heap.size i) (IdAt.made wo i)
 rw [hwi.out] at hbi
 have hbix1 : wo.heap.size ≠ bx := by have := blk_lt hBx; omega
 obtain ⟨bi, hbin⟩ : ∃ bi, Hid (wo.heap.size = bi) := ⟨_, Lib.hid rfl⟩
 rw [hbin.out] at hIi hbix1
 replace hBx := hBx.below hbi
 replace hOo := hOo.below hbi (cell_lt hOo.cb)
 replace hRz := hRz.below hbi
 replace hB := hB.trans (hbi.mono hB.size)
 have hbz := Below.lit wi (.cells rZ 60)
 obtain ⟨wz, hwz, hZ⟩ := nameW (p := fun W => ZBox W wi.heap.size) (ZBox.made wi)
 rw [hwz.out] at hbz
 have hbzx : wi.heap.size ≠ bx := by have := blk_lt hBx; omega
 have hbz0 : w.heap.size ≤ wi.heap.size := hB.size
 obtain ⟨bz, hbzn⟩ : ∃ bz, Hid (wi.heap.size = bz) := ⟨_, Lib.hid rfl⟩
 rw [hbzn.out] at hZ hbzx hbz0
 have hC : DC wz bx bo bi bz a s vs.length o gp gc i := ⟨hBx.below hbz, hOo.below hbz (cell_lt hOo.cb), hIi.below hbz, hZ⟩
 replace hRz := hRz.below hbz
 replace hB := hB.trans (hbz.mono hB.size)
 clear hbx hbo hbi hbz hBx hOo hIi hZ
 go_enter Tryd.func29, Tryd.ntmps29
 go_upto_region 1 with (first | (rw [hwb.out]) | (rw [hwo.out]) | (rw [hwi.out]) | (rw [hwz.out]) | (refine wpL_allocT 60 rZ rfl rfl (zero_R _) ?_; simp only [Act.put, List.setIfInBounds_toArray, List.set_cons_succ, List.set_cons_zero]) | fail)
 rw [hbxn.out, hbon.out, hbin.out, hbzn.out]
 obtain ⟨m, hm⟩ : ∃ m, Hid (ofD o.b = m) := ⟨_, Lib.hid rfl⟩
 obtain ⟨at_, hat⟩ : ∃ x, Hid (memI s m = x) := ⟨_, Lib.hid rfl⟩
 obtain ⟨wd, hwd⟩ : ∃ wd, Hid (wz.drew = wd) := ⟨_, Lib.hid rfl⟩
 have hw0 : Below wz.heap.size wz wd := by rw [← hwd.out]; exact (Below.refl _ _).drew
 replace hC := hC.below hw0
 replace hRz := hRz.below hw0
 replace hB := hB.trans (hw0.mono hB.size)
 have zb := hC.op.cb
 have hb0 : Below wd.heap.size wd wd := Below.refl _ _
 refine wp_region_D (D := fun T => Below wd.heap.size wd T) (by kernel_rfl) ?_
 rw [hwd.out]
 change wpAnyD _ _ _ _ _ 7 _ _ _
 apply tkD 0 hb0 rfl
 ·intro T hT
  exact run_loadR (hC.box.below hT) rfl rfl
 try go_frame
 apply tkD 1 hb0 rfl
 ·intro T hT
  exact run_loadR (hC.box.below hT) rfl rfl
 try go_frame
 apply tkD 2 hb0 rfl
 ·intro T hT
  have hT0 := (hT.cell (cell_lt zb)).trans zb
  go_simp
  try rfl
 try go_frame
 apply tkD 3 hb0 rfl
 ·intro T hT
  have hT0 := (hT.cell (cell_lt zb)).trans zb
  go_simp
  try rfl
 try go_frame
 refine oneD 4 (by kernel_rfl) rfl (by kernel_rfl) (fun K hK => ?_)
 go_simp
 refine (OfR_any wd a.pc a.cc _ _ _ _ _ o.b hRz.cards).mono ?_
 rintro e T1 ⟨rfl, hbT1⟩
 rw [hm.out]
 refine hK _ _ ⟨hbT1, ?_⟩
 clear hK K
 try go_frame
 refine oneD 5 (by kernel_rfl) rfl (by kernel_rfl) (fun K hK => ?_)
 go_simp
 refine (MemR_any T1 a s L vs m (hRz.below hbT1) (by omega)).mono ?_
 rintro e w1 ⟨rfl, hbT2⟩
 rw [hat.out]
 have hbT := hbT1.trans (hbT2.mono hbT1.size)
 refine hK _ _ ⟨hbT, ?_⟩
 clear hK K
 try go_frame
 apply tkD 6 hbT rfl
 ·intro T hT
  go_simp
  try rfl
 try go_frame
 refine wpAnyD_done (by kernel_rfl) ?_ _
 replace hC := hC.below hbT
 replace hRz := hRz.below hbT
 replace hB := hB.trans (hbT.mono hB.size)
 clear zb hb0 hbT hbT1 hbT2 hw0
 have hbxl : bx < w1.heap.size := blk_lt hC.box
 have hbzl : bz < w1.heap.size := blk_lt hC.z
 have hIz := hI.and hR.lt hbx0 hbz0
 have hNz := far_and hN hB.size hbxl hbzl
 have hbox := hC.box
 have hz := hC.z
 have zk := hC.op.ck
 rw [hk] at zk
 have zd := hC.op.cd
 rw [hd] at zd
 have hact : s.act o i = s.goAll o.m (sortI s.ins) := by unfold RS.act; rw [if_neg (by rw [hk]; decide), if_neg (by rw [hk]; decide), if_pos hk, if_neg (fun h => h hd)]
 have hrow := goAll_row hs o.m
 rw [← hact] at hrow
 have z1 := hC.box.c1
 have hbl := Below.lit w1 (.cells #[.int .i64 0] 3)
 obtain ⟨w2, hw2⟩ : ∃ w2, Hid (w1.alloc (.cells #[.int .i64 0] 3) = w2) := ⟨_, Lib.hid rfl⟩
 rw [hw2.out] at hbl
 have zd2 := (hbl.cell (cell_lt zd)).trans zd
 have z12 := (hbl.cell (cell_lt z1)).trans z1
 have hC2 := Lib.hid (hC.below hbl)
 have hR2 := Lib.hid (hRz.below hbl)
 have hB2 := Lib.hid (hB.trans (hbl.mono hB.size))
 have hUi := Lib.hid (hRz.below hbl).ins
 have hbx2 : bx < w2.heap.size := Nat.lt_of_lt_of_le hbxl hbl.size
 replace hd := Lib.hid hd
 replace hact := Lib.hid hact
 replace hrow := Lib.hid hrow
 obtain ⟨ni, hni⟩ : ∃ n, Hid (s.ins.length = n) := ⟨_, Lib.hid rfl⟩
 rw [hni.out] at hUi z1 z12 hfw
 clear hbox hz hC hRz hB
 go_upto_region 12 with (first | (rw [hw2.out]) | fail)
 go_upto_region 14 with fail
 go_wp2_with fail
 go_loopw [8, 9] (fun v iv wr => ∃ (j : Nat), j ≤ ni ∧ iv = .int .i64 j ∧ OwnI wr w2.heap.size v (memF o.m (s.ins.take j)).length (memF o.m (s.ins.take j)) ∧ Hid (Below w2.heap.size w2 wr)) (fun _ iv _ => ni - (intOf iv).toNat)
 case atStart => exact ⟨0, Nat.zero_le _, rfl, OwnI.nil _ _, Lib.hid (Below.refl _ _)⟩
 case round =>
  obtain ⟨j, hj, rfl, hown, hbr⟩ := hrel
  have z1 := (hC2.out.below hbr.out).box.c1
  rw [hni.out] at z1
  have hlen7 : (memF o.m (s.ins.take j)).length ≤ 7 := by
   unfold memF
   refine Nat.le_trans (List.length_filter_le ..) ?_
   rw [List.length_take]; omega
  by_cases hlt : j < ni
  ·obtain ⟨b, off, hpi, _, cx, hc0, hc1⟩ := (hUi.out.below hbr.out).look hlt
   have hix1 : (0 : Int) ≤ (j : Int) := by omega
   have hix2 : (j : Int) < (ni : Int) := by omega
   have hjl : j < s.ins.length := by rw [hni.out]; exact hlt
   have htk : s.ins.take (j + 1) = s.ins.take j ++ [nth s.ins j] := by rw [List.take_add_one, List.getElem?_eq_getElem hjl, ← nth_eq hjl]; rfl
   obtain ⟨y, hy⟩ : ∃ y, Hid (nth s.ins j = y) := ⟨_, Lib.hid rfl⟩
   rw [hy.out] at cx hc0 hc1 htk
   have hsn := memF_snoc o.m (s.ins.take j) y
   rw [← htk] at hsn
   obtain ⟨ys, hys⟩ : ∃ ys, Hid (memF o.m (s.ins.take j) = ys) := ⟨_, Lib.hid rfl⟩
   rw [hys.out] at hsn hown hlen7
   obtain ⟨oy, hoy⟩ : ∃ oy, Hid (ofD y = oy) := ⟨_, Lib.hid rfl⟩
   rw [hoy.out] at hsn
   rw [hpi] at z1
   replace hpi := Lib.hid hpi
   replace hsn := Lib.hid hsn
   replace htk := Lib.hid htk
   replace hown := Lib.hid hown
   have zm := (hC2.out.below hbr.out).op.cm
   go_upto_region 17 with fail
   obtain ⟨we, hwe⟩ : ∃ we, Hid (wr.drew = we) := ⟨_, Lib.hid rfl⟩
   have hw1 : Below wr.heap.size wr we := by rw [← hwe.out]; exact (Below.refl _ _).drew
   replace z1 := (hw1.cell (cell_lt z1)).trans z1
   replace cx := (hw1.cell (cell_lt cx)).trans cx
   replace zm := (hw1.cell (cell_lt zm)).trans zm
   have hbe := Lib.hid (hbr.out.trans (hw1.mono hbr.out.size))
   have hboxe := Lib.hid (hC2.out.below hbe.out).box
   have hRe := Lib.hid (hR2.out.below hbe.out)
   have howne := Lib.hid (hown.out.below hw1)
   have hb1 : Below we.heap.size we we := Below.refl _ _
   refine wp_region_D (D := fun T => Below we.heap.size we T) (by kernel_rfl) ?_
   rw [hwe.out]
   change wpAnyD _ _ _ _ _ 10 _ _ _
   apply tkD 0 hb1 rfl
   ·intro T hT
    exact run_loadR (hboxe.out.below hT) rfl rfl
   try go_frame
   apply tkD 1 hb1 rfl
   ·intro T hT
    have hT0 := (hT.cell (cell_lt z1)).trans z1
    go_simp
    try rfl
   try go_frame
   apply tkD 2 hb1 rfl
   ·intro T hT
    have hT0 := (hT.cell (cell_lt z1)).trans z1
    go_simp
    try rfl
   try go_frame
   apply tkD 3 hb1 rfl
   ·intro T hT
    have hT0 := (hT.cell (cell_lt z1)).trans z1
    go_simp
    try rfl
   try go_frame
   apply tkD 4 hb1 rfl
   ·intro T hT
    have hT0 := (hT.cell (cell_lt z1)).trans z1
    go_simp
    try rfl
   try go_frame
   apply tkD 5 hb1 rfl
   ·intro T hT
    have hT0 := (hT.cell (cell_lt cx)).trans cx
    go_simp
    try rfl
   try go_frame
   apply tkD 7 hb1 rfl
   ·intro T hT
    go_simp
    try rfl
   try go_frame
   apply tkD 8 hb1 rfl
   ·intro T hT
    have hT0 := (hT.cell (cell_lt zm)).trans zm
    go_simp
    try rfl
   try go_frame
   refine oneD 6 (by kernel_rfl) rfl (by kernel_rfl) (fun K hK => ?_)
   go_simp
   refine (OfR_any we a.pc a.cc _ _ _ _ _ y hRe.out.cards).mono ?_
   rintro e T ⟨rfl, hbT⟩
   rw [hoy.out]
   refine hK _ _ ⟨hbT, ?_⟩
   clear hK K
   try go_frame
   have hbeT := Lib.hid (hbe.out.trans (hbT.mono hbe.out.size))
   have z1T := (hC2.out.below hbeT.out).box.c1
   rw [hni.out, hpi.out] at z1T
   have cxT := (hbT.cell (cell_lt cx)).trans cx
   have hownT := howne.out.below hbT
   have hzT : w2.heap.size ≤ T.heap.size := hbeT.out.size
   by_cases hom : oy = o.m
   ·have t1 : (oy == o.m) = true := beq_iff_eq.2 hom
    have e1 : Hid (memF o.m (s.ins.take (j + 1)) = ys ++ [y]) := Lib.hid (by rw [hsn.out, if_pos hom])
    replace hom := Lib.hid hom
    apply tkD 9 hbT rfl
    ·intro T hT
     go_simp
     try rfl
    try go_frame
    refine wpAnyD_done (by kernel_rfl) ?_ _
    go_wp2_with (first
     | (at_builtin; refine app_i rfl _ _ rfl hownT rfl (by rfl) ⟨hc0, hc1⟩ (by omega) hzT ?_; intro v4 w4 hown4 hb4)
     | fail)
    go_roundw
    case rel => exact ⟨j + 1, by omega, by go_num, by rw [e1.out, List.length_append]; exact hown4, Lib.hid (hbeT.out.trans hb4)⟩
    case measure => simp [intOf]; omega
   ·have t1 : (oy == o.m) = false := beq_eq_false_iff_ne.2 hom
    have e1 : Hid (memF o.m (s.ins.take (j + 1)) = ys) := Lib.hid (by rw [hsn.out, if_neg hom])
    replace hom := Lib.hid hom
    apply tkD 9 hbT rfl
    ·intro T hT
     go_simp
     try rfl
    try go_frame
    refine wpAnyD_done (by kernel_rfl) ?_ _
    go_wp2_with fail
    go_roundw
    case rel => exact ⟨j + 1, by omega, by go_num, by rw [e1.out]; exact hownT, hbeT⟩
    case measure => simp [intOf]; omega
  ·have hjn : s.ins.take j = s.ins := List.take_of_length_le (by rw [hni.out]; omega)
   rw [hjn] at hown hlen7
   obtain ⟨xs, hxs⟩ : ∃ xs, Hid (memF o.m s.ins = xs) := ⟨_, Lib.hid rfl⟩
   rw [hxs.out] at hown hlen7
   obtain ⟨n, hn⟩ : ∃ n, Hid (xs.length = n) := ⟨_, Lib.hid rfl⟩
   rw [hn.out] at hown hlen7
   obtain ⟨pa, ca, rfl, _, hua, hfa⟩ := hown.u
   have hpx : ∀ q, pa = some q → q.block ≠ bx := fun q e => by have := hfa q e; omega
   have hnb : n ≤ 1000 := by omega
   have hL0 : LoopSt (fun b => P b ∧ b ≠ bx ∧ b ≠ bz) w wr bx bo bi bz (goL s (xs.take 0)) a L vs o gp gc i pa n xs :=
    ⟨hC2.out.below hbr.out, hR2.out.below hbr.out, hV, hIz, hB2.out.trans (hbr.out.mono hB2.out.size), hua⟩
   replace hL0 := Lib.hid hL0
   replace hjn := Lib.hid hjn
   clear hown hua
   go_upto_region 19 with fail
   go_wp2_with fail
   go_loopw [10] (fun jv wr => ∃ (j : Nat) (a' : RfV) (L' : List ME) (vs' : List VI), j ≤ n ∧ jv = .int .i64 j ∧ Hid (LoopSt (fun b => P b ∧ b ≠ bx ∧ b ≠ bz) w wr bx bo bi bz (goL s (xs.take j)) a' L' vs' o gp gc i pa n xs)) (fun jv _ => n - (intOf jv).toNat)
   case atStart => exact ⟨0, a, L, vs, Nat.zero_le _, rfl, hL0⟩
   case round =>
    obtain ⟨j, a1, L1, vs1, hj, rfl, hS⟩ := hrel
    by_cases hlt : j < n
    ·obtain ⟨b, off, hpa', _, cx, _⟩ := hS.out.ua.look hlt
     obtain ⟨x, hx⟩ : ∃ x, Hid (nth xs j = x) := ⟨_, Lib.hid rfl⟩
     rw [hx.out] at cx
     have hxl : j < xs.length := by rw [hS.out.ua.len]; exact hlt
     have htk : goL s (xs.take (j + 1)) = (goL s (xs.take j)).goes x := by
      rw [List.take_add_one, List.getElem?_eq_getElem hxl, ← goL_snoc, ← hx.out, nth_eq hxl]; rfl
     have hok := goL_ok (xs.take j) s hs
     obtain ⟨S, hSn⟩ : ∃ S, Hid (goL s (xs.take j) = S) := ⟨_, Lib.hid rfl⟩
     rw [hSn.out] at hS htk hok
     have hix1 : (0 : Int) ≤ (j : Int) := by omega
     have hix2 : (j : Int) < (n : Int) := by omega
     replace htk := Lib.hid htk
     replace hok := Lib.hid hok
     replace hpa' := Lib.hid hpa'
     have hSl := hpa'.out
     subst hSl
     go_upto_region 22 with fail
     obtain ⟨we, hwe⟩ : ∃ we, Hid (wr.drew = we) := ⟨_, Lib.hid rfl⟩
     have hw1 : Below wr.heap.size wr we := by rw [← hwe.out]; exact (Below.refl _ _).drew
     replace cx := (hw1.cell (cell_lt cx)).trans cx
     have hSd := Lib.hid (hS.out.below hw1)
     have hboxd := hSd.out.dc.box
     have hbxe : bx < we.heap.size := blk_lt hboxd
     have hbze : bz < we.heap.size := blk_lt hSd.out.dc.z
     have hwe0 : w.heap.size ≤ we.heap.size := hSd.out.be.size
     have hb1 : Below we.heap.size we we := Below.refl _ _
     replace hboxd := Lib.hid hboxd
     refine wp_region_E (D := fun T => Below we.heap.size we T) 6 (by kernel_rfl) ?_
     rw [hwe.out]
     change wpAnyE _ _ _ _ _ _ 7 _ _ _
     apply tkE 0 hb1 rfl
     ·intro T hT
      exact run_loadR (hboxd.out.below hT) rfl rfl
     try go_frame
     apply tkE 1 hb1 rfl
     ·intro T hT
      go_simp
      try rfl
     try go_frame
     apply tkE 2 hb1 rfl
     ·intro T hT
      go_simp
      try rfl
     try go_frame
     apply tkE 3 hb1 rfl
     ·intro T hT
      go_simp
      try rfl
     try go_frame
     apply tkE 4 hb1 rfl
     ·intro T hT
      have hT0 := (hT.cell (cell_lt cx)).trans cx
      go_simp
      try rfl
     try go_frame
     refine oneE 5 (by kernel_rfl) rfl (by kernel_rfl) (fun K hK => ?_)
     go_simp
     refine (goesR_any (fun b => P b ∧ b ≠ bx ∧ b ≠ bz) we a1 S L1 vs1 x kk hSd.out.rf hSd.out.vo hok.out hkk hSd.out.ri (far_and hN hwe0 hbxe hbze)).mono ?_
     rintro e T ⟨a2, L2, vs2, rfl, hR2, hV2, hI2, hbT⟩
     rw [← htk.out] at hR2 hV2 ⊢
     refine hK _ _ ⟨.inr hbT, ?_⟩
     clear hK K
     try go_frame
     have hdT := hSd.out.dc.below hbT
     have hboxs := hdT.box
     refine oneE 6 (by kernel_rfl) rfl (by kernel_rfl) (fun K hK => ?_)
     refine wp_store_row 60 _ _ rfl bx _ rfl rfl 60 _ hboxs (rfC_info _ _ _) rfl (rfC_one _ _ _) ?_
     refine hK _ _ ⟨.inl rfl, ?_⟩
     clear hK K
     try go_frame
     refine wpAnyE_done (by kernel_rfl) ?_ _
     obtain ⟨wg, hwg, hboxg⟩ := nameW (p := fun W => RfBox W bx a2 (goL s (xs.take (j + 1))) vs2.length) (setRow_heap T bx _ (rfC a2 (goL s (xs.take (j + 1))) vs2.length) _ _ hboxs)
     have hkg : ∀ j, j < T.heap.size → j ≠ bx → wg.heap[j]? = T.heap[j]? := fun j _ hne => by rw [← hwg.out]; exact setRow_other T bx j _ hne
     have hnew : LoopSt (fun b => P b ∧ b ≠ bx ∧ b ≠ bz) w wg bx bo bi bz (goL s (xs.take (j + 1))) a2 L2 vs2 o gp gc i (some ⟨b, off, none⟩) n xs :=
      ⟨hdT.store hkg hbox1 hbix1 hbzx hboxg, by rw [← hwg.out]; exact hR2.setRow (hI2.mono fun _ h => h.2.1), hV2, hI2, by rw [← hwg.out]; exact belowSetRow (hSd.out.be.trans (hbT.mono hwe0)) hbx0 _, (hSd.out.ua.below hbT).other hkg hpx⟩
     replace hnew := Lib.hid hnew
     replace hkg := Lib.hid hkg
     replace hR2 := Lib.hid hR2
     replace hV2 := Lib.hid hV2
     go_wp2_with (first | (rw [hwg.out]) | fail)
     go_roundw
     case rel => exact ⟨j + 1, a2, L2, vs2, by omega, by go_num, hnew⟩
     case measure => simp [intOf]; omega
    ·have hjn : xs.take j = xs := List.take_of_length_le (by rw [hS.out.ua.len]; omega)
     rw [hjn] at hS
     have hbox := hS.out.dc.box
     have hz := hS.out.dc.z
     have hB := hS.out.be
     have hR2 := hS.out.rf
     have hV2 := hS.out.vo
     have hI2 := hS.out.ri
     replace hS := Lib.hid hS
     replace hjn := Lib.hid hjn
     go_upto_region 44 with fail
     go_wp2_with (first | (refine wpList_load_row rfl 60 _ rfl bx rfl 60 _ (0, 0) _ hbox Tryd.underlying60 rfl (rfC_info _ _ _) ?_) | (refine wpList_store_row rfl 60 _ _ rfl bz _ rfl rfl 60 rZ hz (rfC_info _ _ _) rfl (rfC_one _ _ _) ?_) | fail)
     have hxe : goL s xs = goL s (s.ins.filter fun d => decide (ofD d = o.m)) := by rw [← hxs.out]; rfl
     have hrow' := hrow.out
     rw [← hxe] at hrow'
     refine bodyPost_ret (v := .agg (rfC a1 (goL s xs) vs1.length)) ?_ rfl ?_
     ·exact results_cell_row rfl _ _ bz 60 _ (0, 0) _ rfl (setRow_heap _ _ _ _ _ _ hz) Tryd.underlying60 rfl (rfC_info _ _ _)
     ·have hBf := belowSetRow (cs := rfC a1 (goL s xs) vs1.length) hB hbz0
      obtain ⟨r1, r2, r3, r4⟩ := hrow'
      rw [rfC_row a1 r1 r2 r3 r4] at hBf ⊢
      exact ⟨a1, L1, vs1, rfl, (hR2.setRow (hI2.mono fun _ h => h.2.2)).row r1 r2 r3, hV2.row r3, hI2.mono fun _ h => h.1, hBf⟩
end Go.Proofs.YtkolilbebkkpdaaDoor

