/-
  RollPlays: the walk.
-/
import Derived.Test.YtkolilbebkkpdaaDoorRmO
import Derived.Test.YtkolilbebkkpdaaDoorRmH
namespace Go.Proofs.YtkolilbebkkpdaaDoor
open Go.RowKit Go.Maps Go.BigFrame
attribute [local go_sem] in_gr

set_option maxRecDepth 100000 in
set_option maxHeartbeats 16000000 in
theorem plays_any (w : World) (hA : Asks w) (p : Option Addr) (n : Nat) (xs : List Int) (c : Nat) (hU : UI w p n xs) (hc : n ≤ c) (all : Bool) :
  Calls Tryd.prog 5 #[.slice p n c, .bool all] w fun e w' => e = .returned (.bool true) ∧ Below w.heap.size w w' := by
 have h0 : 0 < w.heap.size := cell_lt hA.a0
 go_enter Tryd.func5, Tryd.ntmps5
 go_wp2_with fail
 refine (Cards_any _).mono ?_
 rintro e w1 ⟨v, rfl, hown, hb1⟩
 obtain ⟨p1, c1, rfl, hc1, hRd, _⟩ := hown.u
 go_wp2_with fail
 refine (New_any _ p1 c1 hRd).mono ?_
 rintro e w2 ⟨y, rfl, hR2, hb2, hf2⟩
 have hB2 := hb1.trans (hb2.mono hb1.size)
 obtain ⟨r, hr⟩ : ∃ r, Hid (y.r = r) := ⟨_, Lib.hid rfl⟩
 have hS2 : SitW w.heap.size r w w2 y RS.new := ⟨hR2, hr.out, fun i hi => Nat.le_trans hb1.size (hf2 i hi), hB2, hA.below hB2, hB2.size⟩
 rw [hr.out]
 clear hown hRd hc1 hR2 hf2
 go_wp2_with fail
 refine (Cards_any _).mono ?_
 rintro e w3 ⟨v, rfl, hown, hb3⟩
 obtain ⟨pc, cc, rfl, hcc, hRc, hfc, _, hob⟩ := hown.u
 have hpl : LtP w3.heap.size pc := fun q e => (hown.lt (hob q e)).2
 have hS3 := hS2.call hb3
 have hco : ∀ a, pc = some a → a.block ∉ y.foot := fun a ha => hS2.high (hfc a ha)
 go_wp2_with fail
 refine (NewR_any w3 pc cc).mono ?_
 rintro e w4 ⟨rfl, hb4⟩
 have hS4 := hS3.call hb4
 have hB4 := hB2.trans ((hb3.trans (hb4.mono hb3.size)).mono hB2.size)
 have hR4 := newRf (hRc.below hb4) cc (fun q e => Nat.lt_of_lt_of_le (hpl q e) hb4.size)
 have hb5 := Below.lit w4 (.cells (rfC (newV pc cc) RS.new 0) 60)
 obtain ⟨w5, hw5, hbox5⟩ := nameW (p := fun W => RfBox W w4.heap.size (newV pc cc) RS.new 0) (RfBox.made w4 _ _ _)
 rw [hw5.out] at hb5
 have hb6f : w4.heap.size ∉ y.foot := hS4.high (Nat.le_refl _)
 obtain ⟨b6, hb6n⟩ : ∃ b, Hid (w4.heap.size = b) := ⟨_, Lib.hid rfl⟩
 have hcb : ∀ a, pc = some a → a.block ≠ b6 := fun a ha => by have := hpl a ha; have := hb4.size; have := hb6n.out; omega
 have hwb6 : w.heap.size ≤ b6 := by rw [← hb6n.out]; exact hS4.hB
 rw [hb6n.out] at hbox5 hb6f
 have hS5 := hS4.call hb5
 have hR5 := hR4.below hb5
 have hB5 := hB4.trans (hb5.mono hB4.size)
 go_upto_region 5 with (first
  | (rw [hw5.out])
  | (refine wpL_allocT 60 rZ rfl rfl (zero_R _) ?_; simp only [Act.put, List.setIfInBounds_toArray, List.set_cons_succ, List.set_cons_zero])
  | (refine wpL_storeT 60 _ (rfC (newV pc cc) RS.new 0) rfl _ _ rfl (by first | rfl | (simp only [World.size_alloc]; rfl)) rfl (rfC_info _ _ _) rfl (rfC_one _ _ _) ?_; try simp only [Act.put])
  | fail)
 rw [hb6n.out]
 clear hown hRc hcc
 go_wp2_with fail
 refine (Ops_any w5 p n xs c (hU.below hB5) hc).mono ?_
 rintro e w6 ⟨v, L, rfl, hG, hL, hb6⟩
 obtain ⟨q, d, rfl, hd, hRd, hfq, _, _⟩ := hG.own.u
 have hb65 : b6 < w5.heap.size := blk_lt hbox5
 have hqo : ∀ a, q = some a → a.block ∉ y.foot ∧ a.block ≠ b6 := fun a ha => ⟨hS5.high (hfq a ha), by have := hfq a ha; omega⟩
 have hgo : ∀ x ∈ L, ∀ a, x.2.1 = some a → a.block ∉ y.foot ∧ a.block ≠ b6 ∧ a.block < w6.heap.size := fun x hx a ha => ⟨hS5.high (((hG.gs x hx).2 a ha).1), by have := ((hG.gs x hx).2 a ha).1; omega, ((hG.gs x hx).2 a ha).2.1⟩
 have hug : ∀ x ∈ L, UI w6 x.2.1 x.1.gs.length x.1.gs := fun x hx => (hG.gs x hx).1
 have hgood := opsN_good xs 21 (by omega)
 rw [← hL] at hgood
 have hLl : L.length ≤ 900 := by have := opsN_len xs 21; rw [← hL, List.length_map] at this; omega
 have hP0 : PlSt w.heap.size r w w6 y b6 w6 y RS.new (newV pc cc) [] [] :=
  ⟨hS5.call hb6, fun i _ hn _ => ⟨rfl, hn⟩, Nat.le_refl _, hbox5.below hb6, hb6f, hR5.below hb6, newVs, newIn cc (fun q e => ⟨hco q e, hcb q e⟩)⟩
 have hnb := hwb6
 clear hG hb1 hb2 hb3 hb4 hb5 hb6 hS2 hS3 hS4 hS5 hfq hR4 hR5 hbox5 hB2 hB4 hB5 hfc hpl hob
 replace hco := Lib.hid hco
 replace hqo := Lib.hid hqo
 replace hgo := Lib.hid hgo
 replace hug := Lib.hid hug
 replace hgood := Lib.hid hgood
 replace hRd := Lib.hid hRd
 replace hL := Lib.hid hL
 replace hP0 := Lib.hid hP0
 go_wp2_with fail
 go_loopw [8] (fun i wr => ∃ (j : Nat) (yk : Lay) (a' : RfV) (L' : List ME) (vs' : List VI), j ≤ L.length ∧ i = .int .i64 j ∧ Hid (PlSt w.heap.size r w w6 y b6 wr yk (madeN (L.map Prod.fst) all j) a' L' vs')) (fun i _ => L.length - (intOf i).toNat)
 case atStart => exact ⟨0, y, newV pc cc, [], [], Nat.zero_le _, rfl, hP0⟩
 case round =>
  clear hP0
  obtain ⟨j, yk, a, Lr, vs, hj, rfl, hP⟩ := hrel
  by_cases hlt : j < L.length
  ·obtain ⟨x, hx⟩ : ∃ x, Hid (L[j] = x) := ⟨_, Lib.hid rfl⟩
   have hxm : x ∈ L := hx.out ▸ List.getElem_mem hlt
   obtain ⟨bq, oq, hqe, hbql, hcq⟩ := (hRd.out.same hP.out.ks (fun a ha hlt => (hP.out.kp a.block hlt (hqo.out a ha).1 (hqo.out a ha).2).1)).op hlt
   subst hqe
   have hbqo : bq ∉ yk.foot := by
    obtain ⟨b0, off0, he0, hl0, _⟩ := hRd.out j hlt
    injection he0 with he0
    injection he0 with he1 he2
    subst he1
    exact (hP.out.kp bq hl0 (hqo.out _ rfl).1 (hqo.out _ rfl).2).2
   rw [hx.out] at hcq
   have hmm : x.1 ∈ L.map Prod.fst := List.mem_map.2 ⟨x, hxm, rfl⟩
   have hxg := hgood.out x.1 hmm
   have hxu := (hug.out x hxm).kept (Q := fun i => i ∉ y.foot ∧ i ≠ b6) (fun i hi hn => (hP.out.kp i hi hn.1 hn.2).1) (fun q e => ⟨(hgo.out x hxm q e).1, (hgo.out x hxm q e).2.1⟩)
   have hxo : ∀ q, x.2.1 = some q → q.block ∉ yk.foot ∧ q.block < wr.heap.size ∧ q.block ≠ b6 := fun q e => by
    obtain ⟨h1, h2, h3⟩ := hgo.out x hxm q e
    exact ⟨(hP.out.kp _ h3 h1 h2).2, Nat.lt_of_lt_of_le h3 hP.out.ks, h2⟩
   have hxd : (L.map Prod.fst).getD j opZ = x.1 := by
    rw [List.getD_eq_getElem?_getD, List.getElem?_map, List.getElem?_eq_getElem hlt, hx.out]; rfl
   have hOk := madeN_ok (l := L.map Prod.fst) hgood.out all j (by rw [List.length_map]; exact hj)
   have hOk1 := madeN_ok (l := L.map Prod.fst) hgood.out all (j + 1) (by rw [List.length_map]; exact hlt)
   have hst : madeN (L.map Prod.fst) all (j + 1) = if all = true ∨ (madeN (L.map Prod.fst) all j).may x.1 = 0 then (madeN (L.map Prod.fst) all j).act x.1 (x.1.name j) else madeN (L.map Prod.fst) all j := by
    rw [← hxd]; rfl
   obtain ⟨s, hs⟩ : ∃ s, Hid (madeN (L.map Prod.fst) all j = s) := ⟨_, Lib.hid rfl⟩
   rw [hs.out] at hst hOk hP
   obtain ⟨o, gp, gc⟩ := x
   replace hcq : ∀ i u, (opC o gp gc)[i]? = some u → wr.cell? ⟨bq, oq + j * 27 + i, none⟩ = some u := hcq
   replace hxg : o.Good := hxg
   replace hxu : UI wr gp o.gs.length o.gs := hxu
   replace hst : madeN (L.map Prod.fst) all (j + 1) = if all = true ∨ s.may o = 0 then s.act o (o.name j) else s := hst
   replace hxo : ∀ q, gp = some q → q.block ∉ yk.foot ∧ q.block < wr.heap.size ∧ q.block ≠ b6 := hxo
   have hix1 : (0 : Int) ≤ (j : Int) := by omega
   have hix2 : (j : Int) < (L.length : Int) := by omega
   obtain ⟨mv, hmv⟩ : ∃ mv, Hid (s.may o = mv) := ⟨_, Lib.hid rfl⟩
   rw [hmv.out] at hst
   replace hcq := Lib.hid hcq
   replace hst := Lib.hid hst
   replace hOk := Lib.hid hOk
   replace hOk1 := Lib.hid hOk1
   replace hxu := Lib.hid hxu
   replace hxg := Lib.hid hxg
   replace hxo := Lib.hid hxo
   clear hmm hxd
   go_wp2_with (first | (refine wpL_loadO rfl _ rfl bq (oq + j * 27) rfl o gp gc hcq.out ?_) | fail)
   refine (Name_any o gp gc j _ hxg.out.ok.hk (by omega)).mono ?_
   rintro e w7 ⟨rfl, hb7⟩
   have hI8 : IdAt (w7.alloc (.cells #[.int .i64 o.b, .int .i64 ((j : Int) + 1), .int .u64 o.k] 34)) w7.heap.size (o.name j) := IdAt.made w7 (o.name j)
   have hb8 := hb7.trans ((Below.lit w7 (.cells #[.int .i64 o.b, .int .i64 ((j : Int) + 1), .int .u64 o.k] 34)).mono hb7.size)
   obtain ⟨w8, hw8, hI8⟩ := nameW (p := fun W => IdAt W w7.heap.size (o.name j)) hI8
   rw [hw8.out] at hb8
   have hbif : w7.heap.size ∉ yk.foot := (hP.out.sit.call hb7).high (Nat.le_refl _)
   have hbi6 : w7.heap.size ≠ b6 := by have := blk_lt (hP.out.below hb7).box; omega
   obtain ⟨bi, hbi⟩ : ∃ bi, Hid (w7.heap.size = bi) := ⟨_, Lib.hid rfl⟩
   rw [hbi.out] at hI8 hbif hbi6
   go_upto_region 10 with (first | (rw [hw8.out]) | fail)
   rw [hbi.out]
   obtain ⟨w9, hw9⟩ : ∃ w9, Hid (w8.drew = w9) := ⟨_, Lib.hid rfl⟩
   have hb9 : Below w8.heap.size w8 w9 := by rw [← hw9.out]; exact (Below.refl _ _).drew
   have hb19 := hb8.trans (hb9.mono hb8.size)
   have hP9 := hP.out.below hb19
   have hcd : ∀ i u, (opC o gp gc)[i]? = some u → w9.cell? ⟨bq, oq + j * 27 + i, none⟩ = some u := fun i u hu => (hb19.cell (p := ⟨bq, oq + j * 27 + i, none⟩) (cell_lt (hcq.out i u hu))).trans (hcq.out i u hu)
   have hxu9 := Lib.hid (hxu.out.below hb19)
   have hxo9 : Hid (∀ q, gp = some q → q.block ∉ yk.foot ∧ q.block < w9.heap.size ∧ q.block ≠ b6) := Lib.hid fun q e => ⟨(hxo.out q e).1, Nat.lt_of_lt_of_le (hxo.out q e).2.1 hb19.size, (hxo.out q e).2.2⟩
   have hI9 := hI8.below hb9
   have i0 : w9.cell? ⟨bi, 0, none⟩ = some (.int .i64 o.b) := by simp [World.cell?, show w9.heap[bi]? = _ from hI9]; rfl
   have i1 : w9.cell? ⟨bi, 1, none⟩ = some (.int .i64 ((j : Int) + 1)) := by simp [World.cell?, show w9.heap[bi]? = _ from hI9]; rfl
   have i2 : w9.cell? ⟨bi, 2, none⟩ = some (.int .u64 o.k) := by simp [World.cell?, show w9.heap[bi]? = _ from hI9]; rfl
   have hb0 : Below w9.heap.size w9 w9 := Below.refl _ _
   have hbox9 := hP9.box
   replace hP9 := Lib.hid hP9
   replace hcd := Lib.hid hcd
   clear hb7 hb8 hb9 hb19 hP hcq hxu hxo hI8
   refine wp_region_D (D := fun T => Below w9.heap.size w9 T) (by kernel_rfl) ?_
   rw [hw9.out]
   change wpAnyD _ _ _ _ _ 8 _ _ _
   apply tkD 0 hb0 rfl (by kernel_rfl) (by kernel_rfl) (by kernel_rfl) (fun _ _ _ h => by first | exact h | exact absurd h.1 (fun h => by cases h)) (by kernel_rfl)
   ·intro T hT
    exact run_loadR (hbox9.below hT) rfl rfl
   try go_frame
   apply tkD 1 hb0 rfl (by kernel_rfl) (by kernel_rfl) (by kernel_rfl) (fun _ _ _ h => by first | exact h | exact absurd h.1 (fun h => by cases h)) (by kernel_rfl)
   ·intro T hT
    go_simp
    try rfl
   try go_frame
   apply tkD 2 hb0 rfl (by kernel_rfl) (by kernel_rfl) (by kernel_rfl) (fun _ _ _ h => by first | exact h | exact absurd h.1 (fun h => by cases h)) (by kernel_rfl)
   ·intro T hT
    go_simp
    try rfl
   try go_frame
   apply tkD 3 hb0 rfl (by kernel_rfl) (by kernel_rfl) (by kernel_rfl) (fun _ _ _ h => by first | exact h | exact absurd h.1 (fun h => by cases h)) (by kernel_rfl)
   ·intro T hT
    go_simp
    try rfl
   try go_frame
   apply tkD 4 hb0 rfl (by kernel_rfl) (by kernel_rfl) (by kernel_rfl) (fun _ _ _ h => by first | exact h | exact absurd h.1 (fun h => by cases h)) (by kernel_rfl)
   ·intro T hT
    exact run_loadO (n := o) (gp := gp) (gc := gc) (b := bq) (k := oq + j * 27) (fun i u hu => (hT.cell (p := ⟨bq, oq + j * 27 + i, none⟩) (cell_lt (hcd.out i u hu))).trans (hcd.out i u hu)) rfl rfl
   try go_frame
   apply tkD 5 hb0 rfl (by kernel_rfl) (by kernel_rfl) (by kernel_rfl) (fun _ _ _ h => by first | exact h | exact absurd h.1 (fun h => by cases h)) (by kernel_rfl)
   ·intro T hT
    have hT0 := (hT.cell (cell_lt i0)).trans i0
    have hT1 := (hT.cell (cell_lt i1)).trans i1
    have hT2 := (hT.cell (cell_lt i2)).trans i2
    go_simp
    try rfl
   try go_frame
   refine oneD 6 (by kernel_rfl) rfl (by kernel_rfl) (fun K hK => ?_)
   go_simp
   refine (MayR_any w9 a s Lr vs o gp gc (o.name j) j hP9.out.rf hP9.out.vo hOk.out (by omega) hxu9.out hxg.out.ok.hgl).mono ?_
   rintro e w10 ⟨rfl, hb10⟩
   rw [hmv.out]
   refine hK _ _ ⟨hb10, ?_⟩
   clear hK K
   try go_frame
   apply tkD 7 hb10 rfl (by kernel_rfl) (by kernel_rfl) (by kernel_rfl) (fun _ _ _ h => by first | exact h | exact absurd h.1 (fun h => by cases h)) (by kernel_rfl)
   ·intro T hT
    go_simp
    try rfl
   try go_frame
   refine wpAnyD_done (by kernel_rfl) ?_ _
   go_upto_region 11 with fail
   obtain ⟨wa, hwa⟩ : ∃ wa, Hid (w10.drew = wa) := ⟨_, Lib.hid rfl⟩
   have hba : Below w10.heap.size w10 wa := by rw [← hwa.out]; exact (Below.refl _ _).drew
   have hb9a := hb10.trans (hba.mono hb10.size)
   have hPa := Lib.hid (hP9.out.below hb9a)
   have hcda : ∀ i u, (opC o gp gc)[i]? = some u → wa.cell? ⟨bq, oq + j * 27 + i, none⟩ = some u := fun i u hu => (hb9a.cell (p := ⟨bq, oq + j * 27 + i, none⟩) (cell_lt (hcd.out i u hu))).trans (hcd.out i u hu)
   have hxua := Lib.hid (hxu9.out.below hb9a)
   have hxoa : Hid (∀ q, gp = some q → q.block ∉ yk.foot ∧ q.block < wa.heap.size ∧ q.block ≠ b6) := Lib.hid fun q e => ⟨(hxo9.out q e).1, Nat.lt_of_lt_of_le (hxo9.out q e).2.1 hb9a.size, (hxo9.out q e).2.2⟩
   have hIa := hI9.below hb9a
   replace i0 := (hb9a.cell (cell_lt i0)).trans i0
   replace i1 := (hb9a.cell (cell_lt i1)).trans i1
   replace i2 := (hb9a.cell (cell_lt i2)).trans i2
   clear hcd hxu9 hxo9 hI9 hb0 hbox9 hP9 hb10 hba hb9a
   have hcd := Lib.hid hcda
   have hb0 : Below wa.heap.size wa wa := Below.refl _ _
   clear hcda
   refine wp_region_D (D := fun T => Below wa.heap.size wa T) (by kernel_rfl) ?_
   rw [hwa.out]
   change wpAnyD _ _ _ _ _ 9 _ _ _
   apply tkD 0 hb0 rfl (by kernel_rfl) (by kernel_rfl) (by kernel_rfl) (fun _ _ _ h => by first | exact h | exact absurd h.1 (fun h => by cases h)) (by kernel_rfl)
   ·intro T hT
    go_simp
    try rfl
   try go_frame
   apply tkD 1 hb0 rfl (by kernel_rfl) (by kernel_rfl) (by kernel_rfl) (fun _ _ _ h => by first | exact h | exact absurd h.1 (fun h => by cases h)) (by kernel_rfl)
   ·intro T hT
    go_simp
    try rfl
   try go_frame
   apply tkD 2 hb0 rfl (by kernel_rfl) (by kernel_rfl) (by kernel_rfl) (fun _ _ _ h => by first | exact h | exact absurd h.1 (fun h => by cases h)) (by kernel_rfl)
   ·intro T hT
    go_simp
    try rfl
   try go_frame
   apply tkD 3 hb0 rfl (by kernel_rfl) (by kernel_rfl) (by kernel_rfl) (fun _ _ _ h => by first | exact h | exact absurd h.1 (fun h => by cases h)) (by kernel_rfl)
   ·intro T hT
    go_simp
    try rfl
   try go_frame
   apply tkD 4 hb0 rfl (by kernel_rfl) (by kernel_rfl) (by kernel_rfl) (fun _ _ _ h => by first | exact h | exact absurd h.1 (fun h => by cases h)) (by kernel_rfl)
   ·intro T hT
    exact run_loadO (n := o) (gp := gp) (gc := gc) (b := bq) (k := oq + j * 27) (fun i u hu => (hT.cell (p := ⟨bq, oq + j * 27 + i, none⟩) (cell_lt (hcd.out i u hu))).trans (hcd.out i u hu)) rfl rfl
   try go_frame
   apply tkD 5 hb0 rfl (by kernel_rfl) (by kernel_rfl) (by kernel_rfl) (fun _ _ _ h => by first | exact h | exact absurd h.1 (fun h => by cases h)) (by kernel_rfl)
   ·intro T hT
    have hT0 := (hT.cell (cell_lt i0)).trans i0
    have hT1 := (hT.cell (cell_lt i1)).trans i1
    have hT2 := (hT.cell (cell_lt i2)).trans i2
    go_simp
    try rfl
   try go_frame
   apply tkD 7 hb0 rfl (by kernel_rfl) (by kernel_rfl) (by kernel_rfl) (fun _ _ _ h => by first | exact h | exact absurd h.1 (fun h => by cases h)) (by kernel_rfl)
   ·intro T hT
    go_simp
    try rfl
   try go_frame
   refine oneD 6 (by kernel_rfl) rfl (by kernel_rfl) (fun K hK => ?_)
   go_simp
   refine (May_w hPa.out.sit o gp gc (o.name j) j (by omega) hOk.out hxg.out.ok hxua.out).mono ?_
   rintro e wb ⟨rfl, hbb⟩
   rw [hmv.out]
   refine hK _ _ ⟨hbb, ?_⟩
   clear hK K
   try go_frame
   have t1 : (mv != mv) = false := bne_self_eq_false _
   apply tkD 8 hbb rfl (by kernel_rfl) (by kernel_rfl) (by kernel_rfl) (fun _ _ _ h => by first | exact h | exact absurd h.1 (fun h => by cases h)) (by kernel_rfl)
   ·intro T hT
    go_simp
    try rfl
   try go_frame
   refine wpAnyD_done (by kernel_rfl) ?_ _
   have hPb := Lib.hid (hPa.out.below hbb)
   have hcdb : ∀ i u, (opC o gp gc)[i]? = some u → wb.cell? ⟨bq, oq + j * 27 + i, none⟩ = some u := fun i u hu => (hbb.cell (p := ⟨bq, oq + j * 27 + i, none⟩) (cell_lt (hcd.out i u hu))).trans (hcd.out i u hu)
   have hxub := Lib.hid (hxua.out.below hbb)
   have hxob : Hid (∀ q, gp = some q → q.block ∉ yk.foot ∧ q.block < wb.heap.size ∧ q.block ≠ b6) := Lib.hid fun q e => ⟨(hxoa.out q e).1, Nat.lt_of_lt_of_le (hxoa.out q e).2.1 hbb.size, (hxoa.out q e).2.2⟩
   have hIb := hIa.below hbb
   clear hcd hxua hxoa hIa hb0 hPa hbb i0 i1 i2
   have hcd := Lib.hid hcdb
   clear hcdb t1
   go_upto_region 13 with fail
   go_cut [51] from 47 to 50 (fun v T => v = .bool (all || (mv == 0)) ∧ Hid (wb = T))
   case first =>
    cases all with
    | true =>
     go_wp2_with fail
     go_meet
     exact ⟨rfl, Lib.hid rfl⟩
    | false =>
     go_wp2_with fail
     go_meet
     exact ⟨rfl, Lib.hid rfl⟩
   case rest =>
    obtain ⟨rfl, hwT⟩ := hcut
    obtain rfl := hwT.out
    cases hdo : (all || (mv == 0)) with
    | false =>
     have hnx : Hid (madeN (L.map Prod.fst) all (j + 1) = s) := Lib.hid (by
      rw [hst.out, if_neg]
      rw [Bool.or_eq_false_iff, beq_eq_false_iff_ne] at hdo
      intro h
      rcases h with h | h
      ·rw [hdo.1] at h; cases h
      ·exact hdo.2 h)
     have hOkf := Lib.hid (hOk.out.mono (Nat.le_succ j))
     clear hdo
     have hPe := hPb
     have hboxe := hPe.out.box
     go_upto_region 16 with fail
     go_wp2_with (first
      | (refine wpList_load_row rfl 60 _ rfl b6 rfl 60 _ (0, 0) _ hboxe Tryd.underlying60 rfl (rfC_info _ _ _) ?_)
      | fail)
     have hal := alike_any wb yk a s Lr vs (j + 1) hPe.out.sit.roll hPe.out.rf hPe.out.vo hOkf.out (by omega)
     rw [hPe.out.sit.hr] at hal
     refine hal.mono ?_
     rintro e wf ⟨rfl, hbf⟩
     have hPf := Lib.hid (hPe.out.below hbf)
     clear hal hbf
     go_wp2_with fail
     go_roundw
     case rel => exact ⟨j + 1, yk, a, Lr, vs, by omega, by go_num, by rw [hnx.out]; exact hPf⟩
     case measure => simp [intOf]; omega
    | true =>
     obtain ⟨S2, hS2⟩ : ∃ S, Hid (s.act o (o.name j) = S) := ⟨_, Lib.hid rfl⟩
     have hnx : Hid (madeN (L.map Prod.fst) all (j + 1) = S2) := Lib.hid (by
      rw [hst.out, if_pos]
      ·exact hS2.out
      ·rw [Bool.or_eq_true, beq_iff_eq] at hdo
       exact hdo)
     have hOkf : Hid (S2.Ok (j + 1)) := Lib.hid (by rw [← hnx.out]; exact hOk1.out)
     clear hdo
     have hcq5 : ∀ T, (∃ z : GrIn wb, T = z.at_) → ∀ i u, (opC o gp gc)[i]? = some u → T.cell? ⟨bq, oq + j * 27 + i, none⟩ = some u := fun T ⟨z, hz⟩ i u hu => by
      rw [hz]
      exact (z.gr.cell (p := ⟨bq, oq + j * 27 + i, none⟩) (cell_lt (hcd.out i u hu))).trans (hcd.out i u hu)
     replace hcq5 := Lib.hid hcq5
     have i0 : wb.cell? ⟨bi, 0, none⟩ = some (.int .i64 o.b) := by simp [World.cell?, show wb.heap[bi]? = _ from hIb]; rfl
     have i1 : wb.cell? ⟨bi, 1, none⟩ = some (.int .i64 ((j : Int) + 1)) := by simp [World.cell?, show wb.heap[bi]? = _ from hIb]; rfl
     have i2 : wb.cell? ⟨bi, 2, none⟩ = some (.int .u64 o.k) := by simp [World.cell?, show wb.heap[bi]? = _ from hIb]; rfl
     have hk0 := GrIn.cells i0
     have hk1 := GrIn.cells i1
     have hk2 := GrIn.cells i2
     go_upto_region 14 with fail
     refine wp_region_gr_tail 6 (by kernel_rfl) (by kernel_rfl) ?_
     simp only [List.take_succ_cons, List.take_zero, List.drop_succ_cons, List.drop_zero]
     repeat (first
      | (go_big_quiet_want; refine quiet_mid _ rfl rfl hcq5.out ?_; simp only [Act.put, List.setIfInBounds_toArray, List.set_cons_succ, List.set_cons_zero]; go_big_quiet_on)
      | go_big_quiet_step (fail))
     refine wpQuiet_nil ?_
     rintro T ⟨z, rfl⟩
     have hPz := hPb.out.below z.gr
     have hxz := hxub.out.below z.gr
     have hIz := hIb.below z.gr
     have hcz : ∀ i u, (opC o gp gc)[i]? = some u → z.at_.cell? ⟨bq, oq + j * 27 + i, none⟩ = some u := fun i u hu => hcq5.out _ ⟨z, rfl⟩ i u hu
     replace hPz := Lib.hid hPz
     replace hcz := Lib.hid hcz
     go_wp2_with fail
     refine (Do_w hPz.out.sit h0 o gp gc (o.name j) j (by omega) hOk.out hxg.out.ok hxz (fun h9 => (hxg.out.gd h9).1)).mono ?_
     rintro e W2 ⟨rfl, y2, hS2', hz2, hk2'⟩
     rw [hS2.out] at hS2'
     have hM := Lib.hid (hPz.out.next hS2' hz2 hk2')
     have hI2 : IdAt W2 bi (o.name j) := hIz.block (hk2' bi hIz.lt hbif).1
     have hc2 : ∀ i u, (opC o gp gc)[i]? = some u → W2.cell? ⟨bq, oq + j * 27 + i, none⟩ = some u := fun i u hu => by
      have h1 := hcz.out i u hu
      have h2 := (hk2' bq (cell_lt h1) hbqo).1
      rw [← h1]
      unfold World.cell?
      simp only [h2]
     have hx2 : UI W2 gp o.gs.length o.gs := hxz.kept (Q := fun i => i ∉ yk.foot) (fun i hi hn => (hk2' i hi hn).1) (fun q e => (hxob.out q e).1)
     have hxo2 : Hid (∀ q, gp = some q → q.block ∉ y2.foot ∧ q.block < W2.heap.size ∧ q.block ≠ b6) := Lib.hid fun q e => by
      obtain ⟨h1, h2, h3⟩ := hxob.out q e
      have h4 := Nat.lt_of_lt_of_le h2 z.gr.size
      exact ⟨(hk2' q.block h4 h1).2, Nat.lt_of_lt_of_le h4 hz2, h3⟩
     replace hc2 := Lib.hid hc2
     clear hPb hxub hIb hcd hcq5 i0 i1 i2 hk0 hk1 hk2 hPz hxz hIz hcz hxob hS2' hz2 hk2'
     go_upto_region 15 with fail
     obtain ⟨wc, hwc⟩ : ∃ wc, Hid (W2.drew = wc) := ⟨_, Lib.hid rfl⟩
     have hbc : Below W2.heap.size W2 wc := by rw [← hwc.out]; exact (Below.refl _ _).drew
     have hMc := Lib.hid (hM.out.below hbc)
     have hcdc : ∀ i u, (opC o gp gc)[i]? = some u → wc.cell? ⟨bq, oq + j * 27 + i, none⟩ = some u := fun i u hu => (hbc.cell (p := ⟨bq, oq + j * 27 + i, none⟩) (cell_lt (hc2.out i u hu))).trans (hc2.out i u hu)
     have hcd := Lib.hid hcdc
     have hxc := hx2.below hbc
     have hIc := hI2.below hbc
     have i0 : wc.cell? ⟨bi, 0, none⟩ = some (.int .i64 o.b) := by simp [World.cell?, show wc.heap[bi]? = _ from hIc]; rfl
     have i1 : wc.cell? ⟨bi, 1, none⟩ = some (.int .i64 ((j : Int) + 1)) := by simp [World.cell?, show wc.heap[bi]? = _ from hIc]; rfl
     have i2 : wc.cell? ⟨bi, 2, none⟩ = some (.int .u64 o.k) := by simp [World.cell?, show wc.heap[bi]? = _ from hIc]; rfl
     have hboxc := hMc.out.box
     have hb0 : Below wc.heap.size wc wc := Below.refl _ _
     have hNc : ∀ b, wc.heap.size ≤ b → b ∉ y2.foot ∧ b ≠ b6 := fun b hb => ⟨hMc.out.sit.high hb, by have := blk_lt hMc.out.box; omega⟩
     clear hcdc
     refine wp_region_E (D := fun T => Below wc.heap.size wc T) 7 (by kernel_rfl) ?_
     rw [hwc.out]
     change wpAnyE _ _ _ _ _ _ 8 _ _ _
     apply tkE 0 hb0 rfl (by kernel_rfl) (by kernel_rfl) (by kernel_rfl) (by kernel_rfl) (fun _ _ _ h => by first | exact h | exact absurd h.1 (fun h => by cases h)) (by kernel_rfl)
     ·intro T hT
      exact run_loadR (hboxc.below hT) rfl rfl
     try go_frame
     apply tkE 1 hb0 rfl (by kernel_rfl) (by kernel_rfl) (by kernel_rfl) (by kernel_rfl) (fun _ _ _ h => by first | exact h | exact absurd h.1 (fun h => by cases h)) (by kernel_rfl)
     ·intro T hT
      go_simp
      try rfl
     try go_frame
     apply tkE 2 hb0 rfl (by kernel_rfl) (by kernel_rfl) (by kernel_rfl) (by kernel_rfl) (fun _ _ _ h => by first | exact h | exact absurd h.1 (fun h => by cases h)) (by kernel_rfl)
     ·intro T hT
      go_simp
      try rfl
     try go_frame
     apply tkE 3 hb0 rfl (by kernel_rfl) (by kernel_rfl) (by kernel_rfl) (by kernel_rfl) (fun _ _ _ h => by first | exact h | exact absurd h.1 (fun h => by cases h)) (by kernel_rfl)
     ·intro T hT
      go_simp
      try rfl
     try go_frame
     apply tkE 4 hb0 rfl (by kernel_rfl) (by kernel_rfl) (by kernel_rfl) (by kernel_rfl) (fun _ _ _ h => by first | exact h | exact absurd h.1 (fun h => by cases h)) (by kernel_rfl)
     ·intro T hT
      exact run_loadO (n := o) (gp := gp) (gc := gc) (b := bq) (k := oq + j * 27) (fun i u hu => (hT.cell (p := ⟨bq, oq + j * 27 + i, none⟩) (cell_lt (hcd.out i u hu))).trans (hcd.out i u hu)) rfl rfl
     try go_frame
     apply tkE 5 hb0 rfl (by kernel_rfl) (by kernel_rfl) (by kernel_rfl) (by kernel_rfl) (fun _ _ _ h => by first | exact h | exact absurd h.1 (fun h => by cases h)) (by kernel_rfl)
     ·intro T hT
      have hT0 := (hT.cell (cell_lt i0)).trans i0
      have hT1 := (hT.cell (cell_lt i1)).trans i1
      have hT2 := (hT.cell (cell_lt i2)).trans i2
      go_simp
      try rfl
     try go_frame
     refine oneE 6 (by kernel_rfl) rfl (by kernel_rfl) (fun K hK => ?_)
     go_simp
     refine (DoR_any (fun b => b ∉ y2.foot ∧ b ≠ b6) wc a s Lr vs o gp gc (o.name j) j hMc.out.rf hMc.out.vo hOk.out (by omega) hxg.out.ok hMc.out.ri hNc hxc (fun q e => ⟨(hxo2.out q e).1, (hxo2.out q e).2.2⟩) (fun q e => Nat.lt_of_lt_of_le (hxo2.out q e).2.1 hbc.size) (fun _ => by show (j : Int) < (j : Int) + 1; omega)).mono ?_
     rintro e T2 ⟨a2, L2, vs2, rfl, hR2, hV2, hI2', hbT⟩
     rw [hS2.out] at hR2 hV2 ⊢
     refine hK _ _ ⟨.inr hbT, ?_⟩
     clear hK K
     try go_frame
     have hdone := hMc.out.done hbT hR2 hV2 hI2' hwb6 h0
     have hboxs := (hMc.out.below hbT).box
     refine oneE 7 (by kernel_rfl) rfl (by kernel_rfl) (fun K hK => ?_)
     refine wp_store_row 60 _ _ rfl b6 _ rfl rfl 60 _ hboxs (rfC_info _ _ _) rfl (rfC_one _ _ _) ?_
     refine hK _ _ ⟨.inl rfl, ?_⟩
     clear hK K
     try go_frame
     refine wpAnyE_done (by kernel_rfl) ?_ _
     obtain ⟨wg, hwg, hPe⟩ := nameW (p := fun W => PlSt w.heap.size r w w6 y b6 W y2 S2 a2 L2 vs2) hdone
     rw [hwg.out]
     replace hPe := Lib.hid hPe
     clear hdone hboxs i0 i1 i2 hboxc hb0
     have hboxe := hPe.out.box
     go_upto_region 16 with fail
     go_wp2_with (first
      | (refine wpList_load_row rfl 60 _ rfl b6 rfl 60 _ (0, 0) _ hboxe Tryd.underlying60 rfl (rfC_info _ _ _) ?_)
      | fail)
     have hal := alike_any wg y2 a2 S2 L2 vs2 (j + 1) hPe.out.sit.roll hPe.out.rf hPe.out.vo hOkf.out (by omega)
     rw [hPe.out.sit.hr] at hal
     refine hal.mono ?_
     rintro e wf ⟨rfl, hbf⟩
     have hPf := Lib.hid (hPe.out.below hbf)
     clear hal hbf
     go_wp2_with fail
     go_roundw
     case rel => exact ⟨j + 1, y2, a2, L2, vs2, by omega, by go_num, by rw [hnx.out]; exact hPf⟩
     case measure => simp [intOf]; omega
  ·go_wp2_with fail
   refine (lives_any _ hP.out.sit.asks).mono ?_
   rintro e wz ⟨rfl, hbz⟩
   go_wp2_with fail
   go_ret
   exact ⟨rfl, hP.out.sit.below.trans (hbz.mono hP.out.sit.hB)⟩
end Go.Proofs.YtkolilbebkkpdaaDoor

