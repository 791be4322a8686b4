/-
  The document's roll behind some operations: the walk of Made.
-/
import Derived.Test.YtkolilbebkkpdaaDoorRmO
import Derived.Test.YtkolilbebkkpdaaDoorRmH
namespace Go.Proofs.YtkolilbebkkpdaaDoor
open Go.RowKit Go.Maps Go.BigFrame
attribute [local go_sem] in_gr

/-- Where Made stands. -/
structure MkSt (w wr : World) (b5 bz : Nat) (S : RS) (a : RfV) (L : List ME) (vs : List VI) : Prop where
 box : RfBox wr b5 a S vs.length
 z : ZBox wr bz
 rf : RfAt wr a S L vs
 vo : VsOk S vs
 ri : RfIn (fun b => b ≠ b5 ∧ b ≠ bz) a L
 be : Below w.heap.size w wr
theorem MkSt.below {w wr W : World} {b5 bz : Nat} {S : RS} {a : RfV} {L : List ME} {vs : List VI} (h : MkSt w wr b5 bz S a L vs) (hb : Below wr.heap.size wr W) : MkSt w W b5 bz S a L vs :=
 ⟨h.box.below hb, h.z.below hb, h.rf.below hb, h.vo, h.ri, h.be.trans (hb.mono h.be.size)⟩
set_option maxRecDepth 100000 in
set_option maxHeartbeats 16000000 in
theorem MadeR_any (w : World) (base : Nat) (q : Option Addr) (L : List (OpI × Option Addr × Nat)) (d : Nat) (hG : OpsG w base (.slice q L.length d) L) (hgood : ∀ x ∈ L, x.1.Good) (hl : L.length ≤ 900) (all : Bool) :
  Calls Tryd.prog 31 #[.slice q L.length d, .bool all] w fun e w' => ∃ a' L' vs', e = .returned (.agg (rfC a' (madeN (L.map Prod.fst) all L.length) vs'.length)) ∧ RfAt w' a' (madeN (L.map Prod.fst) all L.length) L' vs' ∧ VsOk (madeN (L.map Prod.fst) all L.length) vs' ∧ Below w.heap.size w w' := by
 have hbz := Below.lit w (.cells rZ 60)
 obtain ⟨wz, hwz, hZ⟩ := nameW (p := fun W => ZBox W w.heap.size) (ZBox.made w)
 rw [hwz.out] at hbz
 obtain ⟨bz, hbzn⟩ : ∃ b, Hid (w.heap.size = b) := ⟨_, Lib.hid rfl⟩
 have hbz0 : w.heap.size ≤ bz := by rw [hbzn.out]; exact Nat.le_refl _
 rw [hbzn.out] at hZ
 go_enter Tryd.func31, Tryd.ntmps31
 go_upto_region 1 with (first | (rw [hwz.out]) | (refine wpL_allocT 60 rZ rfl rfl (zero_R _) ?_; simp only [Act.put, List.setIfInBounds_toArray, List.set_cons_succ, List.set_cons_zero]) | fail)
 rw [hbzn.out]
 go_wp2_with fail
 refine (Cards_any _).mono ?_
 rintro e w3 ⟨v, rfl, hown, hb3⟩
 obtain ⟨pc, cc, rfl, hcc, hRc, hfc, _, hob⟩ := hown.u
 have hpl : LtP w3.heap.size pc := fun q e => (hown.lt (hob q e)).2
 go_wp2_with fail
 refine (NewR_any w3 pc cc).mono ?_
 rintro e w4 ⟨rfl, hb4⟩
 have hb34 := hb3.trans (hb4.mono hb3.size)
 have hB4 := hbz.trans (hb34.mono hbz.size)
 have hZ4 := hZ.below hb34
 have hR4 := newRf (hRc.below hb4) cc (fun q e => Nat.lt_of_lt_of_le (hpl q e) hb4.size)
 have hb5 := Below.lit w4 (.cells (rfC (newV pc cc) RS.new 0) 60)
 obtain ⟨w5, hw5, hbox5⟩ := nameW (p := fun W => RfBox W w4.heap.size (newV pc cc) RS.new 0) (RfBox.made w4 _ _ _)
 rw [hw5.out] at hb5
 have hcb : ∀ a, pc = some a → a.block ≠ w4.heap.size := fun a ha => by have := hpl a ha; have := hb4.size; omega
 have hcz : ∀ a, pc = some a → a.block ≠ bz := fun a ha => by have := hfc a ha; have := blk_lt hZ; omega
 have hb50 : w.heap.size ≤ w4.heap.size := hB4.size
 have hz5 : bz ≠ w4.heap.size := by have := blk_lt hZ4; omega
 obtain ⟨b5, hb5n⟩ : ∃ b, Hid (w4.heap.size = b) := ⟨_, Lib.hid rfl⟩
 rw [hb5n.out] at hbox5 hcb hb50 hz5
 have hM0 : MkSt w w5 b5 bz RS.new (newV pc cc) [] [] := ⟨hbox5, hZ4.below hb5, hR4.below hb5, newVs, newIn cc (fun q e => ⟨hcb q e, hcz q e⟩), hB4.trans (hb5.mono hB4.size)⟩
 go_upto_region 2 with (first
  | (rw [hw5.out])
  | (refine wpL_allocT 60 rZ rfl rfl (zero_R _) ?_; simp only [Act.put, List.setIfInBounds_toArray, List.set_cons_succ, List.set_cons_zero])
  | (refine wpL_storeT 60 _ (rfC (newV pc cc) RS.new 0) rfl _ _ rfl (by first | rfl | (simp only [World.size_alloc]; rfl)) rfl (rfC_info _ _ _) rfl (rfC_one _ _ _) ?_; try simp only [Act.put])
  | fail)
 rw [hb5n.out]
 clear hown hRc hcc hfc hob hpl hb3 hb4 hb34 hB4 hZ4 hR4 hb5 hbox5 hbz hZ
 replace hM0 := Lib.hid hM0
 replace hcb := Lib.hid hcb
 replace hgood := Lib.hid hgood
 have hown := hG.own
 obtain ⟨q', d', hv, _, hRd, _, _, _⟩ := hown.u
 injection hv with hv1 _ hv2
 subst hv1; subst hv2
 have hug : ∀ x ∈ L, UI w x.2.1 x.1.gs.length x.1.gs := fun x hx => (hG.gs x hx).1
 have hgl : ∀ x ∈ L, LtP w.heap.size x.2.1 := fun x hx q e => ((hG.gs x hx).2 q e).2.1
 replace hRd := Lib.hid hRd
 replace hug := Lib.hid hug
 replace hgl := Lib.hid hgl
 clear hown hG
 go_wp2_with fail
 go_loopw [6] (fun i wr => ∃ (j : Nat) (a' : RfV) (L' : List ME) (vs' : List VI), j ≤ L.length ∧ i = .int .i64 j ∧ Hid (MkSt w wr b5 bz (madeN (L.map Prod.fst) all j) a' L' vs')) (fun i _ => L.length - (intOf i).toNat)
 case atStart => exact ⟨0, newV pc cc, [], [], Nat.zero_le _, rfl, hM0⟩
 case round =>
  clear hM0
  obtain ⟨j, a, Lr, vs, hj, rfl, hM⟩ := hrel
  by_cases hlt : j < L.length
  ·obtain ⟨x, hx⟩ : ∃ x, Hid (L[j] = x) := ⟨_, Lib.hid rfl⟩
   have hxm : x ∈ L := hx.out ▸ List.getElem_mem hlt
   obtain ⟨bq, oq, hqe, hbql, hcq⟩ := (hRd.out.below hM.out.be).op hlt
   subst hqe
   rw [hx.out] at hcq
   have hxg := hgood.out x hxm
   have hxu := hug.out x hxm
   have hxl := hgl.out x hxm
   have hxd : (L.map Prod.fst).getD j opZ = x.1 := by
    rw [List.getD_eq_getElem?_getD, List.getElem?_map, List.getElem?_eq_getElem hlt, hx.out]; rfl
   have hOk := madeN_ok (l := L.map Prod.fst) (by intro o ho; obtain ⟨z, hz, rfl⟩ := List.mem_map.1 ho; exact hgood.out z hz) all j (by rw [List.length_map]; exact hj)
   have hst : madeN (L.map Prod.fst) all (j + 1) = if all = true ∨ (madeN (L.map Prod.fst) all j).may x.1 = 0 then (madeN (L.map Prod.fst) all j).act x.1 (x.1.name j) else madeN (L.map Prod.fst) all j := by
    rw [← hxd]; rfl
   obtain ⟨s, hs⟩ : ∃ s, Hid (madeN (L.map Prod.fst) all j = s) := ⟨_, Lib.hid rfl⟩
   rw [hs.out] at hst hOk hM
   obtain ⟨o, gp, gc⟩ := x
   replace hcq : ∀ i u, (opC o gp gc)[i]? = some u → wr.cell? ⟨bq, oq + j * 27 + i, none⟩ = some u := hcq
   replace hxg : o.Good := hxg
   replace hxu : UI w gp o.gs.length o.gs := hxu
   replace hxl : LtP w.heap.size gp := hxl
   replace hst : madeN (L.map Prod.fst) all (j + 1) = if all = true ∨ s.may o = 0 then s.act o (o.name j) else s := hst
   have hix1 : (0 : Int) ≤ (j : Int) := by omega
   have hix2 : (j : Int) < (L.length : Int) := by omega
   obtain ⟨mv, hmv⟩ : ∃ mv, Hid (s.may o = mv) := ⟨_, Lib.hid rfl⟩
   rw [hmv.out] at hst
   replace hcq := Lib.hid hcq
   replace hst := Lib.hid hst
   replace hOk := Lib.hid hOk
   replace hxu := Lib.hid hxu
   replace hxg := Lib.hid hxg
   replace hxl := Lib.hid hxl
   clear hxd hxm
   go_upto_region 5 with fail
   go_cut [30] from 15 to 29 (fun v T => v = .bool (all || (mv == 0)) ∧ Below wr.heap.size wr T)
   case first =>
    obtain ⟨wa, hwa⟩ : ∃ wa, Hid (wr.drew = wa) := ⟨_, Lib.hid rfl⟩
    have hba : Below wr.heap.size wr wa := by rw [← hwa.out]; exact (Below.refl _ _).drew
    have hMa := Lib.hid (hM.out.below hba)
    have hcd : ∀ i u, (opC o gp gc)[i]? = some u → wa.cell? ⟨bq, oq + j * 27 + i, none⟩ = some u := fun i u hu => (hba.cell (p := ⟨bq, oq + j * 27 + i, none⟩) (cell_lt (hcq.out i u hu))).trans (hcq.out i u hu)
    replace hcd := Lib.hid hcd
    have hb0 : Below wa.heap.size wa wa := Below.refl _ _
    have hboxa := Lib.hid hMa.out.box
    refine wp_region_D (D := fun T => Below wa.heap.size wa T) (by kernel_rfl) ?_
    rw [hwa.out]
    change wpAnyD _ _ _ _ _ 16 _ _ _
    apply tkD 0 hb0 rfl (by kernel_rfl) (by kernel_rfl) (by kernel_rfl) (fun _ _ _ h => by first | exact h | exact absurd h.1 (fun h => by cases h)) (by kernel_rfl)
    ·intro T hT
     go_simp
     try rfl
    try go_frame
    apply tkD 1 hb0 rfl (by kernel_rfl) (by kernel_rfl) (by kernel_rfl) (fun _ _ _ h => by first | exact h | exact absurd h.1 (fun h => by cases h)) (by kernel_rfl)
    ·intro T hT
     go_simp
     try rfl
    try go_frame
    cases all with
    | true =>
     refine noD 2 hb0 rfl (by kernel_rfl) (by kernel_rfl) (by kernel_rfl) (fun _ _ _ h => by first | exact h | exact absurd h.1 (fun h => by cases h)) (by kernel_rfl) ?_
     try go_frame
     refine noD 3 hb0 rfl (by kernel_rfl) (by kernel_rfl) (by kernel_rfl) (fun _ _ _ h => by first | exact h | exact absurd h.1 (fun h => by cases h)) (by kernel_rfl) ?_
     try go_frame
     refine noD 4 hb0 rfl (by kernel_rfl) (by kernel_rfl) (by kernel_rfl) (fun _ _ _ h => by first | exact h | exact absurd h.1 (fun h => by cases h)) (by kernel_rfl) ?_
     try go_frame
     refine noD 5 hb0 rfl (by kernel_rfl) (by kernel_rfl) (by kernel_rfl) (fun _ _ _ h => by first | exact h | exact absurd h.1 (fun h => by cases h)) (by kernel_rfl) ?_
     try go_frame
     refine noD 6 hb0 rfl (by kernel_rfl) (by kernel_rfl) (by kernel_rfl) (fun _ _ _ h => by first | exact h | exact absurd h.1 (fun h => by cases h)) (by kernel_rfl) ?_
     try go_frame
     refine noD 7 hb0 rfl (by kernel_rfl) (by kernel_rfl) (by kernel_rfl) (fun _ _ _ h => by first | exact h | exact absurd h.1 (fun h => by cases h)) (by kernel_rfl) ?_
     try go_frame
     refine noD 8 hb0 rfl (by kernel_rfl) (by kernel_rfl) (by kernel_rfl) (fun _ _ _ h => by first | exact h | exact absurd h.1 (fun h => by cases h)) (by kernel_rfl) ?_
     try go_frame
     refine noD 9 hb0 rfl (by kernel_rfl) (by kernel_rfl) (by kernel_rfl) (fun _ _ _ h => by first | exact h | exact absurd h.1 (fun h => by cases h)) (by kernel_rfl) ?_
     try go_frame
     refine noD 10 hb0 rfl (by kernel_rfl) (by kernel_rfl) (by kernel_rfl) (fun _ _ _ h => by first | exact h | exact absurd h.1 (fun h => by cases h)) (by kernel_rfl) ?_
     try go_frame
     refine noD 11 hb0 rfl (by kernel_rfl) (by kernel_rfl) (by kernel_rfl) (fun _ _ _ h => by first | exact h | exact absurd h.1 (fun h => by cases h)) (by kernel_rfl) ?_
     try go_frame
     refine noD 12 hb0 rfl (by kernel_rfl) (by kernel_rfl) (by kernel_rfl) (fun _ _ _ h => by first | exact h | exact absurd h.1 (fun h => by cases h)) (by kernel_rfl) ?_
     try go_frame
     refine noD 13 hb0 rfl (by kernel_rfl) (by kernel_rfl) (by kernel_rfl) (fun _ _ _ h => by first | exact h | exact absurd h.1 (fun h => by cases h)) (by kernel_rfl) ?_
     try go_frame
     refine noD 14 hb0 rfl (by kernel_rfl) (by kernel_rfl) (by kernel_rfl) (fun _ _ _ h => by first | exact h | exact absurd h.1 (fun h => by cases h)) (by kernel_rfl) ?_
     try go_frame
     apply tkD 15 hb0 rfl (by kernel_rfl) (by kernel_rfl) (by kernel_rfl) (fun _ _ _ h => by first | exact h | exact absurd h.1 (fun h => by cases h)) (by kernel_rfl)
     ·intro T hT
      go_simp
      try rfl
     try go_frame
     refine wpAnyD_done (by kernel_rfl) ?_ _
     go_wp2_with fail
     go_meet
     exact ⟨rfl, hba⟩
    | false =>
     apply tkD 2 hb0 rfl (by kernel_rfl) (by kernel_rfl) (by kernel_rfl) (fun _ _ _ h => by first | exact h | exact absurd h.1 (fun h => by cases h)) (by kernel_rfl)
     ·intro T hT
      exact run_loadR (hboxa.out.below hT) rfl rfl
     try go_frame
     apply tkD 3 hb0 rfl (by kernel_rfl) (by kernel_rfl) (by kernel_rfl) (fun _ _ _ h => by first | exact h | exact absurd h.1 (fun h => by cases h)) (by kernel_rfl)
     ·intro T hT
      go_simp
      try rfl
     try go_frame
     apply tkD 4 hb0 rfl (by kernel_rfl) (by kernel_rfl) (by kernel_rfl) (fun _ _ _ h => by first | exact h | exact absurd h.1 (fun h => by cases h)) (by kernel_rfl)
     ·intro T hT
      go_simp
      try rfl
     try go_frame
     apply tkD 5 hb0 rfl (by kernel_rfl) (by kernel_rfl) (by kernel_rfl) (fun _ _ _ h => by first | exact h | exact absurd h.1 (fun h => by cases h)) (by kernel_rfl)
     ·intro T hT
      go_simp
      try rfl
     try go_frame
     apply tkD 6 hb0 rfl (by kernel_rfl) (by kernel_rfl) (by kernel_rfl) (fun _ _ _ h => by first | exact h | exact absurd h.1 (fun h => by cases h)) (by kernel_rfl)
     ·intro T hT
      exact run_loadO (n := o) (gp := gp) (gc := gc) (b := bq) (k := oq + j * 27) (fun i u hu => (hT.cell (p := ⟨bq, oq + j * 27 + i, none⟩) (cell_lt (hcd.out i u hu))).trans (hcd.out i u hu)) rfl rfl
     try go_frame
     apply tkD 7 hb0 rfl (by kernel_rfl) (by kernel_rfl) (by kernel_rfl) (fun _ _ _ h => by first | exact h | exact absurd h.1 (fun h => by cases h)) (by kernel_rfl)
     ·intro T hT
      go_simp
      try rfl
     try go_frame
     apply tkD 8 hb0 rfl (by kernel_rfl) (by kernel_rfl) (by kernel_rfl) (fun _ _ _ h => by first | exact h | exact absurd h.1 (fun h => by cases h)) (by kernel_rfl)
     ·intro T hT
      go_simp
      try rfl
     try go_frame
     apply tkD 9 hb0 rfl (by kernel_rfl) (by kernel_rfl) (by kernel_rfl) (fun _ _ _ h => by first | exact h | exact absurd h.1 (fun h => by cases h)) (by kernel_rfl)
     ·intro T hT
      go_simp
      try rfl
     try go_frame
     apply tkD 10 hb0 rfl (by kernel_rfl) (by kernel_rfl) (by kernel_rfl) (fun _ _ _ h => by first | exact h | exact absurd h.1 (fun h => by cases h)) (by kernel_rfl)
     ·intro T hT
      exact run_loadO (n := o) (gp := gp) (gc := gc) (b := bq) (k := oq + j * 27) (fun i u hu => (hT.cell (p := ⟨bq, oq + j * 27 + i, none⟩) (cell_lt (hcd.out i u hu))).trans (hcd.out i u hu)) rfl rfl
     try go_frame
     apply tkD 11 hb0 rfl (by kernel_rfl) (by kernel_rfl) (by kernel_rfl) (fun _ _ _ h => by first | exact h | exact absurd h.1 (fun h => by cases h)) (by kernel_rfl)
     ·intro T hT
      go_simp
      try rfl
     try go_frame
     refine oneD 12 (by kernel_rfl) rfl (by kernel_rfl) (fun K hK => ?_)
     go_simp
     refine (Name_any o gp gc j _ hxg.out.ok.hk (by omega)).mono ?_
     rintro e wb ⟨rfl, hbb⟩
     refine hK _ _ ⟨hbb, ?_⟩
     clear hK K
     try go_frame
     refine oneD 13 (by kernel_rfl) rfl (by kernel_rfl) (fun K hK => ?_)
     go_simp
     refine (MayR_any wb a s Lr vs o gp gc (o.name j) j (hMa.out.below hbb).rf hMa.out.vo hOk.out (by omega) ((hxu.out.below (hMa.out.be.trans (hbb.mono hMa.out.be.size)))) hxg.out.ok.hgl).mono ?_
     rintro e wc ⟨rfl, hbc⟩
     rw [hmv.out]
     have hbac := hbb.trans (hbc.mono hbb.size)
     refine hK _ _ ⟨hbac, ?_⟩
     clear hK K
     try go_frame
     apply tkD 14 hbac rfl (by kernel_rfl) (by kernel_rfl) (by kernel_rfl) (fun _ _ _ h => by first | exact h | exact absurd h.1 (fun h => by cases h)) (by kernel_rfl)
     ·intro T hT
      go_simp
      try rfl
     try go_frame
     apply tkD 15 hbac rfl (by kernel_rfl) (by kernel_rfl) (by kernel_rfl) (fun _ _ _ h => by first | exact h | exact absurd h.1 (fun h => by cases h)) (by kernel_rfl)
     ·intro T hT
      go_simp
      try rfl
     try go_frame
     refine wpAnyD_done (by kernel_rfl) ?_ _
     go_wp2_with fail
     go_meet
     exact ⟨rfl, hba.trans (hbac.mono hba.size)⟩
   case rest =>
    obtain ⟨rfl, hbc⟩ := hcut
    have hMc := Lib.hid (hM.out.below hbc)
    have hcdc : ∀ i u, (opC o gp gc)[i]? = some u → wc.cell? ⟨bq, oq + j * 27 + i, none⟩ = some u := fun i u hu => (hbc.cell (p := ⟨bq, oq + j * 27 + i, none⟩) (cell_lt (hcq.out i u hu))).trans (hcq.out i u hu)
    replace hcdc := Lib.hid hcdc
    clear hM hcq hbc
    cases hdo : (all || (mv == 0)) with
    | false =>
     have hnx : Hid (madeN (L.map Prod.fst) all (j + 1) = s) := Lib.hid (by
      rw [hst.out, if_neg]
      rw [Bool.or_eq_false_iff, beq_eq_false_iff_ne] at hdo
      intro h
      rcases h with h | h
      ·rw [hdo.1] at h; cases h
      ·exact hdo.2 h)
     clear hdo
     go_wp2_with fail
     go_roundw
     case rel => exact ⟨j + 1, a, Lr, vs, by omega, by go_num, by rw [hnx.out]; exact hMc⟩
     case measure => simp [intOf]; omega
    | true =>
     obtain ⟨S2, hS2⟩ : ∃ S, Hid (s.act o (o.name j) = S) := ⟨_, Lib.hid rfl⟩
     have hnx : Hid (madeN (L.map Prod.fst) all (j + 1) = S2) := Lib.hid (by
      rw [hst.out, if_pos]
      ·exact hS2.out
      ·rw [Bool.or_eq_true, beq_iff_eq] at hdo
       exact hdo)
     clear hdo
     go_upto_region 6 with fail
     obtain ⟨wa, hwa⟩ : ∃ wa, Hid (wc.drew = wa) := ⟨_, Lib.hid rfl⟩
     have hba : Below wc.heap.size wc wa := by rw [← hwa.out]; exact (Below.refl _ _).drew
     have hMa := Lib.hid (hMc.out.below hba)
     have hcd : ∀ i u, (opC o gp gc)[i]? = some u → wa.cell? ⟨bq, oq + j * 27 + i, none⟩ = some u := fun i u hu => (hba.cell (p := ⟨bq, oq + j * 27 + i, none⟩) (cell_lt (hcdc.out i u hu))).trans (hcdc.out i u hu)
     replace hcd := Lib.hid hcd
     have hb0 : Below wa.heap.size wa wa := Below.refl _ _
     have hboxa := Lib.hid hMa.out.box
     refine wp_region_E (D := fun T => Below wa.heap.size wa T) 12 (by kernel_rfl) ?_
     rw [hwa.out]
     change wpAnyE _ _ _ _ _ _ 13 _ _ _
     apply tkE 0 hb0 rfl (by kernel_rfl) (by kernel_rfl) (by kernel_rfl) (by kernel_rfl) (fun _ _ _ h => by first | exact h | exact absurd h.1 (fun h => by cases h)) (by kernel_rfl)
     ·intro T hT
      exact run_loadR (hboxa.out.below hT) rfl rfl
     try go_frame
     apply tkE 1 hb0 rfl (by kernel_rfl) (by kernel_rfl) (by kernel_rfl) (by kernel_rfl) (fun _ _ _ h => by first | exact h | exact absurd h.1 (fun h => by cases h)) (by kernel_rfl)
     ·intro T hT
      go_simp
      try rfl
     try go_frame
     apply tkE 2 hb0 rfl (by kernel_rfl) (by kernel_rfl) (by kernel_rfl) (by kernel_rfl) (fun _ _ _ h => by first | exact h | exact absurd h.1 (fun h => by cases h)) (by kernel_rfl)
     ·intro T hT
      go_simp
      try rfl
     try go_frame
     apply tkE 3 hb0 rfl (by kernel_rfl) (by kernel_rfl) (by kernel_rfl) (by kernel_rfl) (fun _ _ _ h => by first | exact h | exact absurd h.1 (fun h => by cases h)) (by kernel_rfl)
     ·intro T hT
      go_simp
      try rfl
     try go_frame
     apply tkE 4 hb0 rfl (by kernel_rfl) (by kernel_rfl) (by kernel_rfl) (by kernel_rfl) (fun _ _ _ h => by first | exact h | exact absurd h.1 (fun h => by cases h)) (by kernel_rfl)
     ·intro T hT
      exact run_loadO (n := o) (gp := gp) (gc := gc) (b := bq) (k := oq + j * 27) (fun i u hu => (hT.cell (p := ⟨bq, oq + j * 27 + i, none⟩) (cell_lt (hcd.out i u hu))).trans (hcd.out i u hu)) rfl rfl
     try go_frame
     apply tkE 5 hb0 rfl (by kernel_rfl) (by kernel_rfl) (by kernel_rfl) (by kernel_rfl) (fun _ _ _ h => by first | exact h | exact absurd h.1 (fun h => by cases h)) (by kernel_rfl)
     ·intro T hT
      go_simp
      try rfl
     try go_frame
     apply tkE 6 hb0 rfl (by kernel_rfl) (by kernel_rfl) (by kernel_rfl) (by kernel_rfl) (fun _ _ _ h => by first | exact h | exact absurd h.1 (fun h => by cases h)) (by kernel_rfl)
     ·intro T hT
      go_simp
      try rfl
     try go_frame
     apply tkE 7 hb0 rfl (by kernel_rfl) (by kernel_rfl) (by kernel_rfl) (by kernel_rfl) (fun _ _ _ h => by first | exact h | exact absurd h.1 (fun h => by cases h)) (by kernel_rfl)
     ·intro T hT
      go_simp
      try rfl
     try go_frame
     apply tkE 8 hb0 rfl (by kernel_rfl) (by kernel_rfl) (by kernel_rfl) (by kernel_rfl) (fun _ _ _ h => by first | exact h | exact absurd h.1 (fun h => by cases h)) (by kernel_rfl)
     ·intro T hT
      exact run_loadO (n := o) (gp := gp) (gc := gc) (b := bq) (k := oq + j * 27) (fun i u hu => (hT.cell (p := ⟨bq, oq + j * 27 + i, none⟩) (cell_lt (hcd.out i u hu))).trans (hcd.out i u hu)) rfl rfl
     try go_frame
     apply tkE 9 hb0 rfl (by kernel_rfl) (by kernel_rfl) (by kernel_rfl) (by kernel_rfl) (fun _ _ _ h => by first | exact h | exact absurd h.1 (fun h => by cases h)) (by kernel_rfl)
     ·intro T hT
      go_simp
      try rfl
     try go_frame
     refine oneE 10 (by kernel_rfl) rfl (by kernel_rfl) (fun K hK => ?_)
     go_simp
     refine (Name_any o gp gc j _ hxg.out.ok.hk (by omega)).mono ?_
     rintro e wb ⟨rfl, hbb⟩
     refine hK _ _ ⟨.inr hbb, ?_⟩
     clear hK K
     try go_frame
     have hMb := hMa.out.below hbb
     have hb5b : b5 < wb.heap.size := blk_lt hMb.box
     have hbzb : bz < wb.heap.size := blk_lt hMb.z
     refine oneE 11 (by kernel_rfl) rfl (by kernel_rfl) (fun K hK => ?_)
     go_simp
     refine (DoR_any (fun b => b ≠ b5 ∧ b ≠ bz) wb a s Lr vs o gp gc (o.name j) j hMb.rf hMb.vo hOk.out (by omega) hxg.out.ok hMb.ri (fun b hb => ⟨by omega, by omega⟩) (hxu.out.below hMb.be) (fun q e => ⟨by have := hxl.out q e; omega, by have := hxl.out q e; omega⟩) (fun q e => Nat.lt_of_lt_of_le (hxl.out q e) hMb.be.size) (fun _ => by show (j : Int) < (j : Int) + 1; omega)).mono ?_
     rintro e T2 ⟨a2, L2, vs2, rfl, hR2, hV2, hI2', hbT⟩
     rw [hS2.out] at hR2 hV2 ⊢
     have hbaT := hbb.trans (hbT.mono hbb.size)
     refine hK _ _ ⟨.inr hbaT, ?_⟩
     clear hK K
     try go_frame
     have hMT := hMb.below hbT
     have hboxs := hMT.box
     refine oneE 12 (by kernel_rfl) rfl (by kernel_rfl) (fun K hK => ?_)
     refine wp_store_row 60 _ _ rfl b5 _ rfl rfl 60 _ hboxs (rfC_info _ _ _) rfl (rfC_one _ _ _) ?_
     refine hK _ _ ⟨.inl rfl, ?_⟩
     clear hK K
     try go_frame
     refine wpAnyE_done (by kernel_rfl) ?_ _
     have hnew : MkSt w (T2.setRow b5 (rfC a2 S2 vs2.length)) b5 bz S2 a2 L2 vs2 :=
      ⟨setRow_heap T2 b5 _ _ _ _ hboxs, hMT.z.keep (setRow_other T2 b5 bz _ hz5), hR2.setRow (hI2'.mono fun _ h => h.1), hV2, hI2', belowSetRow hMT.be hb50 _⟩
     obtain ⟨wg, hwg, hPe⟩ := nameW (p := fun W => MkSt w W b5 bz S2 a2 L2 vs2) hnew
     rw [hwg.out]
     replace hPe := Lib.hid hPe
     clear hnew hboxs hMT hMb hboxa hb0
     go_wp2_with fail
     go_roundw
     case rel => exact ⟨j + 1, a2, L2, vs2, by omega, by go_num, by rw [hnx.out]; exact hPe⟩
     case measure => simp [intOf]; omega
  ·have hjn : j = L.length := by omega
   subst hjn
   obtain ⟨S, hS⟩ : ∃ S, Hid (madeN (L.map Prod.fst) all L.length = S) := ⟨_, Lib.hid rfl⟩
   rw [hS.out] at hM
   have hbox := hM.out.box
   have hz := hM.out.z
   go_wp2_with (first
    | (refine wpList_load_row rfl 60 _ rfl b5 rfl 60 _ (0, 0) _ hbox Tryd.underlying60 rfl (rfC_info _ _ _) ?_)
    | (refine wpList_store_row rfl 60 _ _ rfl bz _ rfl rfl 60 rZ hz (rfC_info _ _ _) rfl (rfC_one _ _ _) ?_)
    | fail)
   refine bodyPost_ret (v := .agg (rfC a S vs.length)) ?_ rfl ?_
   ·exact results_cell_row rfl _ _ bz 60 _ (0, 0) _ rfl (setRow_heap _ _ _ _ _ _ hz) Tryd.underlying60 rfl (rfC_info _ _ _)
   ·have hBf := belowSetRow (cs := rfC a S vs.length) hM.out.be hbz0
    have hri : RfIn (· ≠ bz) a Lr := hM.out.ri.mono fun _ h => h.2
    rw [hS.out]
    exact ⟨a, Lr, vs, rfl, hM.out.rf.setRow hri, hM.out.vo, hBf⟩
end Go.Proofs.YtkolilbebkkpdaaDoor

