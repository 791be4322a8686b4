/-
  RollMays: the walk.
-/
import Derived.Test.YtkolilbebkkpdaaDoorRsRoHh
namespace Go.Proofs.YtkolilbebkkpdaaDoor
open Go.RowKit Go.Maps Go.BigFrame
attribute [local go_sem] in_gr

/-- Where RollMays stands. -/
structure MySt (w wr : World) (y y2 : Lay) (S : RS) (b6 : Nat) (a : RfV) (L : List ME) (vs : List VI) (q : Option Addr) (Lo : List (OpI × Option Addr × Nat)) (p2 : Option Addr) (n2 : Nat) (ks : List Int) : Prop where
 asks : Asks wr
 ro : RollAt wr y S
 no : RollAt wr y2 RS.new
 box : RfBox wr b6 a S vs.length
 rf : RfAt wr a S L vs
 be : Below w.heap.size w wr
 rd : RdE opE wr q Lo
 uk : UI wr p2 n2 ks
theorem MySt.below {w wr W : World} {y y2 : Lay} {S : RS} {b6 : Nat} {a : RfV} {L : List ME} {vs : List VI} {q : Option Addr} {Lo : List (OpI × Option Addr × Nat)} {p2 : Option Addr} {n2 : Nat} {ks : List Int} (h : MySt w wr y y2 S b6 a L vs q Lo p2 n2 ks) (hb : Below wr.heap.size wr W) : MySt w W y y2 S b6 a L vs q Lo p2 n2 ks :=
 ⟨h.asks.below hb, h.ro.below hb, h.no.below hb, h.box.below hb, h.rf.below hb, h.be.trans (hb.mono h.be.size), h.rd.below hb, h.uk.below hb⟩
set_option maxRecDepth 100000 in
set_option maxHeartbeats 16000000 in
theorem mays_any (w : World) (hA : Asks w) (p : Option Addr) (n : Nat) (xs : List Int) (c : Nat) (hU : UI w p n xs) (hc : n ≤ c) (p2 : Option Addr) (n2 : Nat) (ks : List Int) (c2 : Nat) (hU2 : UI w p2 n2 ks) (hc2 : n2 ≤ c2) :
  Calls Tryd.prog 6 #[.slice p n c, .slice p2 n2 c2] w fun e w' => e = .returned (.bool true) ∧ Below w.heap.size w w' := by
 go_enter Tryd.func6, Tryd.ntmps6
 go_wp2_with fail
 refine (Ops_any w p n xs c hU hc).mono ?_
 rintro e w1 ⟨v, L, rfl, hG, hL, hb1⟩
 obtain ⟨q, d, rfl, hd, hRd, hfq, _, _⟩ := hG.own.u
 have hgood := opsN_good xs 21 (by omega)
 rw [← hL] at hgood
 have hLl : L.length ≤ 900 := by have := opsN_len xs 21; rw [← hL, List.length_map] at this; omega
 have hgx : ∀ x ∈ L, x.1.Good := fun x hx => hgood x.1 (List.mem_map.2 ⟨x, hx, rfl⟩)
 have hOkS := madeN_ok (l := L.map Prod.fst) hgood false L.length (by rw [List.length_map]; exact Nat.le_refl _)
 go_wp2_with fail
 refine (MadeR_any w1 w.heap.size q L d hG hgx hLl false).mono ?_
 rintro e w2 ⟨a, Lm, vs, rfl, hR2, hV2, hb2⟩
 obtain ⟨S, hS⟩ : ∃ S, Hid (madeN (L.map Prod.fst) false L.length = S) := ⟨_, Lib.hid rfl⟩
 rw [hS.out] at hR2 hV2 hOkS ⊢
 have hb3 := Below.lit w2 (.cells (rfC a S vs.length) 60)
 obtain ⟨w3, hw3, hbox3⟩ := nameW (p := fun W => RfBox W w2.heap.size a S vs.length) (RfBox.made w2 _ _ _)
 rw [hw3.out] at hb3
 obtain ⟨b6, hb6n⟩ : ∃ b, Hid (w2.heap.size = b) := ⟨_, Lib.hid rfl⟩
 rw [hb6n.out] at hbox3
 have hb23 := hb2.trans (hb3.mono hb2.size)
 have hb13 := hb1.trans (hb23.mono hb1.size)
 have hR3 := hR2.below hb3
 have hG3 := hG.below hb23
 go_upto_region 3 with (first
  | (rw [hw3.out])
  | (refine wpL_allocT 60 rZ rfl rfl (zero_R _) ?_; simp only [Act.put, List.setIfInBounds_toArray, List.set_cons_succ, List.set_cons_zero])
  | (refine wpL_storeT 60 _ (rfC a S vs.length) rfl _ _ rfl (by first | rfl | (simp only [World.size_alloc]; rfl)) rfl (rfC_info _ _ _) rfl (rfC_one _ _ _) ?_; try simp only [Act.put])
  | fail)
 rw [hb6n.out]
 go_wp2_with fail
 refine (made_any w3 (hA.below hb13) w.heap.size q L d hG3 hgx hLl false).mono ?_
 rintro e w4 ⟨y, rfl, hS4⟩
 rw [hS.out] at hS4
 have hb34 := hS4.below
 go_wp2_with fail
 refine (Cards_any _).mono ?_
 rintro e w5 ⟨v, rfl, hown, hb5⟩
 obtain ⟨p1, c1, rfl, hc1, hRc, _⟩ := hown.u
 go_wp2_with fail
 refine (New_any _ p1 c1 hRc).mono ?_
 rintro e w6 ⟨y2, rfl, hN6, hb6, _⟩
 have hb46 := hb5.trans (hb6.mono hb5.size)
 have hb36 := hb34.trans (hb46.mono hb34.size)
 have hb16 := hb13.trans (hb36.mono hb13.size)
 have hM0 : MySt w w6 y y2 S b6 a Lm vs q L p2 n2 ks :=
  ⟨hS4.asks.below hb46, hS4.roll.below hb46, hN6, hbox3.below hb36, hR3.below hb36, hb16, hRd.below (hb23.trans (hb36.mono hb23.size)), hU2.below hb16⟩
 clear hown hRc hc1 hb1 hb2 hb3 hb23 hb13 hR2 hR3 hG hG3 hS4 hb34 hb5 hb6 hb46 hb36 hb16 hN6 hbox3 hRd hfq hU hU2 hA
 replace hM0 := Lib.hid hM0
 replace hgood := Lib.hid hgood
 replace hgx := Lib.hid hgx
 replace hOkS := Lib.hid hOkS
 replace hV2 := Lib.hid hV2
 replace hL := Lib.hid hL
 go_wp2_with fail
 go_loopw [9] (fun i wr => ∃ j : Nat, j ≤ 8 ∧ i = .int .i64 j ∧ Hid (MySt w wr y y2 S b6 a Lm vs q L p2 n2 ks)) (fun i _ => 8 - (intOf i).toNat)
 case atStart => exact ⟨0, by omega, rfl, hM0⟩
 case round =>
  clear hM0
  obtain ⟨j, hj, rfl, hM⟩ := hrel
  obtain ⟨k4, hk4⟩ : ∃ k : Nat, 4 * j = k := ⟨_, rfl⟩
  have e4 : (4 : Int) * (j : Int) = (k4 : Int) := by omega
  have w4 : IntKind.i64.wrap (k4 : Int) = k4 := wrapS (by omega) (by omega)
  by_cases hlt : j < 8 ∧ 4 * j < n2
  ·obtain ⟨hlt1, hlt2⟩ := hlt
   have t1 : decide ((j : Int) < 8) = true := decide_eq_true (by omega)
   have t2 : decide (j < 8) = true := decide_eq_true hlt1
   have hk4n : (k4 : Int) < (n2 : Int) := by omega
   have t3 : decide ((k4 : Int) < (n2 : Int)) = true := decide_eq_true hk4n
   have t4 : decide (k4 < n2) = true := decide_eq_true (by omega)
   obtain ⟨b, off, hpe, _, _, _⟩ := hM.out.uk.look (i := k4) (by omega)
   have hUk := hM.out.uk
   rw [hpe] at hUk
   have hdr := hUk.drop (k := k4) (by omega)
   subst hpe
   have hMr := hM.out.rd
   replace hUk := Lib.hid hUk
   go_wp2_with fail
   refine (Op_any wr _ (n2 - k4) (ks.drop k4) (c2 - k4) hdr q L d hMr (by omega) (fun x hx => (hgx.out x hx).ok)).mono ?_
   rintro e wa ⟨gp, gc, rfl, hug, hgf, hba⟩
   have hog : (opN (ks.drop k4) (L.map Prod.fst)).Good := opN_good (ks.drop k4) (fun o ho => (hgood.out o ho).ok) (by rw [List.length_map]; omega)
   obtain ⟨o, ho⟩ : ∃ o, Hid (opN (ks.drop k4) (L.map Prod.fst) = o) := ⟨_, Lib.hid rfl⟩
   rw [ho.out] at hug hog ⊢
   have hMa := hM.out.below hba
   have hbb := Below.lit wa (.cells (opC o gp gc) 42)
   obtain ⟨wb, hwb, hOb⟩ := nameW (p := fun W => OpAt W wa.heap.size o gp gc) (OpAt.made wa o gp gc)
   rw [hwb.out] at hbb
   obtain ⟨bo, hbo⟩ : ∃ bo, Hid (wa.heap.size = bo) := ⟨_, Lib.hid rfl⟩
   rw [hbo.out] at hOb
   have hMb := Lib.hid (hMa.below hbb)
   have hub := Lib.hid (hug.below hbb)
   clear hMa hMr hug hba hbb hgf hM
   replace hog := Lib.hid hog
   replace hdr := Lib.hid hdr
   go_upto_region 11 with (first
    | (rw [hwb.out])
    | (refine wpL_alloc rfl rfl ?_; simp only [Act.put, List.setIfInBounds_toArray, List.set_cons_succ, List.set_cons_zero])
    | (refine wpL_store rfl _ _ rfl (n := o) (gp := gp) (gc := gc) (by first | rfl | (simp only [World.size_alloc]; rfl)) rfl ?_; try simp only [Act.put])
    | fail)
   rw [hbo.out]
   go_wp2_with (first
    | (refine wpList_load_row rfl 42 _ rfl bo rfl 42 (opC o gp gc) (0, 0) _ hOb Tryd.underlying42 rfl (by kernel_rfl) ?_)
    | fail)
   refine (Name_any o gp gc L.length _ hog.out.ok.hk (by omega)).mono ?_
   rintro e wc ⟨rfl, hbc⟩
   have hMc := hMb.out.below hbc
   have hOc := hOb.below hbc (cell_lt hOb.cb)
   have huc := hub.out.below hbc
   have hbd := Below.lit wc (.cells #[.int .i64 o.b, .int .i64 ((L.length : Int) + 1), .int .u64 o.k] 34)
   have hId' : IdAt (wc.alloc (.cells #[.int .i64 o.b, .int .i64 ((L.length : Int) + 1), .int .u64 o.k] 34)) wc.heap.size (o.name L.length) := IdAt.made wc (o.name L.length)
   obtain ⟨wd, hwd, hId⟩ := nameW (p := fun W => IdAt W wc.heap.size (o.name L.length)) hId'
   rw [hwd.out] at hbd
   obtain ⟨bi, hbi⟩ : ∃ bi, Hid (wc.heap.size = bi) := ⟨_, Lib.hid rfl⟩
   rw [hbi.out] at hId
   have hMd := Lib.hid (hMc.below hbd)
   have hOd := hOc.below hbd (cell_lt hOc.cb)
   have hud := Lib.hid (huc.below hbd)
   clear hMb hub hOb hbc hMc hOc huc hbd hId'
   go_upto_region 12 with (first | (rw [hwd.out]) | fail)
   rw [hbi.out]
   go_cut [67] from 47 to 66 (fun v T => v = .bool false ∧ Below wd.heap.size wd T)
   case first =>
    obtain ⟨we, hwe⟩ : ∃ we, Hid (wd.drew = we) := ⟨_, Lib.hid rfl⟩
    have hbe := (Below.refl wd.heap.size wd).drew
    rw [hwe.out] at hbe
    have hMe := Lib.hid (hMd.out.below hbe)
    have hOe := hOd.below hbe (cell_lt hOd.cb)
    have hue := Lib.hid (hud.out.below hbe)
    have hIe := hId.below hbe
    have i0 : we.cell? ⟨bi, 0, none⟩ = some (.int .i64 o.b) := by simp [World.cell?, show we.heap[bi]? = _ from hIe]; rfl
    have i1 : we.cell? ⟨bi, 1, none⟩ = some (.int .i64 ((L.length : Int) + 1)) := by simp [World.cell?, show we.heap[bi]? = _ from hIe]; rfl
    have i2 : we.cell? ⟨bi, 2, none⟩ = some (.int .u64 o.k) := by simp [World.cell?, show we.heap[bi]? = _ from hIe]; rfl
    have hcd : ∀ i u, (opC o gp gc)[i]? = some u → we.cell? ⟨bo, 0 + i, none⟩ = some u := fun i u hu => by rw [Nat.zero_add, hOe.cell]; exact hu
    replace hcd := Lib.hid hcd
    have hboxe := Lib.hid hMe.out.box
    have hb0 : Below we.heap.size we we := Below.refl _ _
    obtain ⟨mv, hmv⟩ : ∃ mv, Hid (S.may o = mv) := ⟨_, Lib.hid rfl⟩
    obtain ⟨nv, hnv⟩ : ∃ nv, Hid (RS.new.may o = nv) := ⟨_, Lib.hid rfl⟩
    have t5 : (mv != mv) = false := bne_self_eq_false _
    have t6 : (nv != nv) = false := bne_self_eq_false _
    refine wp_region_D (D := fun T => Below we.heap.size we T) (by kernel_rfl) ?_
    rw [hwe.out]
    change wpAnyD _ _ _ _ _ 21 _ _ _
    apply tkD 0 hb0 rfl (by kernel_rfl) (by kernel_rfl) (by kernel_rfl) (fun _ _ _ h => by first | exact h | exact absurd h.1 (fun h => by cases h)) (by kernel_rfl)
    ·intro T hT
     go_simp
     try rfl
    try go_frame
    apply tkD 1 hb0 rfl (by kernel_rfl) (by kernel_rfl) (by kernel_rfl) (fun _ _ _ h => by first | exact h | exact absurd h.1 (fun h => by cases h)) (by kernel_rfl)
    ·intro T hT
     exact run_loadO (n := o) (gp := gp) (gc := gc) (b := bo) (k := 0) (fun i u hu => (hT.cell (p := ⟨bo, 0 + i, none⟩) (cell_lt (hcd.out i u hu))).trans (hcd.out i u hu)) rfl rfl
    try go_frame
    apply tkD 2 hb0 rfl (by kernel_rfl) (by kernel_rfl) (by kernel_rfl) (fun _ _ _ h => by first | exact h | exact absurd h.1 (fun h => by cases h)) (by kernel_rfl)
    ·intro T hT
     have hT0 := (hT.cell (cell_lt i0)).trans i0
     have hT1 := (hT.cell (cell_lt i1)).trans i1
     have hT2 := (hT.cell (cell_lt i2)).trans i2
     go_simp
     try rfl
    try go_frame
    apply tkD 4 hb0 rfl (by kernel_rfl) (by kernel_rfl) (by kernel_rfl) (fun _ _ _ h => by first | exact h | exact absurd h.1 (fun h => by cases h)) (by kernel_rfl)
    ·intro T hT
     exact run_loadR (hboxe.out.below hT) rfl rfl
    try go_frame
    apply tkD 5 hb0 rfl (by kernel_rfl) (by kernel_rfl) (by kernel_rfl) (fun _ _ _ h => by first | exact h | exact absurd h.1 (fun h => by cases h)) (by kernel_rfl)
    ·intro T hT
     exact run_loadO (n := o) (gp := gp) (gc := gc) (b := bo) (k := 0) (fun i u hu => (hT.cell (p := ⟨bo, 0 + i, none⟩) (cell_lt (hcd.out i u hu))).trans (hcd.out i u hu)) rfl rfl
    try go_frame
    apply tkD 6 hb0 rfl (by kernel_rfl) (by kernel_rfl) (by kernel_rfl) (fun _ _ _ h => by first | exact h | exact absurd h.1 (fun h => by cases h)) (by kernel_rfl)
    ·intro T hT
     have hT0 := (hT.cell (cell_lt i0)).trans i0
     have hT1 := (hT.cell (cell_lt i1)).trans i1
     have hT2 := (hT.cell (cell_lt i2)).trans i2
     go_simp
     try rfl
    try go_frame
    refine oneD 3 (by kernel_rfl) rfl (by kernel_rfl) (fun K hK => ?_)
    go_simp
    refine (May_any we y S o gp gc (o.name L.length) L.length (by omega) hMe.out.asks hMe.out.ro hOkS.out hog.out.ok hue.out).mono ?_
    rintro e wf ⟨rfl, hbf⟩
    rw [hmv.out]
    refine hK _ _ ⟨hbf, ?_⟩
    clear hK K
    try go_frame
    refine oneD 7 (by kernel_rfl) rfl (by kernel_rfl) (fun K hK => ?_)
    go_simp
    refine (MayR_any wf a S Lm vs o gp gc (o.name L.length) L.length (hMe.out.below hbf).rf hV2.out hOkS.out (by omega) (hue.out.below hbf) hog.out.ok.hgl).mono ?_
    rintro e wg ⟨rfl, hbg⟩
    rw [hmv.out]
    have hbfg := hbf.trans (hbg.mono hbf.size)
    refine hK _ _ ⟨hbfg, ?_⟩
    clear hK K
    try go_frame
    apply tkD 8 hbfg rfl (by kernel_rfl) (by kernel_rfl) (by kernel_rfl) (fun _ _ _ h => by first | exact h | exact absurd h.1 (fun h => by cases h)) (by kernel_rfl)
    ·intro T hT
     go_simp
     try rfl
    try go_frame
    apply tkD 9 hbfg rfl (by kernel_rfl) (by kernel_rfl) (by kernel_rfl) (fun _ _ _ h => by first | exact h | exact absurd h.1 (fun h => by cases h)) (by kernel_rfl)
    ·intro T hT
     go_simp
     try rfl
    try go_frame
    apply tkD 10 hbfg rfl (by kernel_rfl) (by kernel_rfl) (by kernel_rfl) (fun _ _ _ h => by first | exact h | exact absurd h.1 (fun h => by cases h)) (by kernel_rfl)
    ·intro T hT
     go_simp
     try rfl
    try go_frame
    apply tkD 11 hbfg rfl (by kernel_rfl) (by kernel_rfl) (by kernel_rfl) (fun _ _ _ h => by first | exact h | exact absurd h.1 (fun h => by cases h)) (by kernel_rfl)
    ·intro T hT
     exact run_loadO (n := o) (gp := gp) (gc := gc) (b := bo) (k := 0) (fun i u hu => (hT.cell (p := ⟨bo, 0 + i, none⟩) (cell_lt (hcd.out i u hu))).trans (hcd.out i u hu)) rfl rfl
    try go_frame
    apply tkD 12 hbfg rfl (by kernel_rfl) (by kernel_rfl) (by kernel_rfl) (fun _ _ _ h => by first | exact h | exact absurd h.1 (fun h => by cases h)) (by kernel_rfl)
    ·intro T hT
     have hT0 := (hT.cell (cell_lt i0)).trans i0
     have hT1 := (hT.cell (cell_lt i1)).trans i1
     have hT2 := (hT.cell (cell_lt i2)).trans i2
     go_simp
     try rfl
    try go_frame
    apply tkD 16 hbfg rfl (by kernel_rfl) (by kernel_rfl) (by kernel_rfl) (fun _ _ _ h => by first | exact h | exact absurd h.1 (fun h => by cases h)) (by kernel_rfl)
    ·intro T hT
     exact run_loadO (n := o) (gp := gp) (gc := gc) (b := bo) (k := 0) (fun i u hu => (hT.cell (p := ⟨bo, 0 + i, none⟩) (cell_lt (hcd.out i u hu))).trans (hcd.out i u hu)) rfl rfl
    try go_frame
    apply tkD 17 hbfg rfl (by kernel_rfl) (by kernel_rfl) (by kernel_rfl) (fun _ _ _ h => by first | exact h | exact absurd h.1 (fun h => by cases h)) (by kernel_rfl)
    ·intro T hT
     have hT0 := (hT.cell (cell_lt i0)).trans i0
     have hT1 := (hT.cell (cell_lt i1)).trans i1
     have hT2 := (hT.cell (cell_lt i2)).trans i2
     go_simp
     try rfl
    try go_frame
    refine oneD 13 (by kernel_rfl) rfl (by kernel_rfl) (fun K hK => ?_)
    go_simp
    refine (May_any wg y2 RS.new o gp gc (o.name L.length) 0 (by omega) (hMe.out.below hbfg).asks (hMe.out.below hbfg).no (new_ok 0) hog.out.ok (hue.out.below hbfg)).mono ?_
    rintro e wh ⟨rfl, hbh⟩
    rw [hnv.out]
    have hbeh := hbfg.trans (hbh.mono hbfg.size)
    refine hK _ _ ⟨hbeh, ?_⟩
    clear hK K
    try go_frame
    refine oneD 14 (by kernel_rfl) rfl (by kernel_rfl) (fun K hK => ?_)
    go_simp
    refine (Cards_any wh).mono ?_
    rintro e wi ⟨v, rfl, hownC, hbi'⟩
    obtain ⟨pc, cc, rfl, _, hRcc, _, _, hob⟩ := hownC.u
    have hbei := hbeh.trans (hbi'.mono hbeh.size)
    refine hK _ _ ⟨hbei, ?_⟩
    clear hK K
    try go_frame
    refine oneD 15 (by kernel_rfl) rfl (by kernel_rfl) (fun K hK => ?_)
    go_simp
    refine (NewR_any wi pc cc).mono ?_
    rintro e wj ⟨rfl, hbj⟩
    have hbej := hbei.trans (hbj.mono hbei.size)
    refine hK _ _ ⟨hbej, ?_⟩
    clear hK K
    try go_frame
    refine oneD 18 (by kernel_rfl) rfl (by kernel_rfl) (fun K hK => ?_)
    go_simp
    refine (MayR_any wj (newV pc cc) RS.new [] [] o gp gc (o.name L.length) 0 (newRf (hRcc.below hbj) cc (fun q e => Nat.lt_of_lt_of_le (hownC.lt (hob q e)).2 hbj.size)) newVs (new_ok 0) (by omega) (hue.out.below hbej) hog.out.ok.hgl).mono ?_
    rintro e wk ⟨rfl, hbk⟩
    rw [hnv.out]
    have hbek := hbej.trans (hbk.mono hbej.size)
    refine hK _ _ ⟨hbek, ?_⟩
    clear hK K
    try go_frame
    apply tkD 19 hbek rfl (by kernel_rfl) (by kernel_rfl) (by kernel_rfl) (fun _ _ _ h => by first | exact h | exact absurd h.1 (fun h => by cases h)) (by kernel_rfl)
    ·intro T hT
     go_simp
     try rfl
    try go_frame
    apply tkD 20 hbek rfl (by kernel_rfl) (by kernel_rfl) (by kernel_rfl) (fun _ _ _ h => by first | exact h | exact absurd h.1 (fun h => by cases h)) (by kernel_rfl)
    ·intro T hT
     go_simp
     try rfl
    try go_frame
    refine wpAnyD_done (by kernel_rfl) ?_ _
    go_wp2_with fail
    go_meet
    exact ⟨rfl, hbe.trans (hbek.mono hbe.size)⟩
   case rest =>
    obtain ⟨rfl, hbc⟩ := hcut
    have hMf := Lib.hid (hMd.out.below hbc)
    clear hbc hMd hOd hud hId
    go_wp2_with fail
    go_roundw
    case rel => exact ⟨j + 1, by omega, by go_num, hMf⟩
    case measure => simp [intOf]; omega
  ·have hboxe := hM.out.box
   have hal := alike_any wr y a S Lm vs L.length hM.out.ro hM.out.rf hV2.out hOkS.out (by omega)
   by_cases h8 : j < 8
   ·have t1 : decide ((j : Int) < 8) = true := decide_eq_true (by omega)
    have t2 : decide (j < 8) = true := decide_eq_true h8
    have t3 : decide ((k4 : Int) < (n2 : Int)) = false := decide_eq_false (by omega)
    have t4 : decide (k4 < n2) = false := decide_eq_false (by omega)
    go_upto_region 14 with fail
    go_wp2_with (first
     | (refine wpList_load_row rfl 60 _ rfl b6 rfl 60 _ (0, 0) _ hboxe Tryd.underlying60 rfl (rfC_info _ _ _) ?_)
     | fail)
    refine hal.mono ?_
    rintro e wa ⟨rfl, hba⟩
    have hMa := hM.out.below hba
    go_wp2_with fail
    refine (Devices_any wa y2 RS.new 0 hMa.no (new_ok 0)).mono ?_
    rintro e wb ⟨pz, cz, rfl, _, _, hbb⟩
    rw [show RS.new.ins.length = 0 from rfl]
    have hMb := hMa.below hbb
    go_wp2_with fail
    refine (lives_any _ hMb.asks).mono ?_
    rintro e wz ⟨rfl, hbz⟩
    have hBe := hMb.be.trans (hbz.mono hMb.be.size)
    go_wp2_with fail
    go_ret
    exact ⟨rfl, hBe⟩
   ·have t1 : decide ((j : Int) < 8) = false := decide_eq_false (by omega)
    have t2 : decide (j < 8) = false := decide_eq_false h8
    go_upto_region 14 with fail
    go_wp2_with (first
     | (refine wpList_load_row rfl 60 _ rfl b6 rfl 60 _ (0, 0) _ hboxe Tryd.underlying60 rfl (rfC_info _ _ _) ?_)
     | fail)
    refine hal.mono ?_
    rintro e wa ⟨rfl, hba⟩
    have hMa := hM.out.below hba
    go_wp2_with fail
    refine (Devices_any wa y2 RS.new 0 hMa.no (new_ok 0)).mono ?_
    rintro e wb ⟨pz, cz, rfl, _, _, hbb⟩
    rw [show RS.new.ins.length = 0 from rfl]
    have hMb := hMa.below hbb
    go_wp2_with fail
    refine (lives_any _ hMb.asks).mono ?_
    rintro e wz ⟨rfl, hbz⟩
    have hBe := hMb.be.trans (hbz.mono hMb.be.size)
    go_wp2_with fail
    go_ret
    exact ⟨rfl, hBe⟩
end Go.Proofs.YtkolilbebkkpdaaDoor

