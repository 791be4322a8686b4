/-
  RollSame: the walk.
-/
import Derived.Test.YtkolilbebkkpdaaDoorRsRoHm
import Derived.Test.YtkolilbebkkpdaaDoorRmQ
import Derived.Test.YtkolilbebkkpdaaDoorRmR
namespace Go.Proofs.YtkolilbebkkpdaaDoor
open Go.RowKit Go.Maps Go.BigFrame
attribute [local go_sem] in_gr

set_option maxRecDepth 100000 in
theorem HasB_any (p : Option Addr) (n : Nat) (xs : List Int) (c : Nat) (x : Int) (w : World) (hX : UI w p n xs) (hn : n ≤ 9223372036854775807) :
  Calls Tryd.prog 35 #[.slice p n c, .int .i64 x] w fun e w' => e = .returned (.bool (decide (x ∈ xs))) ∧ w = w' := by
 have hlx := Lib.hid hX.len
 obtain ⟨r, hr⟩ : ∃ r, Hid (decide (x ∈ xs) = r) := ⟨_, Lib.hid rfl⟩
 rw [hr.out]
 go_enter Tryd.func35, Tryd.ntmps35
 go_wp2_with fail
 go_loopw [5] (fun i wr => ∃ k : Nat, k ≤ n ∧ i = .int .i64 k ∧ Hid (∀ j, j < k → nth xs j ≠ x) ∧ w = wr) (fun i _ => n - (intOf i).toNat)
 case atStart => exact ⟨0, Nat.zero_le _, rfl, Lib.hid (fun j hj => absurd hj (by omega)), rfl⟩
 case round =>
  obtain ⟨k, hk, rfl, hall, rfl⟩ := hrel
  by_cases hlt : k < n
  ·obtain ⟨b, off, rfl, _, hc1, _⟩ := hX.look hlt
   have hix1 : (0 : Int) ≤ (k : Int) := by omega
   have hix2 : (k : Int) < (n : Int) := by omega
   obtain ⟨y, hy⟩ : ∃ y, Hid (nth xs k = y) := ⟨_, Lib.hid rfl⟩
   rw [hy.out] at hc1
   by_cases hxy : y = x
   ·have t1 : (y == x) = true := beq_iff_eq.2 hxy
    have hrt : Hid (r = true) := Lib.hid (by
     rw [← hr.out, decide_eq_true_eq, ← hxy, ← hy.out]
     have hkx : k < xs.length := by rw [hlx.out]; exact hlt
     unfold nth
     rw [List.getD_eq_getElem?_getD, List.getElem?_eq_getElem hkx]
     exact List.getElem_mem hkx)
    replace hxy := Lib.hid hxy
    go_wp2_with fail
    go_ret
    exact ⟨ret_bool (b := r) hrt.out.symm, rfl⟩
   ·have t1 : (y == x) = false := beq_eq_false_iff_ne.2 hxy
    replace hxy := Lib.hid hxy
    go_wp2_with fail
    go_roundw
    case rel => exact ⟨k + 1, by omega, by go_num, Lib.hid (fun j hj => by
     rcases Nat.lt_or_ge j k with h | h
     ·exact hall.out j h
     ·obtain rfl : j = k := by omega
      rw [hy.out]; exact hxy.out), by first | rfl | trivial⟩
    case measure => simp [intOf]; omega
  ·have hkn : k = n := by omega
   have hrf : Hid (r = false) := Lib.hid (by
    rw [← hr.out]
    refine decide_eq_false fun hm => ?_
    obtain ⟨i, hi, e⟩ := List.mem_iff_getElem.1 hm
    refine hall.out i (by have := hlx.out; omega) ?_
    unfold nth
    rw [List.getD_eq_getElem?_getD, List.getElem?_eq_getElem hi]
    exact e)
   go_wp2_with fail
   go_ret
   exact ⟨ret_bool (b := r) hrf.out.symm, rfl⟩
def eS : OpI := ⟨1, 99, 3, 0, 0, 0, 1, 0, ⟨0, 0, 0⟩, [], 0, 0⟩
theorem eS_ok : eS.Ok := ok_of (by decide) (by decide) (by decide) (by decide) (by decide) (by decide) (by decide) (by decide) sm0 (by decide) (by decide) g0
set_option maxRecDepth 100000 in
set_option maxHeartbeats 16000000 in
theorem sameLaw_any (w : World) (hA : Asks w) (p : Option Addr) (n : Nat) (xs : List Int) (c : Nat) (hU : UI w p n xs) (hc : n ≤ c) (p2 : Option Addr) (n2 : Nat) (os : List Int) (c2 : Nat) (hU2 : UI w p2 n2 os) (_hc2 : n2 ≤ c2) (hn2 : n2 ≤ 9223372036854775807) (all : Bool) :
  Calls Tryd.prog 9 #[.slice p n c, .slice p2 n2 c2, .bool all] w fun e w' => e = .returned (.bool true) ∧ Below w.heap.size w w' := by
 go_enter Tryd.func9, Tryd.ntmps9
 go_wp2_with fail
 refine (Ops_any w p n xs c hU hc).mono ?_
 rintro e w1 ⟨v, L, rfl, hG, hL, hb1⟩
 obtain ⟨q, d, rfl, hd, hRd1, hfq, _, _⟩ := hG.own.u
 have hgood := opsN_good xs 21 (by omega)
 rw [← hL] at hgood
 have hLl : L.length ≤ 900 := by have := opsN_len xs 21; rw [← hL, List.length_map] at this; omega
 have hgx : ∀ x ∈ L, x.1.Good := fun x hx => hgood x.1 (List.mem_map.2 ⟨x, hx, rfl⟩)
 have hOkM := madeN_ok (l := L.map Prod.fst) hgood all L.length (by rw [List.length_map]; exact Nat.le_refl _)
 have hKM := K_made (L.map Prod.fst) all L.length
 go_wp2_with fail
 refine (made_any w1 (hA.below hb1) w.heap.size q L d hG hgx hLl all).mono ?_
 rintro e w2 ⟨y1, rfl, hS1⟩
 obtain ⟨M, hM⟩ : ∃ S, Hid (madeN (L.map Prod.fst) all L.length = S) := ⟨_, Lib.hid rfl⟩
 rw [hM.out] at hS1 hOkM hKM
 have h0 : 0 < w2.heap.size := cell_lt hS1.asks.a0
 have hb12 := hb1.trans (hS1.below.mono hb1.size)
 have hG2 := hG.below hS1.below
 have hU22 := hU2.below hb12
 go_wp2_with fail
 refine (Cards_any _).mono ?_
 rintro e w3 ⟨v, rfl, hown, hb3⟩
 obtain ⟨p1, c1, rfl, hc1, hRdc, _⟩ := hown.u
 go_wp2_with fail
 refine (New_any _ p1 c1 hRdc).mono ?_
 rintro e w4 ⟨y, rfl, hR4, hb4, hf4⟩
 have hb24 := hb3.trans (hb4.mono hb3.size)
 obtain ⟨r, hr⟩ : ∃ r, Hid (y.r = r) := ⟨_, Lib.hid rfl⟩
 have hS4 : SitW w2.heap.size r w2 w4 y RS.new := ⟨hR4, hr.out, fun i hi => Nat.le_trans hb3.size (hf4 i hi), hb24, hS1.asks.below hb24, hb24.size⟩
 rw [hr.out]
 clear hown hRdc hc1 hR4 hf4
 go_wp2_with fail
 refine (Cards_any _).mono ?_
 rintro e w5 ⟨v, rfl, hown, hb5⟩
 obtain ⟨pc, cc, rfl, hcc, hRc, hfc, _, hob⟩ := hown.u
 have hpl : LtP w5.heap.size pc := fun q e => (hown.lt (hob q e)).2
 have hS5 := hS4.call hb5
 have hco : ∀ a, pc = some a → a.block ∉ y.foot := fun a ha => hS4.high (hfc a ha)
 go_wp2_with fail
 refine (NewR_any w5 pc cc).mono ?_
 rintro e wn ⟨rfl, hbn⟩
 have hSn := hS5.call hbn
 have hRn := newRf (hRc.below hbn) cc (fun q e => Nat.lt_of_lt_of_le (hpl q e) hbn.size)
 have hb6 := Below.lit wn (.cells (rfC (newV pc cc) RS.new 0) 60)
 obtain ⟨w6, hw6, hbox6⟩ := nameW (p := fun W => RfBox W wn.heap.size (newV pc cc) RS.new 0) (RfBox.made wn _ _ _)
 rw [hw6.out] at hb6
 have hb6f : wn.heap.size ∉ y.foot := hSn.high (Nat.le_refl _)
 obtain ⟨b6, hb6n⟩ : ∃ b, Hid (wn.heap.size = b) := ⟨_, Lib.hid rfl⟩
 have hcb : ∀ a, pc = some a → a.block ≠ b6 := fun a ha => by have := hpl a ha; have := hbn.size; have := hb6n.out; omega
 have hwb6 : w2.heap.size ≤ b6 := by rw [← hb6n.out]; exact hSn.hB
 rw [hb6n.out] at hbox6 hb6f
 have hS6 := hSn.call hb6
 have hR6 := hRn.below hb6
 go_upto_region 9 with (first
  | (rw [hw6.out])
  | (refine wpL_allocT 60 rZ rfl rfl (zero_R _) ?_; simp only [Act.put, List.setIfInBounds_toArray, List.set_cons_succ, List.set_cons_zero])
  | (refine wpL_storeT 60 _ (rfC (newV pc cc) RS.new 0) rfl _ _ rfl (by first | rfl | (simp only [World.size_alloc]; rfl)) rfl (rfC_info _ _ _) rfl (rfC_one _ _ _) ?_; try simp only [Act.put])
  | fail)
 rw [hb6n.out]
 have hRd := hRd1.below hS1.below
 have hgo : ∀ x ∈ L, ∀ a, x.2.1 = some a → a.block < w2.heap.size := fun x hx a ha => ((hG2.gs x hx).2 a ha).2.1
 have hug : ∀ x ∈ L, UI w2 x.2.1 x.1.gs.length x.1.gs := fun x hx => (hG2.gs x hx).1
 have hP0 : PlSt w2.heap.size r w2 w6 y b6 w6 y RS.new (newV pc cc) [] [] :=
  ⟨hS6, fun i _ hn _ => ⟨rfl, hn⟩, Nat.le_refl _, hbox6, hb6f, hR6, newVs, newIn cc (fun q e => ⟨hco q e, hcb q e⟩)⟩
 clear hown hRc hcc hG hb1 hb3 hb4 hb5 hbn hb6 hb24 hS4 hS5 hSn hS6 hfq hRn hR6 hbox6 hfc hpl hob hRd1
 replace hgo := Lib.hid hgo
 replace hug := Lib.hid hug
 replace hgood := Lib.hid hgood
 replace hgx := Lib.hid hgx
 replace hRd := Lib.hid hRd
 replace hL := Lib.hid hL
 replace hOkM := Lib.hid hOkM
 replace hKM := Lib.hid hKM
 replace hS1 := Lib.hid hS1
 replace hG2 := Lib.hid hG2
 replace hU22 := Lib.hid hU22
 replace hb12 := Lib.hid hb12
 replace hP0 := Lib.hid hP0
 go_wp2_with fail
 go_loopw [11] (fun i wr => ∃ (j : Nat) (yk : Lay) (a' : RfV) (L' : List ME) (vs' : List VI), j ≤ L.length ∧ i = .int .i64 j ∧ Hid (PlSt w2.heap.size r w2 w6 y b6 wr yk (outN (L.map Prod.fst) os all j) a' L' vs')) (fun i _ => L.length - (intOf i).toNat)
 case atStart => exact ⟨0, y, newV pc cc, [], [], Nat.zero_le _, rfl, hP0⟩
 case round =>
  clear hP0
  obtain ⟨j, yk, a, Lr, vs, hj, rfl, hP⟩ := hrel
  by_cases hlt : j < L.length
  ·obtain ⟨x, hx⟩ : ∃ x, Hid (L[j] = x) := ⟨_, Lib.hid rfl⟩
   have hxm : x ∈ L := hx.out ▸ List.getElem_mem hlt
   obtain ⟨bq, oq, hqe, hbql, hcq⟩ := (hRd.out.below hP.out.sit.below).op hlt
   subst hqe
   have hbqo : bq ∉ yk.foot := by
    obtain ⟨b0, off0, he0, hl0, _⟩ := hRd.out j hlt
    injection he0 with he0
    injection he0 with he1 he2
    subst he1
    exact hP.out.sit.low hl0
   rw [hx.out] at hcq
   have hmm : x.1 ∈ L.map Prod.fst := List.mem_map.2 ⟨x, hxm, rfl⟩
   have hxg := hgood.out x.1 hmm
   have hxu := (hug.out x hxm).below hP.out.sit.below
   have hxo : ∀ q, x.2.1 = some q → q.block ∉ yk.foot ∧ q.block < wr.heap.size ∧ q.block ≠ b6 := fun q e => by
    have h1 := hgo.out x hxm q e
    exact ⟨hP.out.sit.low h1, Nat.lt_of_lt_of_le h1 hP.out.sit.hB, by omega⟩
   have hxd : (L.map Prod.fst).getD j opZ = x.1 := by
    rw [List.getD_eq_getElem?_getD, List.getElem?_map, List.getElem?_eq_getElem hlt, hx.out]; rfl
   have hOk := outN_ok (l := L.map Prod.fst) hgood.out os all j (by rw [List.length_map]; exact hj)
   have hOk1 := outN_ok (l := L.map Prod.fst) hgood.out os all (j + 1) (by rw [List.length_map]; exact hlt)
   have hst : outN (L.map Prod.fst) os all (j + 1) = if (j : Int) ∉ os ∧ (all = true ∨ (outN (L.map Prod.fst) os all j).may x.1 = 0) then (outN (L.map Prod.fst) os all j).act x.1 (x.1.name j) else outN (L.map Prod.fst) os all j := by
    rw [← hxd]; rfl
   obtain ⟨s, hs⟩ : ∃ s, Hid (outN (L.map Prod.fst) os all j = s) := ⟨_, Lib.hid rfl⟩
   rw [hs.out] at hst hOk hP
   obtain ⟨o, gp, gc⟩ := x
   replace hcq : ∀ i u, (opC o gp gc)[i]? = some u → wr.cell? ⟨bq, oq + j * 27 + i, none⟩ = some u := hcq
   replace hxg : o.Good := hxg
   replace hxu : UI wr gp o.gs.length o.gs := hxu
   replace hst : outN (L.map Prod.fst) os all (j + 1) = if (j : Int) ∉ os ∧ (all = true ∨ s.may o = 0) then s.act o (o.name j) else s := hst
   replace hxo : ∀ q, gp = some q → q.block ∉ yk.foot ∧ q.block < wr.heap.size ∧ q.block ≠ b6 := hxo
   have hix1 : (0 : Int) ≤ (j : Int) := by omega
   have hix2 : (j : Int) < (L.length : Int) := by omega
   obtain ⟨mv, hmv⟩ : ∃ mv, Hid (s.may o = mv) := ⟨_, Lib.hid rfl⟩
   rw [hmv.out] at hst
   replace hcq := Lib.hid hcq
   replace hst := Lib.hid hst
   replace hOk := Lib.hid hOk
   replace hOk1 := Lib.hid hOk1
   replace hxu := Lib.hid hxu
   replace hxg := Lib.hid hxg
   replace hxo := Lib.hid hxo
   clear hmm hxd
   go_wp2_with (first | (refine wpL_loadO rfl _ rfl bq (oq + j * 27) rfl o gp gc hcq.out ?_) | fail)
   refine (Name_any o gp gc j _ hxg.out.ok.hk (by omega)).mono ?_
   rintro e w7 ⟨rfl, hb7⟩
   have hI8 : IdAt (w7.alloc (.cells #[.int .i64 o.b, .int .i64 ((j : Int) + 1), .int .u64 o.k] 34)) w7.heap.size (o.name j) := IdAt.made w7 (o.name j)
   have hb8 := hb7.trans ((Below.lit w7 (.cells #[.int .i64 o.b, .int .i64 ((j : Int) + 1), .int .u64 o.k] 34)).mono hb7.size)
   obtain ⟨w8, hw8, hI8⟩ := nameW (p := fun W => IdAt W w7.heap.size (o.name j)) hI8
   rw [hw8.out] at hb8
   have hbif : w7.heap.size ∉ yk.foot := (hP.out.sit.call hb7).high (Nat.le_refl _)
   have hbi6 : w7.heap.size ≠ b6 := by have := blk_lt (hP.out.below hb7).box; omega
   obtain ⟨bi, hbi⟩ : ∃ bi, Hid (w7.heap.size = bi) := ⟨_, Lib.hid rfl⟩
   rw [hbi.out] at hI8 hbif hbi6
   go_upto_region 13 with (first | (rw [hw8.out]) | fail)
   rw [hbi.out]
   obtain ⟨ob, hob⟩ : ∃ ob, Hid (decide ((j : Int) ∈ os) = ob) := ⟨_, Lib.hid rfl⟩
   obtain ⟨g, hg⟩ : ∃ g, Hid ((!ob && (all || (mv == 0))) = g) := ⟨_, Lib.hid rfl⟩
   have hst2 : Hid (outN (L.map Prod.fst) os all (j + 1) = if g = true then s.act o (o.name j) else s) := Lib.hid (hst.out.trans (ite_congr (propext (by
    rw [← hg.out, ← hob.out]
    simp only [Bool.and_eq_true, Bool.not_eq_true', decide_eq_false_iff_not, Bool.or_eq_true, beq_iff_eq])) (fun _ => rfl) (fun _ => rfl)))
   clear hst
   go_cut [58] from 42 to 57 (fun v T => v = .bool g ∧ Below w8.heap.size w8 T)
   case first =>
    obtain ⟨w9, hw9⟩ : ∃ w9, Hid (w8.drew = w9) := ⟨_, Lib.hid rfl⟩
    have hb9 : Below w8.heap.size w8 w9 := by rw [← hw9.out]; exact (Below.refl _ _).drew
    have hb19 := hb8.trans (hb9.mono hb8.size)
    have hP9 := hP.out.below hb19
    have hcd : ∀ i u, (opC o gp gc)[i]? = some u → w9.cell? ⟨bq, oq + j * 27 + i, none⟩ = some u := fun i u hu => (hb19.cell (p := ⟨bq, oq + j * 27 + i, none⟩) (cell_lt (hcq.out i u hu))).trans (hcq.out i u hu)
    have hxu9 := Lib.hid (hxu.out.below hb19)
    have hI9 := hI8.below hb9
    have i0 : w9.cell? ⟨bi, 0, none⟩ = some (.int .i64 o.b) := by simp [World.cell?, show w9.heap[bi]? = _ from hI9]; rfl
    have i1 : w9.cell? ⟨bi, 1, none⟩ = some (.int .i64 ((j : Int) + 1)) := by simp [World.cell?, show w9.heap[bi]? = _ from hI9]; rfl
    have i2 : w9.cell? ⟨bi, 2, none⟩ = some (.int .u64 o.k) := by simp [World.cell?, show w9.heap[bi]? = _ from hI9]; rfl
    have hb0 : Below w9.heap.size w9 w9 := Below.refl _ _
    have hbox9 := hP9.box
    have hU9 := hU22.out.below hP9.sit.below
    replace hP9 := Lib.hid hP9
    replace hcd := Lib.hid hcd
    refine wp_region_D (D := fun T => Below w9.heap.size w9 T) (by kernel_rfl) ?_
    rw [hw9.out]
    change wpAnyD _ _ _ _ _ 17 _ _ _
    apply tkD 0 hb0 rfl
    ·intro T hT
     go_simp
     try rfl
    try go_frame
    apply tkD 1 hb0 rfl
    ·intro T hT
     go_simp
     try rfl
    try go_frame
    refine oneD 2 (by kernel_rfl) rfl (by kernel_rfl) (fun K hK => ?_)
    go_simp
    refine (HasB_any p2 n2 os c2 (j : Int) w9 hU9 hn2).mono ?_
    rintro e _ ⟨rfl, rfl⟩
    rw [hob.out]
    refine hK _ _ ⟨hb0, ?_⟩
    clear hK K
    try go_frame
    apply tkD 3 hb0 rfl
    ·intro T hT
     go_simp
     try rfl
    try go_frame
    apply tkD 4 hb0 rfl
    ·intro T hT
     go_simp
     try rfl
    try go_frame
    cases ob with
    | true =>
     apply noD 5 hb0 rfl
     try go_frame
     apply noD 6 hb0 rfl
     try go_frame
     apply noD 7 hb0 rfl
     try go_frame
     apply noD 8 hb0 rfl
     try go_frame
     apply noD 9 hb0 rfl
     try go_frame
     apply noD 10 hb0 rfl
     try go_frame
     apply noD 11 hb0 rfl
     try go_frame
     apply noD 12 hb0 rfl
     try go_frame
     apply noD 13 hb0 rfl
     try go_frame
     apply noD 14 hb0 rfl
     try go_frame
     apply noD 15 hb0 rfl
     try go_frame
     apply tkD 16 hb0 rfl
     ·intro T hT
      go_simp
      try rfl
     try go_frame
     refine wpAnyD_done (by kernel_rfl) ?_ _
     go_wp2_with fail
     go_meet
     exact ⟨by rw [← hg.out]; rfl, hb9⟩
    | false =>
     cases all with
     | true =>
      apply tkD 5 hb0 rfl
      ·intro T hT
       go_simp
       try rfl
      try go_frame
      apply tkD 6 hb0 rfl
      ·intro T hT
       go_simp
       try rfl
      try go_frame
      apply noD 7 hb0 rfl
      try go_frame
      apply noD 8 hb0 rfl
      try go_frame
      apply noD 9 hb0 rfl
      try go_frame
      apply noD 10 hb0 rfl
      try go_frame
      apply noD 11 hb0 rfl
      try go_frame
      apply noD 12 hb0 rfl
      try go_frame
      apply noD 13 hb0 rfl
      try go_frame
      apply noD 14 hb0 rfl
      try go_frame
      apply tkD 15 hb0 rfl
      ·intro T hT
       go_simp
       try rfl
      try go_frame
      apply tkD 16 hb0 rfl
      ·intro T hT
       go_simp
       try rfl
      try go_frame
      refine wpAnyD_done (by kernel_rfl) ?_ _
      go_wp2_with fail
      go_meet
      exact ⟨by rw [← hg.out]; rfl, hb9⟩
     | false =>
      apply tkD 5 hb0 rfl
      ·intro T hT
       go_simp
       try rfl
      try go_frame
      apply tkD 6 hb0 rfl
      ·intro T hT
       go_simp
       try rfl
      try go_frame
      apply tkD 7 hb0 rfl
      ·intro T hT
       exact run_loadR (hbox9.below hT) rfl rfl
      try go_frame
      apply tkD 8 hb0 rfl
      ·intro T hT
       go_simp
       try rfl
      try go_frame
      apply tkD 9 hb0 rfl
      ·intro T hT
       go_simp
       try rfl
      try go_frame
      apply tkD 10 hb0 rfl
      ·intro T hT
       go_simp
       try rfl
      try go_frame
      apply tkD 11 hb0 rfl
      ·intro T hT
       exact run_loadO (n := o) (gp := gp) (gc := gc) (b := bq) (k := oq + j * 27) (fun i u hu => (hT.cell (p := ⟨bq, oq + j * 27 + i, none⟩) (cell_lt (hcd.out i u hu))).trans (hcd.out i u hu)) rfl rfl
      try go_frame
      apply tkD 12 hb0 rfl
      ·intro T hT
       have hT0 := (hT.cell (cell_lt i0)).trans i0
       have hT1 := (hT.cell (cell_lt i1)).trans i1
       have hT2 := (hT.cell (cell_lt i2)).trans i2
       go_simp
       try rfl
      try go_frame
      refine oneD 13 (by kernel_rfl) rfl (by kernel_rfl) (fun K hK => ?_)
      go_simp
      refine (MayR_any w9 a s Lr vs o gp gc (o.name j) j hP9.out.rf hP9.out.vo hOk.out (by omega) hxu9.out hxg.out.ok.hgl).mono ?_
      rintro e w10 ⟨rfl, hb10⟩
      rw [hmv.out]
      refine hK _ _ ⟨hb10, ?_⟩
      clear hK K
      try go_frame
      apply tkD 14 hb10 rfl
      ·intro T hT
       go_simp
       try rfl
      try go_frame
      apply tkD 15 hb10 rfl
      ·intro T hT
       go_simp
       try rfl
      try go_frame
      apply tkD 16 hb10 rfl
      ·intro T hT
       go_simp
       try rfl
      try go_frame
      refine wpAnyD_done (by kernel_rfl) ?_ _
      go_wp2_with fail
      go_meet
      exact ⟨by rw [← hg.out]; rfl, hb9.trans (hb10.mono hb9.size)⟩
   case rest =>
    obtain ⟨rfl, hbc⟩ := hcut
    obtain ⟨wb, hwb, hbc⟩ := nameW (p := fun W => Below w8.heap.size w8 W) hbc
    rw [hwb.out]
    have hbs := hb8.trans (hbc.mono hb8.size)
    have hPb := Lib.hid (hP.out.below hbs)
    have hcdb : ∀ i u, (opC o gp gc)[i]? = some u → wb.cell? ⟨bq, oq + j * 27 + i, none⟩ = some u := fun i u hu => (hbs.cell (p := ⟨bq, oq + j * 27 + i, none⟩) (cell_lt (hcq.out i u hu))).trans (hcq.out i u hu)
    have hxub := Lib.hid (hxu.out.below hbs)
    have hxob : Hid (∀ q, gp = some q → q.block ∉ yk.foot ∧ q.block < wb.heap.size ∧ q.block ≠ b6) := Lib.hid fun q e => ⟨(hxo.out q e).1, Nat.lt_of_lt_of_le (hxo.out q e).2.1 hbs.size, (hxo.out q e).2.2⟩
    have hIb := hI8.below hbc
    have hcd := Lib.hid hcdb
    clear hcdb hP hcq hxu hxo hI8 hb7 hb8 hbc hbs
    cases g with
    | false =>
     have hnx : Hid (outN (L.map Prod.fst) os all (j + 1) = s) := Lib.hid (hst2.out.trans (if_neg (by decide)))
     go_wp2_with fail
     go_roundw
     case rel => exact ⟨j + 1, yk, a, Lr, vs, by omega, by go_num, by rw [hnx.out]; exact hPb⟩
     case measure => simp [intOf]; omega
    | true =>
     obtain ⟨S2, hS2⟩ : ∃ S, Hid (s.act o (o.name j) = S) := ⟨_, Lib.hid rfl⟩
     have hnx : Hid (outN (L.map Prod.fst) os all (j + 1) = S2) := Lib.hid (hst2.out.trans ((if_pos rfl).trans hS2.out))
     have hOkf : Hid (S2.Ok (j + 1)) := Lib.hid (by rw [← hnx.out]; exact hOk1.out)
     have hcq5 : ∀ T, (∃ z : GrIn wb, T = z.at_) → ∀ i u, (opC o gp gc)[i]? = some u → T.cell? ⟨bq, oq + j * 27 + i, none⟩ = some u := fun T ⟨z, hz⟩ i u hu => by
      rw [hz]
      exact (z.gr.cell (p := ⟨bq, oq + j * 27 + i, none⟩) (cell_lt (hcd.out i u hu))).trans (hcd.out i u hu)
     replace hcq5 := Lib.hid hcq5
     have i0 : wb.cell? ⟨bi, 0, none⟩ = some (.int .i64 o.b) := by simp [World.cell?, show wb.heap[bi]? = _ from hIb]; rfl
     have i1 : wb.cell? ⟨bi, 1, none⟩ = some (.int .i64 ((j : Int) + 1)) := by simp [World.cell?, show wb.heap[bi]? = _ from hIb]; rfl
     have i2 : wb.cell? ⟨bi, 2, none⟩ = some (.int .u64 o.k) := by simp [World.cell?, show wb.heap[bi]? = _ from hIb]; rfl
     have hk0 := GrIn.cells i0
     have hk1 := GrIn.cells i1
     have hk2 := GrIn.cells i2
     go_upto_region 14 with fail
     refine wp_region_gr_tail 6 (by kernel_rfl) (by kernel_rfl) ?_
     simp only [List.take_succ_cons, List.take_zero, List.drop_succ_cons, List.drop_zero]
     repeat (first
      | (go_big_quiet_want; refine quiet_mid _ rfl rfl hcq5.out ?_; simp only [Act.put, List.setIfInBounds_toArray, List.set_cons_succ, List.set_cons_zero]; go_big_quiet_on)
      | go_big_quiet_step (fail))
     refine wpQuiet_nil ?_
     rintro T ⟨z, rfl⟩
     have hPz := hPb.out.below z.gr
     have hxz := hxub.out.below z.gr
     have hIz := hIb.below z.gr
     have hcz : ∀ i u, (opC o gp gc)[i]? = some u → z.at_.cell? ⟨bq, oq + j * 27 + i, none⟩ = some u := fun i u hu => hcq5.out _ ⟨z, rfl⟩ i u hu
     replace hPz := Lib.hid hPz
     replace hcz := Lib.hid hcz
     go_wp2_with fail
     refine (Do_w hPz.out.sit h0 o gp gc (o.name j) j (by omega) hOk.out hxg.out.ok hxz (fun h9 => (hxg.out.gd h9).1)).mono ?_
     rintro e W2 ⟨rfl, y2, hS2', hz2, hk2'⟩
     rw [hS2.out] at hS2'
     have hM := Lib.hid (hPz.out.next hS2' hz2 hk2')
     have hI2 : IdAt W2 bi (o.name j) := hIz.block (hk2' bi hIz.lt hbif).1
     have hc2 : ∀ i u, (opC o gp gc)[i]? = some u → W2.cell? ⟨bq, oq + j * 27 + i, none⟩ = some u := fun i u hu => by
      have h1 := hcz.out i u hu
      have h2 := (hk2' bq (cell_lt h1) hbqo).1
      rw [← h1]
      unfold World.cell?
      simp only [h2]
     have hx2 : UI W2 gp o.gs.length o.gs := hxz.kept (Q := fun i => i ∉ yk.foot) (fun i hi hn => (hk2' i hi hn).1) (fun q e => (hxob.out q e).1)
     have hxo2 : Hid (∀ q, gp = some q → q.block ∉ y2.foot ∧ q.block < W2.heap.size ∧ q.block ≠ b6) := Lib.hid fun q e => by
      obtain ⟨h1, h2, h3⟩ := hxob.out q e
      have h4 := Nat.lt_of_lt_of_le h2 z.gr.size
      exact ⟨(hk2' q.block h4 h1).2, Nat.lt_of_lt_of_le h4 hz2, h3⟩
     replace hc2 := Lib.hid hc2
     clear hPb hxub hIb hcd hcq5 i0 i1 i2 hk0 hk1 hk2 hPz hxz hIz hcz hxob hS2' hz2 hk2'
     go_upto_region 15 with fail
     obtain ⟨wc, hwc⟩ : ∃ wc, Hid (W2.drew = wc) := ⟨_, Lib.hid rfl⟩
     have hbc : Below W2.heap.size W2 wc := by rw [← hwc.out]; exact (Below.refl _ _).drew
     have hMc := Lib.hid (hM.out.below hbc)
     have hcdc : ∀ i u, (opC o gp gc)[i]? = some u → wc.cell? ⟨bq, oq + j * 27 + i, none⟩ = some u := fun i u hu => (hbc.cell (p := ⟨bq, oq + j * 27 + i, none⟩) (cell_lt (hc2.out i u hu))).trans (hc2.out i u hu)
     have hcd := Lib.hid hcdc
     have hxc := hx2.below hbc
     have hIc := hI2.below hbc
     have i0 : wc.cell? ⟨bi, 0, none⟩ = some (.int .i64 o.b) := by simp [World.cell?, show wc.heap[bi]? = _ from hIc]; rfl
     have i1 : wc.cell? ⟨bi, 1, none⟩ = some (.int .i64 ((j : Int) + 1)) := by simp [World.cell?, show wc.heap[bi]? = _ from hIc]; rfl
     have i2 : wc.cell? ⟨bi, 2, none⟩ = some (.int .u64 o.k) := by simp [World.cell?, show wc.heap[bi]? = _ from hIc]; rfl
     have hboxc := hMc.out.box
     have hb0 : Below wc.heap.size wc wc := Below.refl _ _
     have hNc : ∀ b, wc.heap.size ≤ b → b ∉ y2.foot ∧ b ≠ b6 := fun b hb => ⟨hMc.out.sit.high hb, by have := blk_lt hMc.out.box; omega⟩
     clear hcdc
     refine wp_region_E (D := fun T => Below wc.heap.size wc T) 7 (by kernel_rfl) ?_
     rw [hwc.out]
     change wpAnyE _ _ _ _ _ _ 8 _ _ _
     apply tkE 0 hb0 rfl
     ·intro T hT
      exact run_loadR (hboxc.below hT) rfl rfl
     try go_frame
     apply tkE 1 hb0 rfl
     ·intro T hT
      go_simp
      try rfl
     try go_frame
     apply tkE 2 hb0 rfl
     ·intro T hT
      go_simp
      try rfl
     try go_frame
     apply tkE 3 hb0 rfl
     ·intro T hT
      go_simp
      try rfl
     try go_frame
     apply tkE 4 hb0 rfl
     ·intro T hT
      exact run_loadO (n := o) (gp := gp) (gc := gc) (b := bq) (k := oq + j * 27) (fun i u hu => (hT.cell (p := ⟨bq, oq + j * 27 + i, none⟩) (cell_lt (hcd.out i u hu))).trans (hcd.out i u hu)) rfl rfl
     try go_frame
     apply tkE 5 hb0 rfl
     ·intro T hT
      have hT0 := (hT.cell (cell_lt i0)).trans i0
      have hT1 := (hT.cell (cell_lt i1)).trans i1
      have hT2 := (hT.cell (cell_lt i2)).trans i2
      go_simp
      try rfl
     try go_frame
     refine oneE 6 (by kernel_rfl) rfl (by kernel_rfl) (fun K hK => ?_)
     go_simp
     refine (DoR_any (fun b => b ∉ y2.foot ∧ b ≠ b6) wc a s Lr vs o gp gc (o.name j) j hMc.out.rf hMc.out.vo hOk.out (by omega) hxg.out.ok hMc.out.ri hNc hxc (fun q e => ⟨(hxo2.out q e).1, (hxo2.out q e).2.2⟩) (fun q e => Nat.lt_of_lt_of_le (hxo2.out q e).2.1 hbc.size) (fun _ => by show (j : Int) < (j : Int) + 1; omega)).mono ?_
     rintro e T2 ⟨a2, L2, vs2, rfl, hR2, hV2, hI2', hbT⟩
     rw [hS2.out] at hR2 hV2 ⊢
     refine hK _ _ ⟨.inr hbT, ?_⟩
     clear hK K
     try go_frame
     have hdone := hMc.out.done hbT hR2 hV2 hI2' hwb6 h0
     have hboxs := (hMc.out.below hbT).box
     refine oneE 7 (by kernel_rfl) rfl (by kernel_rfl) (fun K hK => ?_)
     refine wp_store_row 60 _ _ rfl b6 _ rfl rfl 60 _ hboxs (rfC_info _ _ _) rfl (rfC_one _ _ _) ?_
     refine hK _ _ ⟨.inl rfl, ?_⟩
     clear hK K
     try go_frame
     refine wpAnyE_done (by kernel_rfl) ?_ _
     obtain ⟨wg, hwg, hPe⟩ := nameW (p := fun W => PlSt w2.heap.size r w2 w6 y b6 W y2 S2 a2 L2 vs2) hdone
     rw [hwg.out]
     replace hPe := Lib.hid hPe
     clear hdone hboxs i0 i1 i2 hboxc hb0
     go_wp2_with fail
     go_roundw
     case rel => exact ⟨j + 1, y2, a2, L2, vs2, by omega, by go_num, by rw [hnx.out]; exact hPe⟩
     case measure => simp [intOf]; omega
  ·have hOkO := Lib.hid (outN_ok hgood.out os all j (by rw [List.length_map]; exact hj))
   obtain ⟨So, hSo⟩ : ∃ S, Hid (outN (L.map Prod.fst) os all j = S) := ⟨_, Lib.hid rfl⟩
   rw [hSo.out] at hP hOkO
   obtain ⟨sm, hsm⟩ : ∃ b, Hid (M.same So = b) := ⟨_, Lib.hid rfl⟩
   go_upto_region 16 with fail
   obtain ⟨wd, hwd⟩ : ∃ wd, Hid (wr.drew = wd) := ⟨_, Lib.hid rfl⟩
   have hbd : Below wr.heap.size wr wd := by rw [← hwd.out]; exact (Below.refl _ _).drew
   have hPd := Lib.hid (hP.out.below hbd)
   have hGd := Lib.hid (hG2.out.below hPd.out.sit.below)
   have hboxd := hPd.out.box
   have hb0 : Below wd.heap.size wd wd := Below.refl _ _
   clear hP hbd
   refine wp_region_D (D := fun T => Below wd.heap.size wd T) (by kernel_rfl) ?_
   rw [hwd.out]
   change wpAnyD _ _ _ _ _ 6 _ _ _
   apply tkD 0 hb0 rfl
   ·intro T hT
    go_simp
    try rfl
   try go_frame
   apply tkD 1 hb0 rfl
   ·intro T hT
    go_simp
    try rfl
   try go_frame
   apply tkD 3 hb0 rfl
   ·intro T hT
    exact run_loadR (hboxd.below hT) rfl rfl
   try go_frame
   refine oneD 2 (by kernel_rfl) rfl (by kernel_rfl) (fun K hK => ?_)
   go_simp
   refine (MadeR_any wd w.heap.size q L d hGd.out hgx.out hLl all).mono ?_
   rintro e we ⟨a3, L3, vs3, rfl, hR3, hV3, hbe⟩
   rw [hM.out] at hR3 hV3 ⊢
   refine hK _ _ ⟨hbe, ?_⟩
   clear hK K
   try go_frame
   refine oneD 4 (by kernel_rfl) rfl (by kernel_rfl) (fun K hK => ?_)
   go_simp
   refine (SameR_any we a3 M L3 vs3 a So Lr vs L.length j hR3 (hPd.out.below hbe).rf hV3 hPd.out.vo hOkM.out hOkO.out (by omega) (by omega)).mono ?_
   rintro e wf ⟨rfl, hbf⟩
   rw [hsm.out]
   have hbef := hbe.trans (hbf.mono hbe.size)
   refine hK _ _ ⟨hbef, ?_⟩
   clear hK K
   try go_frame
   apply tkD 5 hbef rfl
   ·intro T hT
    go_simp
    try rfl
   try go_frame
   refine wpAnyD_done (by kernel_rfl) ?_ _
   have hPf := Lib.hid (hPd.out.below hbef)
   have hR1 := hS1.out.roll.below hPf.out.sit.below
   clear hboxd hb0 hGd hPd hbe hbf hbef hR3 hV3
   go_wp2_with fail
   refine (Copy_any wf y1 M L.length hR1 hOkM.out).mono ?_
   rintro e wg ⟨y3, rfl, hC, hf3, hbg⟩
   have hPg := Lib.hid (hPf.out.below hbg)
   have hR1g := hR1.below hbg
   have t1 : (sm != sm) = false := bne_self_eq_false _
   have hq1 := Same_any wg y1 yk M So L.length j hR1g hPg.out.sit.roll hOkM.out hOkO.out
   rw [hPg.out.sit.hr, hsm.out] at hq1
   go_wp2_with fail
   refine hq1.mono ?_
   rintro e wh ⟨rfl, hbh⟩
   have hq2 := Same_any wh yk y1 So M j L.length (hPg.out.below hbh).sit.roll (hR1g.below hbh) hOkO.out hOkM.out
   rw [hPg.out.sit.hr, same_symm hOkM.out hOkO.out, hsm.out] at hq2
   go_wp2_with fail
   refine hq2.mono ?_
   rintro e wi ⟨rfl, hbi⟩
   have hbgi := hbh.trans (hbi.mono hbh.size)
   have hq3 := Same_any wi y1 y3 M M L.length L.length (hR1g.below hbgi) (hC.below hbgi) hOkM.out hOkM.out
   rw [same_refl hOkM.out] at hq3
   go_wp2_with fail
   refine hq3.mono ?_
   rintro e wj ⟨rfl, hbj⟩
   have hbgj := hbgi.trans (hbj.mono hbgi.size)
   have hq4 := Same_any wj y3 y1 M M L.length L.length (hC.below hbgj) (hR1g.below hbgj) hOkM.out hOkM.out
   rw [same_refl hOkM.out] at hq4
   go_wp2_with fail
   refine hq4.mono ?_
   rintro e wk ⟨rfl, hbk⟩
   have hbgk := hbgj.trans (hbk.mono hbgj.size)
   have hbx := Below.lit wk (.cells (opC eS none 0) 42)
   obtain ⟨wx, hwx, hOx⟩ := nameW (p := fun W => OpAt W wk.heap.size eS none 0) (OpAt.made wk eS none 0)
   rw [hwx.out] at hbx
   obtain ⟨bx, hbxn⟩ : ∃ b, Hid (wk.heap.size = b) := ⟨_, Lib.hid rfl⟩
   rw [hbxn.out] at hOx
   have hbgx := hbgk.trans (hbx.mono hbgk.size)
   have hbfx := hbg.trans (hbgx.mono hbg.size)
   have hR1x := hR1.below hbfx
   have hSc : SitW wf.heap.size y3.r wf wx y3 M := ⟨hC.below hbgx, rfl, hf3, hbfx, hPf.out.sit.asks.below hbfx, hbfx.size⟩
   have hB2f := hPf.out.sit.below
   have h0f : 0 < wf.heap.size := cell_lt hPf.out.sit.asks.a0
   clear hq1 hq2 hq3 hq4 hbh hbi hbj hbk hbgi hbgj hbgk hbx hbgx hbg hC hf3 hPg hR1g t1
   go_upto_region 21 with (first
    | (rw [hwx.out])
    | (refine wpL_alloc rfl rfl ?_; simp only [Act.put, List.setIfInBounds_toArray, List.set_cons_succ, List.set_cons_zero])
    | (refine wpL_store rfl _ _ rfl (n := eS) (gp := none) (gc := 0) (by first | rfl | (simp only [World.size_alloc]; rfl)) rfl ?_; try simp only [Act.put])
    | fail)
   rw [hbxn.out]
   go_wp2_with fail
   refine (Devices_any wx y1 M L.length hR1x hOkM.out).mono ?_
   rintro e wl ⟨p6, c6, rfl, hU6, hfp6, hbl⟩
   have hScl := hSc.call hbl
   have hOl := hOx.below hbl (cell_lt hOx.cb)
   go_wp2_with (first
    | (refine wpList_load_row rfl 42 _ rfl bx rfl 42 (opC eS none 0) (0, 0) _ hOl Tryd.underlying42 rfl (by kernel_rfl) ?_)
    | fail)
   refine (Do_w hScl h0f eS none 0 ⟨1, 99, 0⟩ L.length (by omega) hOkM.out eS_ok ⟨rfl, .nil, fun _ h => (by cases h)⟩ (fun h => absurd h (by decide))).mono ?_
   rintro e wm ⟨rfl, y4, hS4, hz4, hk4⟩
   have hact : M.act eS ⟨1, 99, 0⟩ = M.goAll 1 (sortI M.ins) := rfl
   obtain ⟨hn1, hn3⟩ := goAll_none hOkM.out hKM.out 1
   have hOkA : (M.goAll 1 (sortI M.ins)).Ok (L.length + 1) := hact ▸ act_ok hOkM.out eS_ok ⟨1, 99, 0⟩ (Nat.lt_succ_self _) (fun h => absurd h (by decide))
   rw [hact] at hS4
   obtain ⟨A, hAd⟩ : ∃ A, Hid (M.goAll 1 (sortI M.ins) = A) := ⟨_, Lib.hid rfl⟩
   rw [hAd.out] at hn1 hn3 hOkA hS4
   have hR1m := (hS1.out.roll.below hB2f).below hS4.below
   have hU6m := hU6.kept (Q := fun i => i ∉ y3.foot) (fun i hi hn => (hk4 i hi hn).1) (fun q e => hSc.high (hfp6 q e))
   have hfm : M.ins.length ≤ 1000 := by have := hOkM.out.few; rw [List.length_append] at this; omega
   go_wp2_with fail
   refine (Devices_any wm y1 M L.length hR1m hOkM.out).mono ?_
   rintro e wo ⟨p7, c7, rfl, hU7, _, hbo⟩
   go_wp2_with fail
   refine (SameInts_any p7 p6 _ _ _ _ c7 c6 wo hU7 (hU6m.below hbo) (by omega) (by omega)).mono ?_
   rintro e wp ⟨rfl, hbp⟩
   rw [decide_eq_true (rfl : sortI M.ins = sortI M.ins)]
   have hS4p := (hS4.call hbo).call hbp
   have hd := Devices_any wp y4 A (L.length + 1) hS4p.roll hOkA
   rw [hS4p.hr] at hd
   go_wp2_with fail
   refine hd.mono ?_
   rintro e wq ⟨p8, c8, rfl, _, _, hbq⟩
   have t2 : decide ((A.ins.length : Int) ≤ (M.ins.length : Int)) = true := decide_eq_true (by omega)
   have t3 : decide (A.ins.length ≤ M.ins.length) = true := decide_eq_true hn3
   have hS4q := hS4p.call hbq
   go_wp2_with fail
   refine (Role_w hS4q 1 (by unfold i64ok; omega)).mono ?_
   rintro e _ ⟨rfl, rfl⟩
   have hrole : A.role 1 = 0 := by unfold RS.role; rw [hn1]; rfl
   rw [hrole]
   go_wp2_with fail
   refine (lives_any _ hS4q.asks).mono ?_
   rintro e wz ⟨rfl, hbz⟩
   go_wp2_with fail
   go_ret
   exact ⟨rfl, hb12.out.trans ((hB2f.trans ((hS4q.below.trans (hbz.mono hS4q.hB)).mono hB2f.size)).mono hb12.out.size)⟩
end Go.Proofs.YtkolilbebkkpdaaDoor

