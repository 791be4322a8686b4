/-
  The document's roll: a device goes.
  The document's roll: members, of which one is another one.
  A region that draws its order and ends in a store that waits for all the others: what the store leaves need not keep the facts that the others need.
  The document's roll: a Guard.
-/
import Derived.Test.YtkolilbebkkpdaaDoorRmK
import Derived.Test.YtkolilbebkkpdaaDoorRmG
import Derived.StillTail
namespace Go.Proofs.YtkolilbebkkpdaaDoor
open Go.RowKit Go.Maps Go.BigFrame
attribute [local go_sem] in_gr

def insF (d : Int) (l : List Int) : List Int := l.filter fun e => decide (e ≠ d)
theorem insF_snoc (d : Int) (l : List Int) (e : Int) : insF d (l ++ [e]) = if e = d then insF d l else insF d l ++ [e] := by
 unfold insF
 rw [List.filter_append]
 by_cases h : e = d
 ·rw [if_pos h]; simp [h]
 ·rw [if_neg h]; simp [h]
def stayB (m d : Int) (l : List Int) : Bool := decide (∃ e ∈ l, e ≠ d ∧ ofD e = m)
theorem stayB_snoc (m d : Int) (l : List Int) (e : Int) : stayB m d (l ++ [e]) = (stayB m d l || (decide (e ≠ d) && decide (ofD e = m))) := by
 unfold stayB
 rw [← Bool.decide_and, ← Bool.decide_or]
 refine decide_eq_decide.2 ⟨?_, ?_⟩
 ·rintro ⟨x, hx, h⟩
  rcases List.mem_append.1 hx with hx | hx
  ·exact .inl ⟨x, hx, h⟩
  ·rw [List.mem_singleton] at hx; subst hx; exact .inr h
 ·rintro (⟨x, hx, h⟩ | h)
  ·exact ⟨x, List.mem_append.2 (.inl hx), h⟩
  ·exact ⟨e, List.mem_append.2 (.inr (List.mem_singleton.2 rfl)), h⟩
def keepL (m : Int) (L : List ME) : List ME := L.filter fun x => decide (x.1.1 ≠ m)
theorem keepL_snoc (m : Int) (L : List ME) (x : ME) : keepL m (L ++ [x]) = if x.1.1 = m then keepL m L else keepL m L ++ [x] := by
 unfold keepL
 rw [List.filter_append]
 by_cases h : x.1.1 = m
 ·rw [if_pos h]; simp [h]
 ·rw [if_neg h]; simp [h]
theorem keepL_fst (m : Int) (L : List ME) : (keepL m L).map Prod.fst = dropL (L.map Prod.fst) m := by
 unfold keepL dropL
 rw [List.filter_map]; rfl
theorem liveV_snoc (s : RS) (vs : List VI) (v : VI) : liveV s (vs ++ [v]) = if 0 ≤ whoI s v.f then liveV s vs ++ [v] else liveV s vs := by
 unfold liveV
 rw [List.filter_append]
 by_cases h : 0 ≤ whoI s v.f
 ·rw [if_pos h]; simp [h]
 ·rw [if_neg h]; simp [h]
theorem goes_stay {s : RS} {d : Int} (hd : d ∈ s.ins) (h : stayB (ofD d) d s.ins = true) : s.goes d = ⟨insF d s.ins, s.gone ++ [d], s.ms, s.bk⟩ := by
 unfold RS.goes
 rw [if_pos hd]
 have : ∃ e ∈ s.ins, e ≠ d ∧ ofD e = ofD d := of_decide_eq_true h
 rw [if_pos this]; rfl
theorem goes_out {s : RS} {d : Int} (hd : d ∈ s.ins) (h : stayB (ofD d) d s.ins = false) : s.goes d = ⟨insF d s.ins, s.gone ++ [d], dropL s.ms (ofD d), s.bk⟩ := by
 unfold RS.goes
 rw [if_pos hd]
 have : ¬ ∃ e ∈ s.ins, e ≠ d ∧ ofD e = ofD d := of_decide_eq_false h
 rw [if_neg this]; rfl
set_option maxRecDepth 100000 in
set_option maxHeartbeats 16000000 in
theorem goesR_any (P : Nat → Prop) (w : World) (a : RfV) (s : RS) (L : List ME) (vs : List VI) (d : Int) (kk : Nat) (hR : RfAt w a s L vs) (hV : VsOk s vs) (hs : s.Ok kk) (hkk : kk ≤ 1000) (hI : RfIn P a L) (hN : ∀ b, w.heap.size ≤ b → P b) :
  Calls Tryd.prog 53 #[.agg (rfC a s vs.length), .int .i64 d] w fun e w' => ∃ a' L' vs', e = .returned (.agg (rfC a' (s.goes d) vs'.length)) ∧ RfAt w' a' (s.goes d) L' vs' ∧ VsOk (s.goes d) vs' ∧ RfIn P a' L' ∧ Below w.heap.size w w' := by
 have hfw := hs.few
 rw [List.length_append] at hfw
 have hfm := hs.fewM
 have hfv := hV.few hs
 have hbx := Below.lit w (.cells (rfC a s vs.length) 60)
 have hRb := hR.below hbx
 have hBx := RfBox.made w a s vs.length
 obtain ⟨wb, hwb, hBx⟩ := nameW (p := fun W => RfBox W w.heap.size a s vs.length) hBx
 rw [hwb.out] at hbx hRb
 obtain ⟨bx, hbxn⟩ : ∃ bx, Hid (w.heap.size = bx) := ⟨_, Lib.hid rfl⟩
 rw [hbxn.out] at hBx
 have hbzl := Below.lit wb (.cells rZ 60)
 obtain ⟨wz, hwz, hZ⟩ := nameW (p := fun W => ZBox W wb.heap.size) (ZBox.made wb)
 rw [hwz.out] at hbzl
 have hbz0 : w.heap.size ≤ wb.heap.size := hbx.size
 have hbx0 : w.heap.size ≤ w.heap.size := Nat.le_refl _
 have hbzx : wb.heap.size ≠ w.heap.size := by rw [← hwb.out]; simp
 rw [hbxn.out] at hbzx
 replace hbx0 : w.heap.size ≤ bx := by rw [← hbxn.out]; exact hbx0
 obtain ⟨bz, hbzn⟩ : ∃ bz, Hid (wb.heap.size = bz) := ⟨_, Lib.hid rfl⟩
 rw [hbzn.out] at hZ hbz0 hbzx
 replace hBx := hBx.below hbzl
 have hRz := hRb.below hbzl
 have hB := hbx.trans (hbzl.mono hbx.size)
 clear hbzl hRb
 obtain ⟨x, hx⟩ : ∃ x, Hid (decide (d ∈ s.ins) = x) := ⟨_, Lib.hid rfl⟩
 go_enter Tryd.func53, Tryd.ntmps53
 go_upto_region 1 with (first | (rw [hwb.out]) | (rw [hwz.out]) | (refine wpL_allocT 60 rZ rfl rfl (zero_R _) ?_; simp only [Act.put, List.setIfInBounds_toArray, List.set_cons_succ, List.set_cons_zero]) | fail)
 rw [hbxn.out, hbzn.out]
 have z1 := hBx.c1
 have hz := hZ
 have hbox := hBx
 clear hZ hBx
 go_wp2_with fail
 refine (HasL_any a.pi s.ins.length s.ins a.ci d wz hRz.ins (by omega)).mono ?_
 rintro e _ ⟨rfl, rfl⟩
 rw [hx.out]
 cases x with
 | false =>
  have hst : Hid (s.goes d = s) := Lib.hid (by unfold RS.goes; rw [if_neg (of_decide_eq_false hx.out)])
  go_wp2_with (first | (refine wpList_load_row rfl 60 _ rfl bx rfl 60 _ (0, 0) _ hbox Tryd.underlying60 rfl (rfC_info _ _ _) ?_) | (refine wpList_store_row rfl 60 _ _ rfl bz _ rfl rfl 60 rZ hz (rfC_info _ _ _) rfl (rfC_one _ _ _) ?_) | fail)
  refine bodyPost_ret (v := .agg (rfC a s vs.length)) ?_ rfl ?_
  ·exact results_cell_row rfl _ _ bz 60 _ (0, 0) _ rfl (setRow_heap _ _ _ _ _ _ hz) Tryd.underlying60 rfl (rfC_info _ _ _)
  ·have hBf := belowSetRow (cs := rfC a s vs.length) hB hbz0
   rw [hst.out]
   exact ⟨a, L, vs, rfl, hR.below hBf, hV, hI, hBf⟩
 | true =>
  have hdin : d ∈ s.ins := of_decide_eq_true hx.out
  have hd7 := hs.ins d (List.mem_append.2 (.inl hdin))
  have hins7 : ∀ e ∈ s.ins, 1 ≤ e ∧ e ≤ 7 := fun e he => hs.ins e (List.mem_append.2 (.inl he))
  have hdb : -9223372036854775808 ≤ d ∧ d ≤ 9223372036854775807 := by omega
  replace hd7 := Lib.hid hd7
  replace hins7 := Lib.hid hins7
  replace hdin := Lib.hid hdin
  replace hx := Lib.hid hx
  obtain ⟨m, hm⟩ : ∃ m, Hid (ofD d = m) := ⟨_, Lib.hid rfl⟩
  go_wp2_with (first | (refine wpList_load_row rfl 60 _ rfl bx rfl 60 _ (0, 0) _ hbox Tryd.underlying60 rfl (rfC_info _ _ _) ?_) | fail)
  refine (OfR_any wz a.pc a.cc _ _ _ _ _ d hRz.cards).mono ?_
  rintro e w1 ⟨rfl, hb1⟩
  rw [hm.out]
  replace hbox := hbox.below hb1
  replace hz := hz.below hb1
  have hR1 := hRz.below hb1
  replace hB := hB.trans (hb1.mono hB.size)
  clear hb1 z1
  obtain ⟨n, hn⟩ : ∃ n, Hid (s.ins.length = n) := ⟨_, Lib.hid rfl⟩
  have hUi := hR1.ins
  rw [hn.out] at hUi
  replace hUi := Lib.hid hUi
  replace hB := Lib.hid hB
  replace hR1 := Lib.hid hR1
  replace hbox := Lib.hid hbox
  replace hz := Lib.hid hz
  go_wp2_with fail
  go_loopw [6, 7, 8] (fun v st i wr => ∃ (j : Nat), j ≤ n ∧ i = .int .i64 j ∧ st = .bool (stayB m d (s.ins.take j)) ∧ OwnI wr w1.heap.size v (insF d (s.ins.take j)).length (insF d (s.ins.take j)) ∧ Hid (Below w1.heap.size w1 wr)) (fun _ _ i _ => n - (intOf i).toNat)
  case atStart => exact ⟨0, Nat.zero_le _, rfl, rfl, OwnI.nil _ _, Lib.hid (Below.refl _ _)⟩
  case round =>
   obtain ⟨j, hj, rfl, rfl, hown, hbr⟩ := hrel
   have z1 := (hbox.out.below hbr.out).c1
   rw [hn.out] at z1
   have hlen7 : (insF d (s.ins.take j)).length ≤ 7 := by
    unfold insF
    refine Nat.le_trans (List.length_filter_le ..) ?_
    rw [List.length_take]; omega
   by_cases hlt : j < n
   ·obtain ⟨b, off, hpi, _, hc, hc0, hc1⟩ := (hUi.out.below hbr.out).look hlt
    have hix1 : (0 : Int) ≤ (j : Int) := by omega
    have hix2 : (j : Int) < (n : Int) := by omega
    have hjl : j < s.ins.length := by rw [hn.out]; exact hlt
    have htk : s.ins.take (j + 1) = s.ins.take j ++ [nth s.ins j] := by rw [List.take_add_one, List.getElem?_eq_getElem hjl, ← nth_eq hjl]; rfl
    obtain ⟨y, hy⟩ : ∃ y, Hid (nth s.ins j = y) := ⟨_, Lib.hid rfl⟩
    rw [hy.out] at hc hc0 hc1 htk
    have hsn := insF_snoc d (s.ins.take j) y
    have hsb := stayB_snoc m d (s.ins.take j) y
    rw [← htk] at hsn hsb
    rw [hpi] at z1
    obtain ⟨st, hst⟩ : ∃ st, Hid (stayB m d (s.ins.take j) = st) := ⟨_, Lib.hid rfl⟩
    obtain ⟨ys, hys⟩ : ∃ ys, Hid (insF d (s.ins.take j) = ys) := ⟨_, Lib.hid rfl⟩
    rw [hst.out] at hsb
    rw [hys.out] at hsn hown hlen7
    rw [hst.out]
    replace hsn := Lib.hid hsn
    replace hsb := Lib.hid hsb
    replace htk := Lib.hid htk
    by_cases hyd : y = d
    ·have t1 : (y != d) = false := by rw [hyd]; exact bne_self_eq_false _
     have e1 : Hid (insF d (s.ins.take (j + 1)) = ys) := Lib.hid (by rw [hsn.out, if_pos hyd])
     have e2 : Hid (stayB m d (s.ins.take (j + 1)) = st) := Lib.hid (by rw [hsb.out]; simp [hyd])
     replace hyd := Lib.hid hyd
     go_wp2_with fail
     go_roundw
     case rel => exact ⟨j + 1, by omega, by go_num, by rw [e2.out], by rw [e1.out]; exact hown, hbr⟩
     case measure => simp [intOf]; omega
    ·have t1 : (y != d) = true := bne_iff_ne.2 hyd
     have e1 : Hid (insF d (s.ins.take (j + 1)) = ys ++ [y]) := Lib.hid (by rw [hsn.out, if_neg hyd])
     obtain ⟨oy, hoy⟩ : ∃ oy, Hid (ofD y = oy) := ⟨_, Lib.hid rfl⟩
     have e2 : Hid (stayB m d (s.ins.take (j + 1)) = (st || (oy == m))) := Lib.hid (by rw [hsb.out, hoy.out]; simp [hyd]; rfl)
     replace hyd := Lib.hid hyd
     have hzr : w1.heap.size ≤ wr.heap.size := hbr.out.size
     go_upto_region 11 with (first
      | (at_builtin; refine app_i rfl _ _ rfl hown rfl (by rfl) ⟨hc0, hc1⟩ (by omega) hzr ?_; intro v4 w4 hown4 hb4)
      | fail)
     have hb14 := hbr.out.trans hb4
     replace z1 := (hbox.out.below hb14).c1
     rw [hn.out, hpi] at z1
     have hc4 := (hUi.out.below hb14).look hlt
     obtain ⟨b', off', hpi', _, hc4, _, _⟩ := hc4
     rw [hpi] at hpi'
     injection hpi' with hpi'
     injection hpi' with q1 q2
     subst q1; subst q2
     rw [hy.out] at hc4
     obtain ⟨wd, hwd⟩ : ∃ wd, Hid (w4.drew = wd) := ⟨_, Lib.hid rfl⟩
     have hw0 : Below w4.heap.size w4 wd := by rw [← hwd.out]; exact (Below.refl _ _).drew
     replace z1 := (hw0.cell (cell_lt z1)).trans z1
     replace hc4 := (hw0.cell (cell_lt hc4)).trans hc4
     have hb1d := hb14.trans (hw0.mono hb14.size)
     have hownd := hown4.below hw0
     have hboxd := hbox.out.below hb1d
     have hRd := hR1.out.below hb1d
     have hb0 : Below wd.heap.size wd wd := Below.refl _ _
     replace hownd := Lib.hid hownd
     replace hb1d := Lib.hid hb1d
     clear hb14 hown hown4 hb4 hc hw0
     refine wp_region_D (D := fun T => Below wd.heap.size wd T) (by kernel_rfl) ?_
     rw [hwd.out]
     change wpAnyD _ _ _ _ _ 13 _ _ _
     apply tkD 0 hb0 rfl
     ·intro T hT
      go_simp
      try rfl
     try go_frame
     apply tkD 1 hb0 rfl
     ·intro T hT
      go_simp
      try rfl
     try go_frame
     cases st with
     | true =>
      apply noD 2 hb0 rfl
      try go_frame
      apply noD 3 hb0 rfl
      try go_frame
      apply noD 4 hb0 rfl
      try go_frame
      apply noD 5 hb0 rfl
      try go_frame
      apply noD 6 hb0 rfl
      try go_frame
      apply noD 7 hb0 rfl
      try go_frame
      apply noD 8 hb0 rfl
      try go_frame
      apply noD 9 hb0 rfl
      try go_frame
      apply noD 10 hb0 rfl
      try go_frame
      apply tkD 11 hb0 rfl
      ·intro T hT
       go_simp
       try rfl
      try go_frame
      apply tkD 12 hb0 rfl
      ·intro T hT
       go_simp
       try rfl
      try go_frame
      refine wpAnyD_done (by kernel_rfl) ?_ _
      go_wp2_with fail
      refine ⟨⟨_, _, _, ⟨j + 1, by omega, by go_num, by rw [e2.out]; rfl, by rw [e1.out, List.length_append]; exact hownd.out⟩, rfl, rfl, rfl⟩, ?_⟩
      simp [intOf]; omega
     | false =>
      apply tkD 2 hb0 rfl
      ·intro T hT
       exact run_loadR (hboxd.below hT) rfl rfl
      try go_frame
      apply tkD 3 hb0 rfl
      ·intro T hT
       have hT0 := (hT.cell (cell_lt z1)).trans z1
       go_simp
       try rfl
      try go_frame
      apply tkD 4 hb0 rfl
      ·intro T hT
       have hT0 := (hT.cell (cell_lt z1)).trans z1
       go_simp
       try rfl
      try go_frame
      apply tkD 5 hb0 rfl
      ·intro T hT
       have hT0 := (hT.cell (cell_lt z1)).trans z1
       go_simp
       try rfl
      try go_frame
      apply tkD 6 hb0 rfl
      ·intro T hT
       have hT0 := (hT.cell (cell_lt z1)).trans z1
       go_simp
       try rfl
      try go_frame
      apply tkD 7 hb0 rfl
      ·intro T hT
       have hT0 := (hT.cell (cell_lt hc4)).trans hc4
       go_simp
       try rfl
      try go_frame
      apply tkD 9 hb0 rfl
      ·intro T hT
       go_simp
       try rfl
      try go_frame
      refine oneD 8 (by kernel_rfl) rfl (by kernel_rfl) (fun K hK => ?_)
      go_simp
      refine (OfR_any wd a.pc a.cc _ _ _ _ _ y hRd.cards).mono ?_
      rintro e T ⟨rfl, hbT⟩
      rw [hoy.out]
      refine hK _ _ ⟨hbT, ?_⟩
      clear hK K
      try go_frame
      have hb1T := Lib.hid (hb1d.out.trans (hbT.mono hb1d.out.size))
      have hownT := hownd.out.below hbT
      apply tkD 10 hbT rfl
      ·intro T hT
       go_simp
       try rfl
      try go_frame
      apply tkD 11 hbT rfl
      ·intro T hT
       go_simp
       try rfl
      try go_frame
      apply tkD 12 hbT rfl
      ·intro T hT
       go_simp
       try rfl
      try go_frame
      refine wpAnyD_done (by kernel_rfl) ?_ _
      go_wp2_with fail
      refine ⟨⟨_, _, _, ⟨j + 1, by omega, by go_num, by rw [e2.out]; rfl, by rw [e1.out, List.length_append]; exact hownT⟩, rfl, rfl, rfl⟩, ?_⟩
      simp [intOf]; omega
   ·have hjn : s.ins.take j = s.ins := List.take_of_length_le (by rw [hn.out]; omega)
    rw [hjn] at hown hlen7 ⊢
    obtain ⟨I', hI'⟩ : ∃ l, Hid (insF d s.ins = l) := ⟨_, Lib.hid rfl⟩
    rw [hI'.out] at hown hlen7
    obtain ⟨k, hk⟩ : ∃ k, Hid (I'.length = k) := ⟨_, Lib.hid rfl⟩
    rw [hk.out] at hown hlen7
    obtain ⟨st, hst⟩ : ∃ st, Hid (stayB m d s.ins = st) := ⟨_, Lib.hid rfl⟩
    rw [hst.out]
    replace hjn := Lib.hid hjn
    obtain ⟨p5, c5, rfl, _, hu5, hf5, hnz5⟩ := hown.u2
    have hboxr := hbox.out.below hbr.out
    have hzr := hz.out.below hbr.out
    have hBr := hB.out.trans (hbr.out.mono hB.out.size)
    have hbx1 : bx < w1.heap.size := blk_lt hbox.out
    have hbz1 : bz < w1.heap.size := blk_lt hz.out
    have hw01 : w.heap.size ≤ w1.heap.size := hB.out.size
    have f1 := hboxr.free 1
    obtain ⟨w3, hw3, hbox3⟩ := nameW (p := fun W => RfBox W bx { a with pi := p5, ci := c5 } ⟨I', s.gone, s.ms, s.bk⟩ vs.length) (hboxr.setI (p := p5) (c := c5) (n := k) hk.out)
    have hu3 : UL w3 p5 k I' := by rw [← hw3.out]; exact hu5.set (hf5.mono hbx1)
    have hz3 : ZBox w3 bz := by rw [← hw3.out]; exact hzr.keep (setCell_keep (blk_lt hzr) hbzx)
    have hB3 : Below w.heap.size w w3 := by rw [← hw3.out]; exact hBr.trans (setCell_below hbx0 hBr.size)
    have hz13 : w1.heap.size ≤ w3.heap.size := by
     have : w3.heap.size = wr.heap.size := by rw [← hw3.out]; simp [World.setCell]
     rw [this]; exact hbr.out.size
    obtain ⟨gl, hgp, hgl⟩ := (hR.below hB3).gone
    have z2 : w3.cell? ⟨bx, 2, none⟩ = some (.slice a.pg s.gone.length a.cg) := hbox3.c2
    have he := OwnI.empty w3
    have hbe := Below.lit w3 (.cells #[] 3)
    obtain ⟨we, hwe, he⟩ := nameW (p := fun W => OwnI W w3.heap.size (.slice (some ⟨w3.heap.size, 0, none⟩) 0 0) 0 []) he
    rw [hwe.out] at hbe
    have z2e := (hbe.cell (cell_lt z2)).trans z2
    have hgle := hgl.below hbe
    have hgnz := hR.nz.2.1
    have hxe := hbox3.below hbe
    have hze := hz3.below hbe
    have hue := hu3.below hbe
    have hzz : w3.heap.size ≤ we.heap.size := hbe.size
    have hbx3 : bx < w3.heap.size := blk_lt hbox3
    have hbz3 : bz < w3.heap.size := blk_lt hz3
    have hBe := hB3.trans (hbe.mono hB3.size)
    have hgn1 : (s.gone ++ [d]).length = s.gone.length + 1 := by rw [List.length_append]; rfl
    have hgp2 : Hid ((gl ++ [d]).Perm (s.gone ++ [d])) := Lib.hid (hgp.append_right _)
    obtain ⟨ng, hng⟩ : ∃ n, Hid (s.gone.length = n) := ⟨_, Lib.hid rfl⟩
    rw [hng.out] at z2 z2e hgle hgn1 hfw
    replace hgn1 := Lib.hid hgn1
    replace hue := Lib.hid hue
    clear hown hu5 hboxr hzr hBr hgl
    go_upto_region 14 with (first
     | (rw [hw3.out])
     | (rw [hwe.out])
     | (at_builtin; refine app_manyI rfl _ _ rfl he rfl rfl hgle hgnz (by omega) hzz ?_; intro v4 W4 hown4 hb4; rw [Nat.zero_add, List.nil_append] at hown4; have hz4 := Nat.le_trans hzz hb4.size)
     | (at_builtin; refine app_i rfl _ _ rfl hown4 rfl rfl hdb (by omega) hz4 ?_; intro v5 W5 hown5 hb5; have hb45 := hb4.trans hb5; have hx5 := hxe.keep (hb45.block bx hbx3); have hz5 := hze.keep (hb45.block bz hbz3); have y2 : W5.cell? ⟨bx, 2, none⟩ = some (.slice a.pg s.gone.length a.cg) := hx5.c2; rw [hng.out] at y2; have f2 := hx5.free 2; obtain ⟨p6, c6, rfl, hnc6, hu6', hf6, hnz6⟩ := hown5.u2; obtain ⟨W6, hW6, hbox6⟩ := nameW (p := fun W => RfBox W bx { a with pi := p5, ci := c5, pg := p6, cg := c6 } ⟨I', s.gone ++ [d], s.ms, s.bk⟩ vs.length) (hx5.setG (p := p6) (c := c6) (n := ng + 1) hgn1.out))
     | (rw [hW6.out])
     | fail)
    have hB5 : Below w.heap.size w W5 := hBe.trans (hb45.mono hB3.size)
    have hB6 : Below w.heap.size w W6 := by rw [← hW6.out]; exact hB5.trans (setCell_below hbx0 hB5.size)
    have hu5 : UL W5 p5 k I' := hu3.below (hbe.trans hb45)
    have hu6 : UL W6 p5 k I' := by rw [← hW6.out]; exact hu5.set (hf5.mono hbx1)
    have hg6 : UL W6 p6 (ng + 1) (gl ++ [d]) := by rw [← hW6.out]; exact hu6'.set (hf6.mono hbx3)
    have hz6 : ZBox W6 bz := by rw [← hW6.out]; exact hz5.keep (setCell_keep (blk_lt hz5) hbzx)
    have hf5' : FarP w.heap.size p5 := hf5.mono hw01
    have hf6' : FarP w.heap.size p6 := hf6.mono hB3.size
    have hf5z : FarP (bz + 1) p5 := hf5.mono hbz1
    have hf6z : FarP (bz + 1) p6 := hf6.mono hbz3
    have hf5x : FarP (bx + 1) p5 := hf5.mono hbx1
    have hf6x : FarP (bx + 1) p6 := hf6.mono hbx3
    have hR6 : RfAt W6 { a with pi := p5, ci := c5, pg := p6, cg := c6 } ⟨I', s.gone ++ [d], s.ms, s.bk⟩ L vs :=
     ((hR.below hB6).withIns (by rw [hk.out]; exact hu6) hnz5).withGone (by rw [hgn1.out]; exact hg6) hgp2.out hnz6
    clear hown4 hown5 hb4 hb5 hb45 hx5 hz5 y2 f2 hu5 hu6' he hbe z2 z2e hgle hxe hze hue hbox3 hz3 hB3 hB5 hBe hu3 f1 hR1 hbox hz hB hUi hbr z1
    replace hu6 := Lib.hid hu6
    replace hg6 := Lib.hid hg6
    replace hB6 := Lib.hid hB6
    replace hgp := Lib.hid hgp
    cases st with
    | true =>
     have hst2 : Hid (s.goes d = ⟨I', s.gone ++ [d], s.ms, s.bk⟩) := Lib.hid (by rw [goes_stay hdin.out (by rw [hm.out]; exact hst.out), hI'.out])
     have hbox := hbox6
     have hz := hz6
     go_wp2_with (first | (refine wpList_load_row rfl 60 _ rfl bx rfl 60 _ (0, 0) _ hbox Tryd.underlying60 rfl (rfC_info _ _ _) ?_) | (refine wpList_store_row rfl 60 _ _ rfl bz _ rfl rfl 60 rZ hz (rfC_info _ _ _) rfl (rfC_one _ _ _) ?_) | fail)
     refine bodyPost_ret (v := .agg (rfC { a with pi := p5, ci := c5, pg := p6, cg := c6 } ⟨I', s.gone ++ [d], s.ms, s.bk⟩ vs.length)) ?_ rfl ?_
     ·exact results_cell_row rfl _ _ bz 60 _ (0, 0) _ rfl (setRow_heap _ _ _ _ _ _ hz) Tryd.underlying60 rfl (rfC_info _ _ _)
     ·obtain ⟨cs, hcs⟩ : ∃ cs, Hid (rfC { a with pi := p5, ci := c5, pg := p6, cg := c6 } ⟨I', s.gone ++ [d], s.ms, s.bk⟩ vs.length = cs) := ⟨_, Lib.hid rfl⟩
      rw [hcs.out]
      have hBf := belowSetRow (cs := cs) hB6.out hbz0
      have hRf := hR.below hBf
      rw [hst2.out, ← hcs.out]
      refine ⟨{ a with pi := p5, ci := c5, pg := p6, cg := c6 }, L, vs, rfl, ?_, hV.row rfl, ⟨hI.pc, fun q e => hN _ (hf5' q e), fun q e => hN _ (hf6' q e), hI.pl, hI.pv, hI.gs⟩, ?_⟩
      ·rw [hcs.out]
       exact (hRf.withIns (by rw [hk.out]; exact hu6.out.setRow hf5z) hnz5).withGone (by rw [hgn1.out]; exact hg6.out.setRow hf6z) hgp2.out hnz6
      ·rw [hcs.out]; exact hBf
    | false =>
     have hst2 : Hid (s.goes d = ⟨I', s.gone ++ [d], dropL s.ms m, s.bk⟩) := Lib.hid (by rw [goes_out hdin.out (by rw [hm.out]; exact hst.out), hI'.out, hm.out])
     have hz66 : W6.heap.size ≤ W6.heap.size := Nat.le_refl _
     have hwz6 : w.heap.size ≤ W6.heap.size := hB6.out.size
     have hbx6 : bx < W6.heap.size := blk_lt hbox6
     have hbz6 : bz < W6.heap.size := blk_lt hz6
     have hLl : L.length = s.ms.length := by have := congrArg List.length hR.lq; rwa [List.length_map] at this
     obtain ⟨nm, hnm⟩ : ∃ n, Hid (s.ms.length = n) := ⟨_, Lib.hid rfl⟩
     rw [hnm.out] at hLl hfm
     replace hbox6 := Lib.hid hbox6
     replace hR6 := Lib.hid hR6
     replace hz6 := Lib.hid hz6
     go_wp2_with fail
     go_loopw [9, 11] (fun v i wr => ∃ (j : Nat), j ≤ nm ∧ i = .int .i64 j ∧ OwnE mE wr W6.heap.size v (keepL m (L.take j)) ∧ Hid (Below W6.heap.size W6 wr)) (fun _ i _ => nm - (intOf i).toNat)
     case atStart => exact ⟨0, Nat.zero_le _, rfl, OwnE.nil _ _, Lib.hid (Below.refl _ _)⟩
     case round =>
      obtain ⟨j, hj, rfl, hown, hbr⟩ := hrel
      have z3 : wr.cell? ⟨bx, 3, none⟩ = some (.slice a.pl s.ms.length a.cl) := (hbox6.out.below hbr.out).c3
      rw [hnm.out] at z3
      by_cases hlt : j < nm
      ·obtain ⟨b, off, x, hxL, hxs, hp, _, hLj, hc⟩ := (hR6.out.below hbr.out).at_ (k := j) (by show j < s.ms.length; rw [hnm.out]; exact hlt)
       replace hp : a.pl = some ⟨b, off, none⟩ := hp
       have hix1 : (0 : Int) ≤ (j : Int) := by omega
       have hix2 : (j : Int) < (nm : Int) := by omega
       have htk : L.take (j + 1) = L.take j ++ [x] := by rw [List.take_add_one, hLj]; rfl
       have hsn := keepL_snoc m (L.take j) x
       rw [← htk] at hsn
       have c0 : wr.cell? ⟨b, off + j * 11, none⟩ = some (.int .i64 x.1.1) := hc 0 _ rfl
       rw [hp] at z3
       have hll : (keepL m (L.take j)).length ≤ 1000000 := by
        unfold keepL
        refine Nat.le_trans (List.length_filter_le ..) ?_
        rw [List.length_take]; omega
       obtain ⟨ys, hys⟩ : ∃ ys, Hid (keepL m (L.take j) = ys) := ⟨_, Lib.hid rfl⟩
       rw [hys.out] at hsn hown hll
       obtain ⟨xn, hxn⟩ : ∃ xn, Hid (x.1.1 = xn) := ⟨_, Lib.hid rfl⟩
       rw [hxn.out] at c0 hsn
       replace hsn := Lib.hid hsn
       replace htk := Lib.hid htk
       replace hc := Lib.hid hc
       replace hxs := Lib.hid hxs
       replace hLj := Lib.hid hLj
       by_cases hxm : xn = m
       ·have t1 : (xn != m) = false := by rw [hxm]; exact bne_self_eq_false _
        have e1 : Hid (keepL m (L.take (j + 1)) = ys) := Lib.hid (by rw [hsn.out, if_pos hxm])
        replace hxm := Lib.hid hxm
        go_wp2_with fail
        go_roundw
        case rel => exact ⟨j + 1, by omega, by go_num, by rw [e1.out]; exact hown, hbr⟩
        case measure => simp [intOf]; omega
       ·have t1 : (xn != m) = true := bne_iff_ne.2 hxm
        have e1 : Hid (keepL m (L.take (j + 1)) = ys ++ [x]) := Lib.hid (by rw [hsn.out, if_neg hxm])
        replace hxm := Lib.hid hxm
        have hzr : W6.heap.size ≤ wr.heap.size := hbr.out.size
        go_wp2_with (first
         | (refine wpL_loadM rfl _ rfl b (off + j * 11) rfl x hc.out ?_)
         | (refine Go.Great.wpList_buildSliceTo rfl 57 108 1 _ rfl wr.heap.size rfl _ rfl Tryd.underlying57 (mC x) (by kernel_rfl) ?_; simp only [Act.put, List.setIfInBounds_toArray, List.set_cons_succ, List.set_cons_zero])
         | (at_builtin; refine app_eb mE rfl _ _ rfl (y := x) rfl hown rfl rfl hll hzr ?_; intro v5 W7 hown5 hb5)
         | fail)
        go_roundw
        case rel => exact ⟨j + 1, by omega, by go_num, by rw [e1.out]; exact hown5, Lib.hid (hbr.out.trans hb5)⟩
        case measure => simp [intOf]; omega
      ·have hjn : L.take j = L := List.take_of_length_le (by omega)
       rw [hjn] at hown
       have hfst := keepL_fst m L
       rw [hR.lq] at hfst
       have hLsub : ∀ x ∈ keepL m L, x ∈ L := fun x hx => (List.mem_filter.1 hx).1
       obtain ⟨L', hL'⟩ : ∃ l, Hid (keepL m L = l) := ⟨_, Lib.hid rfl⟩
       rw [hL'.out] at hown hfst hLsub
       obtain ⟨D', hD'⟩ : ∃ l, Hid (dropL s.ms m = l) := ⟨_, Lib.hid rfl⟩
       rw [hD'.out] at hfst hst2
       obtain ⟨q7, d7, rfl, _, hr7, hf7, hnz7, _⟩ := hown.u2
       have hDl : D'.length = L'.length := by rw [← hfst, List.length_map]
       have hDfm : D'.length ≤ 1000 := by
        rw [← hD'.out]
        have := List.length_filter_le (fun p : Int × Mb => decide (p.1 ≠ m)) s.ms
        have h4 := hs.fewM
        unfold dropL
        omega
       obtain ⟨n7, hn7⟩ : ∃ n, Hid (L'.length = n) := ⟨_, Lib.hid rfl⟩
       rw [hn7.out] at hDl
       rw [hn7.out]
       have hboxr := hbox6.out.below hbr.out
       have hzr := hz6.out.below hbr.out
       have hBr := hB6.out.trans (hbr.out.mono hwz6)
       have f3 := hboxr.free 3
       obtain ⟨w8, hw8, hbox8⟩ := nameW (p := fun W => RfBox W bx { a with pi := p5, ci := c5, pg := p6, cg := c6, pl := q7, cl := d7 } ⟨I', s.gone ++ [d], D', s.bk⟩ vs.length) (hboxr.setL (p := q7) (c := d7) (n := n7) hDl)
       have hu8 : UL w8 p5 k I' := by rw [← hw8.out]; exact (hu6.out.below hbr.out).set hf5x
       have hg8 : UL w8 p6 (ng + 1) (gl ++ [d]) := by rw [← hw8.out]; exact (hg6.out.below hbr.out).set hf6x
       have hr8 : RL mE w8 q7 L' := by rw [← hw8.out]; exact hr7.set (hf7.mono hbx6)
       have hz8 : ZBox w8 bz := by rw [← hw8.out]; exact hzr.keep (setCell_keep (blk_lt hzr) hbzx)
       have hB8 : Below w.heap.size w w8 := by rw [← hw8.out]; exact hBr.trans (setCell_below hbx0 hBr.size)
       have hR8a := hR.below hB8
       have hR8 : RfAt w8 { a with pi := p5, ci := c5, pg := p6, cg := c6, pl := q7, cl := d7 } ⟨I', s.gone ++ [d], D', s.bk⟩ L' vs :=
        ((hR8a.withIns (by rw [hk.out]; exact hu8) hnz5).withGone (by rw [hgn1.out]; exact hg8) hgp2.out hnz6).withL hr8 hfst hnz7 (fun x hx => hR8a.gsL x (hLsub x hx)) hR8a.vvL hR8a.nz.2.2.2
       have hf7z : FarP (bz + 1) q7 := hf7.mono hbz6
       have hf7x : FarP (bx + 1) q7 := hf7.mono hbx6
       have hbx8 : bx < w8.heap.size := blk_lt hbox8
       have hbz8 : bz < w8.heap.size := blk_lt hz8
       clear hown hr7 hboxr hzr hBr hR8a hbr hR6 hbox6 hz6 hu6 hg6 hB6
       replace hjn := Lib.hid hjn
       replace hfst := Lib.hid hfst
       replace hLsub := Lib.hid hLsub
       replace hDl := Lib.hid hDl
       replace hbox8 := Lib.hid hbox8
       replace hz8 := Lib.hid hz8
       replace hB8 := Lib.hid hB8
       replace hR8 := Lib.hid hR8
       replace hu8 := Lib.hid hu8
       replace hg8 := Lib.hid hg8
       replace hr8 := Lib.hid hr8
       go_upto_region 24 with (first | (rw [hw8.out]) | fail)
       go_wp2_with fail
       go_loopw [10, 12] (fun v i wr => ∃ (j : Nat), j ≤ vs.length ∧ i = .int .i64 j ∧ OwnE vE wr w8.heap.size v (liveV ⟨I', s.gone ++ [d], D', s.bk⟩ (vs.take j)) ∧ Hid (Below w8.heap.size w8 wr)) (fun _ i _ => vs.length - (intOf i).toNat)
       case atStart => exact ⟨0, Nat.zero_le _, rfl, OwnE.nil _ _, Lib.hid (Below.refl _ _)⟩
       case round =>
        obtain ⟨j, hj, rfl, hown, hbr⟩ := hrel
        have z5 : wr.cell? ⟨bx, 5, none⟩ = some (.slice a.pv vs.length a.cv) := (hbox8.out.below hbr.out).c5
        by_cases hlt : j < vs.length
        ·obtain ⟨b, off, hpv, _, hc⟩ := (hR8.out.below hbr.out).vat hlt
         replace hpv : a.pv = some ⟨b, off, none⟩ := hpv
         have hix1 : (0 : Int) ≤ (j : Int) := by omega
         have hix2 : (j : Int) < (vs.length : Int) := by omega
         have htk : vs.take (j + 1) = vs.take j ++ [vs[j]] := by rw [List.take_add_one, List.getElem?_eq_getElem hlt]; rfl
         obtain ⟨v, hv⟩ : ∃ v, Hid (vs[j] = v) := ⟨_, Lib.hid rfl⟩
         rw [hv.out] at htk hc
         have hsn := liveV_snoc ⟨I', s.gone ++ [d], D', s.bk⟩ (vs.take j) v
         rw [← htk] at hsn
         have hll : (liveV ⟨I', s.gone ++ [d], D', s.bk⟩ (vs.take j)).length ≤ 1000000 := by
          unfold liveV
          refine Nat.le_trans (List.length_filter_le ..) ?_
          rw [List.length_take]; omega
         obtain ⟨ys, hys⟩ : ∃ ys, Hid (liveV ⟨I', s.gone ++ [d], D', s.bk⟩ (vs.take j) = ys) := ⟨_, Lib.hid rfl⟩
         rw [hys.out] at hsn hown hll
         obtain ⟨wq, hwq⟩ : ∃ q, Hid (whoI ⟨I', s.gone ++ [d], D', s.bk⟩ v.f = q) := ⟨_, Lib.hid rfl⟩
         rw [hwq.out] at hsn
         have c0 : wr.cell? ⟨b, off + j * 6, none⟩ = some (.int .i64 v.f.b) := hc 0 _ rfl
         have c1 : wr.cell? ⟨b, off + j * 6 + 1, none⟩ = some (.int .i64 v.f.s) := hc 1 _ rfl
         have c2 : wr.cell? ⟨b, off + j * 6 + 2, none⟩ = some (.int .u64 v.f.u) := hc 2 _ rfl
         rw [hpv] at z5
         replace hpv := Lib.hid hpv
         replace hsn := Lib.hid hsn
         replace htk := Lib.hid htk
         replace hown := Lib.hid hown
         go_upto_region 27 with fail
         obtain ⟨wd, hwd⟩ : ∃ wd, Hid (wr.drew = wd) := ⟨_, Lib.hid rfl⟩
         have hw0 : Below wr.heap.size wr wd := by rw [← hwd.out]; exact (Below.refl _ _).drew
         replace z5 := (hw0.cell (cell_lt z5)).trans z5
         replace c0 := (hw0.cell (cell_lt c0)).trans c0
         replace c1 := (hw0.cell (cell_lt c1)).trans c1
         replace c2 := (hw0.cell (cell_lt c2)).trans c2
         have hbd := Lib.hid (hbr.out.trans (hw0.mono hbr.out.size))
         have hboxd := hbox8.out.below hbd.out
         have hRd := hR8.out.below hbd.out
         have hb0 : Below wd.heap.size wd wd := Below.refl _ _
         replace hboxd := Lib.hid hboxd
         replace hRd := Lib.hid hRd
         refine wp_region_D (D := fun T => Below wd.heap.size wd T) (by kernel_rfl) ?_
         rw [hwd.out]
         change wpAnyD _ _ _ _ _ 9 _ _ _
         apply tkD 0 hb0 rfl
         ·intro T hT
          exact run_loadR (hboxd.out.below hT) rfl rfl
         try go_frame
         apply tkD 1 hb0 rfl
         ·intro T hT
          have hT0 := (hT.cell (cell_lt z5)).trans z5
          go_simp
          try rfl
         try go_frame
         apply tkD 2 hb0 rfl
         ·intro T hT
          have hT0 := (hT.cell (cell_lt z5)).trans z5
          go_simp
          try rfl
         try go_frame
         apply tkD 3 hb0 rfl
         ·intro T hT
          have hT0 := (hT.cell (cell_lt z5)).trans z5
          go_simp
          try rfl
         try go_frame
         apply tkD 4 hb0 rfl
         ·intro T hT
          have hT0 := (hT.cell (cell_lt z5)).trans z5
          go_simp
          try rfl
         try go_frame
         apply tkD 5 hb0 rfl
         ·intro T hT
          have hT0 := (hT.cell (cell_lt z5)).trans z5
          go_simp
          try rfl
         try go_frame
         apply tkD 6 hb0 rfl
         ·intro T hT
          have hT0 := (hT.cell (cell_lt c0)).trans c0
          have hT1 := (hT.cell (cell_lt c1)).trans c1
          have hT2 := (hT.cell (cell_lt c2)).trans c2
          go_simp
          try rfl
         try go_frame
         refine oneD 7 (by kernel_rfl) rfl (by kernel_rfl) (fun K hK => ?_)
         go_simp
         refine (whoR_any wd { a with pi := p5, ci := c5, pg := p6, cg := c6, pl := q7, cl := d7 } ⟨I', s.gone ++ [d], D', s.bk⟩ L' vs v.f hRd.out hDfm).mono ?_
         rintro e T ⟨rfl, hbT⟩
         rw [hwq.out]
         refine hK _ _ ⟨hbT, ?_⟩
         clear hK K
         try go_frame
         have hbT' := Lib.hid (hbd.out.trans (hbT.mono hbd.out.size))
         by_cases hq0 : 0 ≤ wq
         ·have t1 : decide (0 ≤ wq) = true := decide_eq_true hq0
          have e1 : Hid (liveV ⟨I', s.gone ++ [d], D', s.bk⟩ (vs.take (j + 1)) = ys ++ [v]) := Lib.hid (by rw [hsn.out, if_pos hq0])
          replace hq0 := Lib.hid hq0
          apply tkD 8 hbT rfl
          ·intro T hT
           go_simp
           try rfl
          try go_frame
          refine wpAnyD_done (by kernel_rfl) ?_ _
          have hownT := (hown.out.below hw0).below hbT
          have hcT : ∀ i u, (vC v)[i]? = some u → T.cell? ⟨b, off + j * 6 + i, none⟩ = some u := fun i u hu => by
           have h1 := hc i u hu
           have h2 := (hw0.cell (p := ⟨b, off + j * 6 + i, none⟩) (cell_lt h1)).trans h1
           exact (hbT.cell (p := ⟨b, off + j * 6 + i, none⟩) (cell_lt h2)).trans h2
          have z5T := (hbT.cell (cell_lt z5)).trans z5
          have hzT : w8.heap.size ≤ T.heap.size := hbT'.out.size
          replace hc := Lib.hid hc
          replace hcT := Lib.hid hcT
          go_wp2_with (first
           | (refine wpL_loadV rfl _ rfl b (off + j * 6) rfl v hcT.out ?_)
           | (refine Go.Great.wpList_buildSliceTo rfl 58 128 1 _ rfl T.heap.size rfl _ rfl Tryd.underlying58 (vC v) (by kernel_rfl) ?_; simp only [Act.put, List.setIfInBounds_toArray, List.set_cons_succ, List.set_cons_zero])
           | (at_builtin; refine app_eb vE rfl _ _ rfl (y := v) rfl hownT rfl rfl hll hzT ?_; intro v5 W7 hown5 hb5)
           | fail)
          go_roundw
          case rel => exact ⟨j + 1, by omega, by go_num, by rw [e1.out]; exact hown5, Lib.hid (hbT'.out.trans hb5)⟩
          case measure => simp [intOf]; omega
         ·have t1 : decide (0 ≤ wq) = false := decide_eq_false hq0
          have e1 : Hid (liveV ⟨I', s.gone ++ [d], D', s.bk⟩ (vs.take (j + 1)) = ys) := Lib.hid (by rw [hsn.out, if_neg hq0])
          replace hq0 := Lib.hid hq0
          apply tkD 8 hbT rfl
          ·intro T hT
           go_simp
           try rfl
          try go_frame
          refine wpAnyD_done (by kernel_rfl) ?_ _
          have hownT := (hown.out.below hw0).below hbT
          replace hc := Lib.hid hc
          go_wp2_with fail
          go_roundw
          case rel => exact ⟨j + 1, by omega, by go_num, by rw [e1.out]; exact hownT, hbT'⟩
          case measure => simp [intOf]; omega
        ·have hjn : vs.take j = vs := List.take_of_length_le (by omega)
         rw [hjn] at hown
         have hVs := hV.goes hs hdin.out (by
          have := hst.out
          unfold stayB at this
          have := of_decide_eq_false this
          rw [hm.out]; exact this)
         rw [hst2.out] at hVs
         obtain ⟨V', hV'⟩ : ∃ l, Hid (liveV ⟨I', s.gone ++ [d], D', s.bk⟩ vs = l) := ⟨_, Lib.hid rfl⟩
         rw [hV'.out] at hown hVs
         obtain ⟨q9, d9, rfl, _, hr9, hf9, hnz9, _⟩ := hown.u2
         obtain ⟨n9, hn9⟩ : ∃ n, Hid (V'.length = n) := ⟨_, Lib.hid rfl⟩
         rw [hn9.out]
         have hboxr := hbox8.out.below hbr.out
         have hzr := hz8.out.below hbr.out
         have hBr := hB8.out.trans (hbr.out.mono hB8.out.size)
         have f5 := hboxr.free 5
         obtain ⟨wf, hwf, hbox⟩ := nameW (p := fun W => RfBox W bx { a with pi := p5, ci := c5, pg := p6, cg := c6, pl := q7, cl := d7, pv := q9, cv := d9 } ⟨I', s.gone ++ [d], D', s.bk⟩ n9) (hboxr.setV (p := q9) (c := d9) (n := n9))
         have hu9 : UL wf p5 k I' := by rw [← hwf.out]; exact (hu8.out.below hbr.out).set hf5x
         have hg9 : UL wf p6 (ng + 1) (gl ++ [d]) := by rw [← hwf.out]; exact (hg8.out.below hbr.out).set hf6x
         have hl9 : RL mE wf q7 L' := by rw [← hwf.out]; exact (hr8.out.below hbr.out).set hf7x
         have hv9 : RL vE wf q9 V' := by rw [← hwf.out]; exact hr9.set (hf9.mono hbx8)
         have hz : ZBox wf bz := by rw [← hwf.out]; exact hzr.keep (setCell_keep (blk_lt hzr) hbzx)
         have hBf0 : Below w.heap.size w wf := by rw [← hwf.out]; exact hBr.trans (setCell_below hbx0 hBr.size)
         have hf7' : FarP w.heap.size q7 := hf7.mono hwz6
         have hf9' : FarP w.heap.size q9 := hf9.mono hB8.out.size
         have hf9z : FarP (bz + 1) q9 := hf9.mono hbz8
         clear hown hr9 hboxr hzr hBr hbr hR8 hbox8 hz8 hu8 hg8 hr8
         replace hjn := Lib.hid hjn
         go_wp2_with (first | (rw [hwf.out]) | (refine wpList_load_row rfl 60 _ rfl bx rfl 60 _ (0, 0) _ hbox Tryd.underlying60 rfl (rfC_info _ _ _) ?_) | (refine wpList_store_row rfl 60 _ _ rfl bz _ rfl rfl 60 rZ hz (rfC_info _ _ _) rfl (rfC_one _ _ _) ?_) | fail)
         refine bodyPost_ret (v := .agg (rfC { a with pi := p5, ci := c5, pg := p6, cg := c6, pl := q7, cl := d7, pv := q9, cv := d9 } ⟨I', s.gone ++ [d], D', s.bk⟩ n9)) ?_ rfl ?_
         ·exact results_cell_row rfl _ _ bz 60 _ (0, 0) _ rfl (setRow_heap _ _ _ _ _ _ hz) Tryd.underlying60 rfl (rfC_info _ _ _)
         ·obtain ⟨cs, hcs⟩ : ∃ cs, Hid (rfC { a with pi := p5, ci := c5, pg := p6, cg := c6, pl := q7, cl := d7, pv := q9, cv := d9 } ⟨I', s.gone ++ [d], D', s.bk⟩ n9 = cs) := ⟨_, Lib.hid rfl⟩
          rw [hcs.out]
          have hBf := belowSetRow (cs := cs) hBf0 hbz0
          have hRf := hR.below hBf
          rw [hst2.out, ← hcs.out]
          refine ⟨{ a with pi := p5, ci := c5, pg := p6, cg := c6, pl := q7, cl := d7, pv := q9, cv := d9 }, L', V', by rw [hn9.out], ?_, hVs, ⟨hI.pc, fun q e => hN _ (hf5' q e), fun q e => hN _ (hf6' q e), fun q e => hN _ (hf7' q e), fun q e => hN _ (hf9' q e), fun x hx q e => hI.gs x (hLsub.out x hx) q e⟩, ?_⟩
          ·rw [hcs.out]
           exact ((hRf.withIns (by rw [hk.out]; exact hu9.setRow hf5z) hnz5).withGone (by rw [hgn1.out]; exact hg9.setRow hf6z) hgp2.out hnz6).withL (hl9.setRow hf7z) hfst.out hnz7 (fun x hx => hRf.gsL x (hLsub.out x hx)) (hv9.setRow hf9z) hnz9
          ·rw [hcs.out]; exact hBf
end Go.Proofs.YtkolilbebkkpdaaDoor

namespace Go.Proofs.YtkolilbebkkpdaaDoor
open Go.RowKit Go.Maps Go.BigFrame
attribute [local go_sem] in_gr

/-- One element of a list of one's own is written anew. -/
theorem RdE.setAt {α : Type} {E : El α} {w : World} {g : Nat} {l : List α} (h : RdE E w (some ⟨g, 0, none⟩) l) {k : Nat} (hk : k < l.length) (x : α) (ht : w.there g (k * E.sz) E.sz) : RdE E (w.setCells g (k * E.sz) (E.c x)) (some ⟨g, 0, none⟩) (l.set k x) := fun i hi => by
 have hi' : i < l.length := by rw [List.length_set] at hi; exact hi
 obtain ⟨b, off, he, hlt, hc⟩ := h i hi'
 injection he with he
 injection he with e1 e2
 subst e1; subst e2
 refine ⟨g, 0, rfl, Nat.lt_of_lt_of_le hlt (grown_cells w g (E.c x) (k * E.sz)).size, ?_⟩
 by_cases hik : i = k
 ·subst hik
  have e : (l.set i x)[i] = x := by simp
  rw [e, Nat.zero_add]
  exact World.rangeAt_setCells_same w g (i * E.sz) (E.c x) (by rw [E.hlen]; exact ht)
 ·have e : (l.set k x)[i] = l[i] := by rw [List.getElem_set_ne (fun e => hik e.symm)]
  rw [e]
  refine World.rangeAt_setCells_apart hc g (k * E.sz) (E.c x) (.inr ?_)
  rw [E.hlen, E.hlen, Nat.zero_add]
  rcases Nat.lt_or_ge i k with h | h
  ·left
   have : (i + 1) * E.sz ≤ k * E.sz := Nat.mul_le_mul_right _ h
   rw [Nat.succ_mul] at this
   exact this
  ·right
   have h2 : k + 1 ≤ i := by omega
   have : (k + 1) * E.sz ≤ i * E.sz := Nat.mul_le_mul_right _ h2
   rw [Nat.succ_mul] at this
   exact this
set_option maxRecDepth 100000 in
set_option maxHeartbeats 8000000 in
theorem withR_any (w : World) (p : Option Addr) (c : Nat) (L : List ME) (k : Nat) (x : ME) (hL : RdE mE w p L) (hz : p = none → c = 0) (hk : k < L.length) (hl : L.length ≤ 1000) :
  Calls Tryd.prog 54 #[.slice p L.length c, .int .i64 k, .agg (mC x)] w fun e w' => ∃ q d, e = .returned (.slice q L.length d) ∧ RL mE w' q (L.set k x) ∧ FarP w.heap.size q ∧ (q = none → d = 0) ∧ Below w.heap.size w w' := by
 have hbm := Below.lit w (.cells (mC x) 108)
 obtain ⟨wm, hwm, hM⟩ := nameW (p := fun W => MBox W w.heap.size x) (MBox.made w x)
 rw [hwm.out] at hbm
 obtain ⟨bm, hbmn⟩ : ∃ bm, Hid (w.heap.size = bm) := ⟨_, Lib.hid rfl⟩
 have hbm0 : w.heap.size ≤ bm := by rw [← hbmn.out]; exact Nat.le_refl _
 rw [hbmn.out] at hM
 have hLm : RdE mE wm p L := hL.below hbm
 have hn : OwnE mE wm wm.heap.size (.slice none 0 0) [] := OwnE.nil _ _
 have hl0 : ([] : List ME).length + L.length ≤ 1000000 := by simp; omega
 have hbml : bm < wm.heap.size := blk_lt hM
 obtain ⟨n, hnn⟩ : ∃ n, Hid (L.length = n) := ⟨_, Lib.hid rfl⟩
 have hLn := hnn.out
 have hkn : k < n := by rw [← hLn]; exact hk
 rw [hLn] at hl0 ⊢
 replace hLn := Lib.hid hLn
 go_enter Tryd.func54, Tryd.ntmps54
 go_upto_region 3 with (first
  | (rw [hwm.out])
  | (at_builtin; refine app_manyE mE rfl _ _ rfl hn rfl rfl hLm hLn.out hz hl0 (Nat.le_refl _) ?_; intro v4 W4 hown4 hb4; rw [List.nil_append] at hown4)
  | fail)
 rw [hbmn.out]
 have hM4 : MBox W4 bm x := (hb4.block bm hbml).trans hM
 have hrd := hown4.u
 rcases hown4.2 with ⟨_, h0⟩ | ⟨g, cap, cur, hv, hg, hgb, hnc, hcap, hcs, htake⟩
 ·omega
 ·subst hv
  obtain ⟨q, d, hqe, _, hr4, _⟩ := hrd
  injection hqe with hq1 hq2 hq3
  subst hq1; subst hq3
  have hix1 : (0 : Int) ≤ (k : Int) := by omega
  have hix2 : (k : Int) < (n : Int) := by omega
  have ht : W4.there g (k * 11) 11 := fun j hj => by
   have hs : cur.size = cap * 11 := hcs
   have hkc : (k + 1) * 11 ≤ cap * 11 := Nat.mul_le_mul_right _ (by omega)
   have hlt : k * 11 + j < cur.size := by omega
   refine ⟨?_, ?_⟩
   ·simp [World.cell?, hgb]
    exact hlt
   ·simp [World.frozen?, hgb]
  have hres := hr4.setAt hk x ht
  have hbW : Below w.heap.size w (W4.setCells g (k * 11) (mC x).toList) := (hbm.trans (hb4.mono hbm.size)).grown (grown_cells W4 g (mC x).toList (k * 11)) (Nat.le_trans hbm.size hb4.size) (fun i e => by injection e with e; have := hbm.size; omega)
  have hgw : w.heap.size ≤ g := Nat.le_trans hbm.size hg
  have hgz : Hid (g < (W4.setCells g (k * 11) (mC x).toList).heap.size) := Lib.hid (Nat.lt_of_lt_of_le (blk_lt hgb) (grown_cells W4 g (mC x).toList (k * 11)).size)
  rw [hnn.out]
  replace hres := Lib.hid hres
  replace hgb := Lib.hid hgb
  replace hr4 := Lib.hid hr4
  replace htake := Lib.hid htake
  replace hcs := Lib.hid hcs
  replace ht := Lib.hid ht
  replace hbW := Lib.hid hbW
  go_wp2_with (first
   | (refine wpList_load_row rfl 108 _ rfl bm rfl 108 _ (0, 0) _ hM4 Tryd.underlying108 rfl (mC_info _) ?_)
   | (refine wpList_store_mid rfl 108 _ _ rfl g (k * 11) (mC x) rfl rfl ht.out (mC_info _) (mC_one _) ?_)
   | fail)
  go_ret
  exact ⟨some ⟨g, 0, none⟩, cap, rfl, ⟨hres.out, fun q e => by injection e with e; subst e; exact hgz.out⟩, fun a ha => by injection ha with ha; subst ha; exact hgw, fun h => (by cases h), hbW.out⟩
end Go.Proofs.YtkolilbebkkpdaaDoor

namespace Go.Proofs.YtkolilbebkkpdaaDoor
open Go.RowKit

section
variable {P : Program} {md : Region.Mode} {ops : Array Oper} {Q : Exit → Act → World → Prop} {D : World → Prop} {t : Nat}
def wpAnyE (P : Program) (md : Region.Mode) (ops : Array Oper) (Q : Exit → Act → World → Prop) (D : World → Prop) (t : Nat) : Nat → Array Bool → Act → World → Prop
 | 0, listed, a, w => Region.ready md ops listed = [] ∧ Q .normal a w
 | fuel + 1, listed, a, w =>
  (Region.ready md ops listed = [] → Q .normal a w) ∧
  ∀ i ∈ Region.ready md ops listed, wpOp P ops Q i (fun a' w' => (i = t ∨ D w') ∧ wpAnyE P md ops Q D t fuel (listed.setIfInBounds i true) a' w') a w
theorem wpAny_of_E : ∀ (fuel : Nat) (listed : Array Bool) (a : Act) (w : World), wpAnyE P md ops Q D t fuel listed a w → wpAny P md ops Q fuel listed a w := by
 intro fuel
 induction fuel with
 | zero => intro _ _ _ h; exact h
 | succ fuel ih => intro listed a w h; exact ⟨h.1, fun i hi => wpOp_mono (fun a' w' h' => ih _ _ _ h'.2) (h.2 i hi)⟩
theorem wpAnyE_first {i : Nat} {oi : Oper} {v : Value} (hi : ops[i]? = some oi) (hw : Region.waitsFor md ops t i = true) (hsel : ∀ (j : Nat) (o : Oper) cs b, ops[j]? = some o → o.op ≠ .select cs b)
  (hQ : ∀ c a w, Q (.panic c) (a.put oi.dst v) w → Q (.panic c) a w) :
  ∀ (fuel : Nat) (listed : Array Bool) (a : Act) (w : World), D w →
   (∀ j oj, ops[j]? = some oj → j ≠ i → listed.getD j true = false → (∀ e ∈ oj.after, Region.binds md e = true → e.on ≠ i) → oi.apart ops oj = true) →
   i ∈ Region.ready md ops listed → YieldsD P ops D oi v a →
   wpAnyE P md ops Q D t fuel (listed.setIfInBounds i true) (a.put oi.dst v) w → wpAnyE P md ops Q D t (fuel + 1) listed a w := by
 intro fuel
 induction fuel with
 | zero =>
  intro listed a w hD _ hr hy H
  refine ⟨fun h => (by rw [h] at hr; cases hr), fun j hj => ?_⟩
  by_cases hji : j = i
  ·subst hji; exact hy.wpOp hi hD ⟨.inr hD, H⟩
  ·have := ready_mono hj hji
   rw [H.1] at this
   cases this
 | succ fuel ih =>
  intro listed a w hD hfree hr hy H
  refine ⟨fun h => (by rw [h] at hr; cases hr), fun j hj => ?_⟩
  by_cases hji : j = i
  ·subst hji; exact hy.wpOp hi hD ⟨.inr hD, H⟩
  ·have h1 := H.2 j (ready_mono hj hji)
   obtain ⟨hjun, oj, hoj, hall⟩ := mem_ready.1 hj
   have hnot : ∀ e ∈ oj.after, Region.binds md e = true → e.on ≠ i := fun e he hb heq => by
    have h1 := hall e he hb
    have h0 := (mem_ready.1 hr).1
    rw [heq] at h1
    rcases Nat.lt_or_ge i listed.size with h' | h'
    ·simp [h'] at h0 h1; rw [h0] at h1; cases h1
    ·simp [Array.getElem?_eq_none h'] at h1
   have h2 := wpOp_putD hoj (hfree j oj hoj hji hjun hnot) (fun cs b => hsel i oi cs b hi) (fun cs b => hsel j oj cs b hoj) hQ hy h1
   have hfree' : ∀ k ok, ops[k]? = some ok → k ≠ i → (listed.setIfInBounds j true).getD k true = false →
     (∀ e ∈ ok.after, Region.binds md e = true → e.on ≠ i) → oi.apart ops ok = true := fun k ok hk hki hun hno => by
    refine hfree k ok hk hki ?_ hno
    by_cases hjk : j = k
    ·subst hjk; exact hjun
    ·rw [getD_set_ne true hjk] at hun; exact hun
   have hjt : j ≠ t := fun e => by
    obtain ⟨ot, hot, ee, he, hb, hon⟩ := Region.waitsFor_spec hw
    rw [← e, hoj] at hot
    injection hot with hot
    subst hot
    exact hnot ee he hb hon
   refine wpOp_mono (fun a' w' h3 => ⟨h3.2.1, ih (listed.setIfInBounds j true) a' w' (h3.2.1.resolve_left hjt) hfree' (ready_mono hr (Ne.symm hji)) h3.1 ?_⟩) h2
   rw [Array.setIfInBounds_comm _ _ hji]
   exact h3.2.2
theorem wpAnyE_done {listed : Array Bool} {a : Act} {w : World} (hr : Region.ready md ops listed = []) (h : Q .normal a w) : ∀ fuel, wpAnyE P md ops Q D t fuel listed a w
 | 0 => ⟨hr, h⟩
 | _ + 1 => ⟨fun _ => h, by rw [hr]; simp⟩
theorem wp_region_E (t : Nat) {id : Nat} {a : Act} {w : World} (hm : P.follows .mixedOrders = true)
  (h : wpAnyE P .any ops Q D t ops.size (Array.replicate ops.size false) a w.drew) : (Code.region id ops true).wp P Q a w :=
 wp_region_any hm (wpAny_of_E _ _ _ _ h)
end
section
variable {P : Program} {md : Region.Mode} {l rest : List Oper} {Q : Exit → Act → World → Prop} {D : World → Prop} {t : Nat}
theorem tkE (i : Nat) {oi : Oper} {v : Value} {fuel : Nat} {listed : Array Bool} {a : Act} {w : World} (hD : D w) (hi : l.drop i = oi :: rest)
  (hw : Region.waitsFor md l.toArray t i = true := by kernel_rfl) (hs : Region.noSelect l.toArray = true := by kernel_rfl) (hf : Region.free md l.toArray listed i = true := by kernel_rfl) (hr : (Region.ready md l.toArray listed).contains i = true := by kernel_rfl)
  (hQ : ∀ c a w, Q (.panic c) (a.put oi.dst v) w → Q (.panic c) a w := by intro _ _ _ h; first | exact h | exact absurd h.1 (fun h => by cases h)) (hg : Region.wanted oi (yielded l.toArray a.tmps) = true := by kernel_rfl) (hy : ∀ w, D w → (execOp a.eval oi).run P w = .ok (.value v) w)
  (h : wpAnyE P md l.toArray Q D t fuel (listed.setIfInBounds i true) (a.put oi.dst v) w) : wpAnyE P md l.toArray Q D t (fuel + 1) listed a w :=
 wpAnyE_first (at_of_drop hi) hw (Region.noSelect_spec hs) hQ fuel listed a w hD (Region.free_spec (at_of_drop hi) hf) (by simpa using hr) (.inl ⟨hg, hy⟩) h
theorem oneE (i : Nat) {fuel : Nat} {listed : Array Bool} {a : Act} {w : World} {o : Oper} (hr : Region.ready md l.toArray listed = [i]) (ho : l.drop i = o :: rest) (hg : Region.wanted o (yielded l.toArray a.tmps) = true)
  (h : ∀ K : Act → World → Prop, (∀ a' w', (i = t ∨ D w') ∧ wpAnyE P md l.toArray Q D t fuel (listed.setIfInBounds i true) a' w' → K a' w') → o.wp P a w K Q) : wpAnyE P md l.toArray Q D t (fuel + 1) listed a w := by
 refine ⟨fun h0 => (by rw [h0] at hr; cases hr), fun j hj => ?_⟩
 rw [hr, List.mem_singleton] at hj
 subst hj
 unfold wpOp
 simp only [at_of_drop ho, hg, if_true]
 exact .inl (h _ fun _ _ h => h)
end
end Go.Proofs.YtkolilbebkkpdaaDoor

namespace Go.Proofs.YtkolilbebkkpdaaDoor
open Go.RowKit Go.Maps Go.BigFrame
attribute [local go_sem] in_gr

/-- The boxed roll, operation, name, and the variable of the result. -/
structure DC (w : World) (bx bo bi bz : Nat) (a : RfV) (s : RS) (nv : Nat) (o : OpI) (gp : Option Addr) (gc : Nat) (i : Idn) : Prop where
 box : RfBox w bx a s nv
 op : OpAt w bo o gp gc
 idn : IdAt w bi i
 z : ZBox w bz
section
variable {w w' : World} {bx bo bi bz : Nat} {a a' : RfV} {s s' : RS} {nv nv' : Nat} {o : OpI} {gp : Option Addr} {gc : Nat} {i : Idn}
theorem DC.below (h : DC w bx bo bi bz a s nv o gp gc i) (hb : Below w.heap.size w w') : DC w' bx bo bi bz a s nv o gp gc i :=
 ⟨h.box.below hb, h.op.below hb (cell_lt h.op.cb), h.idn.below hb, h.z.below hb⟩
theorem DC.store (h : DC w bx bo bi bz a s nv o gp gc i) (hk : ∀ j, j < w.heap.size → j ≠ bx → w'.heap[j]? = w.heap[j]?) (h1 : bo ≠ bx) (h2 : bi ≠ bx) (h3 : bz ≠ bx) (hb : RfBox w' bx a' s' nv') : DC w' bx bo bi bz a' s' nv' o gp gc i :=
 ⟨hb, h.op.block (hk bo (cell_lt h.op.cb) h1), h.idn.block (hk bi h.idn.lt h2), h.z.keep (hk bz (blk_lt h.z) h3)⟩
end
theorem set_map {ms : List (Int × Mb)} (hn : (ms.map Prod.fst).Nodup) {k : Nat} {m : Int} {mb x : Mb} (h : ms[k]? = some (m, mb)) : ms.set k (m, x) = ms.map fun p => if p.1 = m then (m, x) else p := by
 obtain ⟨hk, he⟩ := List.getElem?_eq_some_iff.1 h
 refine List.ext_getElem (by simp) fun j h1 h2 => ?_
 rw [List.getElem_map]
 by_cases hjk : j = k
 ·subst hjk
  rw [List.getElem_set_self, if_pos (by rw [he])]
 ·rw [List.getElem_set_ne (fun e => hjk e.symm), if_neg]
  intro e
  have hj : j < ms.length := by simpa using h1
  have h3 : (ms.map Prod.fst)[j]'(by rw [List.length_map]; exact hj) = (ms.map Prod.fst)[k]'(by rw [List.length_map]; exact hk) := by
   rw [List.getElem_map, List.getElem_map, e, he]
  exact hjk ((List.getElem_inj hn).1 h3)
set_option maxRecDepth 100000 in
set_option maxHeartbeats 16000000 in
theorem gdR_any (P : Nat → Prop) (w : World) (a : RfV) (s : RS) (L : List ME) (vs : List VI) (o : OpI) (gp : Option Addr) (gc : Nat) (i : Idn) (kk : Nat) (hR : RfAt w a s L vs) (hV : VsOk s vs) (hs : s.Ok kk) (hkk : kk ≤ 1000) (hI : RfIn P a L) (hN : ∀ b, w.heap.size ≤ b → P b) (hU : UI w gp o.gs.length o.gs) (hg : ∀ q, gp = some q → P q.block) (hgl : LtP w.heap.size gp) (hi : (kk : Int) < i.s) :
  Calls Tryd.prog 55 #[.agg (rfC a s vs.length), .agg (opC o gp gc), .agg #[.int .i64 i.b, .int .i64 i.s, .int .u64 i.u]] w fun e w' => ∃ a' L' vs', e = .returned (.agg (rfC a' (s.doGuard o i) vs'.length)) ∧ RfAt w' a' (s.doGuard o i) L' vs' ∧ VsOk (s.doGuard o i) vs' ∧ RfIn P a' L' ∧ Below w.heap.size w w' := by
 have hfm := hs.fewM
 have hfv := hV.few hs
 have hbx := Below.lit w (.cells (rfC a s vs.length) 60)
 have hRz := hR.below hbx
 obtain ⟨wb, hwb, hBx⟩ := nameW (p := fun W => RfBox W w.heap.size a s vs.length) (RfBox.made w a s vs.length)
 rw [hwb.out] at hbx hRz
 obtain ⟨bx, hbxn⟩ : ∃ bx, Hid (w.heap.size = bx) := ⟨_, Lib.hid rfl⟩
 have hbx0 : w.heap.size ≤ bx := by rw [hbxn.out]; exact Nat.le_refl _
 rw [hbxn.out] at hBx
 have hB := hbx
 have hbo := Below.lit wb (.cells (opC o gp gc) 42)
 obtain ⟨wo, hwo, hOo⟩ := nameW (p := fun W => OpAt W wb.heap.size o gp gc) (OpAt.made wb o gp gc)
 rw [hwo.out] at hbo
 have hbox1 : wb.heap.size ≠ bx := by have := blk_lt hBx; omega
 obtain ⟨bo, hbon⟩ : ∃ bo, Hid (wb.heap.size = bo) := ⟨_, Lib.hid rfl⟩
 rw [hbon.out] at hOo hbox1
 replace hBx := hBx.below hbo
 replace hRz := hRz.below hbo
 replace hB := hB.trans (hbo.mono hB.size)
 have hbi := Below.lit wo (.cells #[.int .i64 i.b, .int .i64 i.s, .int .u64 i.u] 34)
 obtain ⟨wi, hwi, hIi⟩ := nameW (p := fun W => IdAt W wo.heap.size i) (IdAt.made wo i)
 rw [hwi.out] at hbi
 have hbix1 : wo.heap.size ≠ bx := by have := blk_lt hBx; omega
 obtain ⟨bi, hbin⟩ : ∃ bi, Hid (wo.heap.size = bi) := ⟨_, Lib.hid rfl⟩
 rw [hbin.out] at hIi hbix1
 replace hBx := hBx.below hbi
 replace hOo := hOo.below hbi (cell_lt hOo.cb)
 replace hRz := hRz.below hbi
 replace hB := hB.trans (hbi.mono hB.size)
 have hbz := Below.lit wi (.cells rZ 60)
 obtain ⟨wz, hwz, hZ⟩ := nameW (p := fun W => ZBox W wi.heap.size) (ZBox.made wi)
 rw [hwz.out] at hbz
 have hbzx : wi.heap.size ≠ bx := by have := blk_lt hBx; omega
 have hbz0 : w.heap.size ≤ wi.heap.size := hB.size
 obtain ⟨bz, hbzn⟩ : ∃ bz, Hid (wi.heap.size = bz) := ⟨_, Lib.hid rfl⟩
 rw [hbzn.out] at hZ hbzx hbz0
 have hC : DC wz bx bo bi bz a s vs.length o gp gc i := ⟨hBx.below hbz, hOo.below hbz (cell_lt hOo.cb), hIi.below hbz, hZ⟩
 replace hRz := hRz.below hbz
 replace hB := hB.trans (hbz.mono hB.size)
 clear hbx hbo hbi hbz hBx hOo hIi hZ
 go_enter Tryd.func55, Tryd.ntmps55
 go_upto_region 1 with (first | (rw [hwb.out]) | (rw [hwo.out]) | (rw [hwi.out]) | (rw [hwz.out]) | (refine wpL_allocT 60 rZ rfl rfl (zero_R _) ?_; simp only [Act.put, List.setIfInBounds_toArray, List.set_cons_succ, List.set_cons_zero]) | fail)
 rw [hbxn.out, hbon.out, hbin.out, hbzn.out]
 obtain ⟨m, hm⟩ : ∃ m, Hid (ofD o.b = m) := ⟨_, Lib.hid rfl⟩
 obtain ⟨at_, hat⟩ : ∃ x, Hid (memI s m = x) := ⟨_, Lib.hid rfl⟩
 obtain ⟨wd, hwd⟩ : ∃ wd, Hid (wz.drew = wd) := ⟨_, Lib.hid rfl⟩
 have hw0 : Below wz.heap.size wz wd := by rw [← hwd.out]; exact (Below.refl _ _).drew
 replace hC := hC.below hw0
 replace hRz := hRz.below hw0
 replace hB := hB.trans (hw0.mono hB.size)
 have zb := hC.op.cb
 have hb0 : Below wd.heap.size wd wd := Below.refl _ _
 refine wp_region_D (D := fun T => Below wd.heap.size wd T) (by kernel_rfl) ?_
 rw [hwd.out]
 change wpAnyD _ _ _ _ _ 7 _ _ _
 apply tkD 0 hb0 rfl
 ·intro T hT
  exact run_loadR (hC.box.below hT) rfl rfl
 try go_frame
 apply tkD 1 hb0 rfl
 ·intro T hT
  exact run_loadR (hC.box.below hT) rfl rfl
 try go_frame
 apply tkD 2 hb0 rfl
 ·intro T hT
  have hT0 := (hT.cell (cell_lt zb)).trans zb
  go_simp
  try rfl
 try go_frame
 apply tkD 3 hb0 rfl
 ·intro T hT
  have hT0 := (hT.cell (cell_lt zb)).trans zb
  go_simp
  try rfl
 try go_frame
 refine oneD 4 (by kernel_rfl) rfl (by kernel_rfl) (fun K hK => ?_)
 go_simp
 refine (OfR_any wd a.pc a.cc _ _ _ _ _ o.b hRz.cards).mono ?_
 rintro e T1 ⟨rfl, hbT1⟩
 rw [hm.out]
 refine hK _ _ ⟨hbT1, ?_⟩
 clear hK K
 try go_frame
 refine oneD 5 (by kernel_rfl) rfl (by kernel_rfl) (fun K hK => ?_)
 go_simp
 refine (MemR_any T1 a s L vs m (hRz.below hbT1) (by omega)).mono ?_
 rintro e w1 ⟨rfl, hbT2⟩
 rw [hat.out]
 have hbT := hbT1.trans (hbT2.mono hbT1.size)
 refine hK _ _ ⟨hbT, ?_⟩
 clear hK K
 try go_frame
 apply tkD 6 hbT rfl
 ·intro T hT
  go_simp
  try rfl
 try go_frame
 refine wpAnyD_done (by kernel_rfl) ?_ _
 replace hC := hC.below hbT
 replace hRz := hRz.below hbT
 replace hB := hB.trans (hbT.mono hB.size)
 clear zb hb0 hbT hbT1 hbT2 hw0
 rcases memI_cases s m with ⟨h1, h2⟩ | ⟨k, mb, h1, h2, h3⟩
 ·obtain rfl : at_ = -1 := by rw [← hat.out, h1]
  have hst : Hid (s.doGuard o i = s) := Lib.hid (by unfold RS.doGuard; rw [hm.out, h2])
  replace h1 := Lib.hid h1
  replace h2 := Lib.hid h2
  have hbox := hC.box
  have hz := hC.z
  go_wp2_with (first | (refine wpList_load_row rfl 60 _ rfl bx rfl 60 _ (0, 0) _ hbox Tryd.underlying60 rfl (rfC_info _ _ _) ?_) | (refine wpList_store_row rfl 60 _ _ rfl bz _ rfl rfl 60 rZ hz (rfC_info _ _ _) rfl (rfC_one _ _ _) ?_) | fail)
  refine bodyPost_ret (v := .agg (rfC a s vs.length)) ?_ rfl ?_
  ·exact results_cell_row rfl _ _ bz 60 _ (0, 0) _ rfl (setRow_heap _ _ _ _ _ _ hz) Tryd.underlying60 rfl (rfC_info _ _ _)
  ·have hBf := belowSetRow (cs := rfC a s vs.length) hB hbz0
   rw [hst.out]
   exact ⟨a, L, vs, rfl, hR.below hBf, hV, hI, hBf⟩
 ·obtain rfl : at_ = (k : Int) := by rw [← hat.out, h1]
  obtain ⟨mr, go⟩ := mb
  obtain ⟨G, hG⟩ : ∃ G : Gd, Hid ((⟨i, o.gs, o.n, o.t, [], false, 0⟩ : Gd) = G) := ⟨_, Lib.hid rfl⟩
  obtain ⟨S1, hS1⟩ : ∃ S, Hid (s.setM m ⟨mr, some G⟩ = S) := ⟨_, Lib.hid rfl⟩
  have hst : Hid (s.doGuard o i = S1) := Lib.hid (by unfold RS.doGuard; rw [hm.out, h3, ← hS1.out, ← hG.out])
  have hs1 := set_map hs.mn (x := ⟨mr, some G⟩) h2
  obtain ⟨hk, h2e⟩ := List.getElem?_eq_some_iff.1 h2
  obtain ⟨b, off, x, hxL, hxs, hp, _, hLk, hc⟩ := hRz.at_ hk
  obtain ⟨xm, xp, xc⟩ := x
  obtain rfl : xm = (m, ⟨mr, go⟩) := hxs.trans h2e
  have c0 : w1.cell? ⟨b, off + k * 11, none⟩ = some (.int .i64 m) := hc 0 _ rfl
  have c1 : w1.cell? ⟨b, off + k * 11 + 1, none⟩ = some (.int .i64 mr) := hc 1 _ rfl
  have hLl : L.length = s.ms.length := by have := congrArg List.length hR.lq; rwa [List.length_map] at this
  have hkL : k < L.length := by rw [hLl]; exact hk
  have hmsq : (L.set k ((m, ⟨mr, some G⟩), gp, gc)).map Prod.fst = S1.ms := by
   rw [List.map_set, hR.lq, ← hS1.out]
   exact hs1
  have hVs := hV.guarded hs (n := m) (r := mr) (g' := G) (by rw [← hG.out]; exact hi) (by rw [← hG.out])
  rw [hS1.out] at hVs
  have hS1l : S1.ms.length = s.ms.length := by rw [← hmsq, List.length_map, List.length_set, hLl]
  have hS1i : S1.ins = s.ins := by rw [← hS1.out]; rfl
  have hS1g : S1.gone = s.gone := by rw [← hS1.out]; rfl
  have hS1b : S1.bk = s.bk := by rw [← hS1.out]; rfl
  have hw := withR_any
  obtain ⟨nm, hnm⟩ : ∃ n, Hid (s.ms.length = n) := ⟨_, Lib.hid rfl⟩
  have k3 := hC.box.c3
  have zg := hC.op.cgs
  have zn := hC.op.cn
  have zt := hC.op.ct
  have i0 : w1.cell? ⟨bi, 0, none⟩ = some (.int .i64 i.b) := by simp [World.cell?, show w1.heap[bi]? = _ from hC.idn]
  have i1 : w1.cell? ⟨bi, 1, none⟩ = some (.int .i64 i.s) := by simp [World.cell?, show w1.heap[bi]? = _ from hC.idn]
  have i2 : w1.cell? ⟨bi, 2, none⟩ = some (.int .u64 i.u) := by simp [World.cell?, show w1.heap[bi]? = _ from hC.idn]
  rw [hnm.out] at k3 hLl hS1l
  have hix1 : (0 : Int) ≤ (k : Int) := by omega
  have hix2 : (k : Int) < (nm : Int) := by omega
  have t2 : decide ((k : Int) < 0) = false := decide_eq_false (by omega)
  have k3p := k3
  rw [hp] at k3p
  replace h1 := Lib.hid h1
  replace h2 := Lib.hid h2
  replace h3 := Lib.hid h3
  replace h2e := Lib.hid h2e
  replace hc := Lib.hid hc
  replace hxs := Lib.hid hxs
  replace hLk := Lib.hid hLk
  replace hxL := Lib.hid hxL
  replace hs1 := Lib.hid hs1
  replace hmsq := Lib.hid hmsq
  replace hVs := Lib.hid hVs
  replace hS1l := Lib.hid hS1l
  replace hS1i := Lib.hid hS1i
  replace hS1g := Lib.hid hS1g
  replace hS1b := Lib.hid hS1b
  replace hLl := Lib.hid hLl
  replace hp := Lib.hid hp
  clear hw
  go_upto_region 4 with fail
  obtain ⟨wd, hwd⟩ : ∃ wd, Hid (w1.drew = wd) := ⟨_, Lib.hid rfl⟩
  have hw0 : Below w1.heap.size w1 wd := by rw [← hwd.out]; exact (Below.refl _ _).drew
  replace hC := hC.below hw0
  replace hRz := hRz.below hw0
  replace hB := hB.trans (hw0.mono hB.size)
  replace k3 := (hw0.cell (cell_lt k3)).trans k3
  replace k3p := (hw0.cell (cell_lt k3p)).trans k3p
  replace zg := (hw0.cell (cell_lt zg)).trans zg
  replace zn := (hw0.cell (cell_lt zn)).trans zn
  replace zt := (hw0.cell (cell_lt zt)).trans zt
  replace i0 := (hw0.cell (cell_lt i0)).trans i0
  replace i1 := (hw0.cell (cell_lt i1)).trans i1
  replace i2 := (hw0.cell (cell_lt i2)).trans i2
  replace c0 := (hw0.cell (cell_lt c0)).trans c0
  replace c1 := (hw0.cell (cell_lt c1)).trans c1
  have hww := withR_any wd a.pl a.cl L k ((m, ⟨mr, some G⟩), gp, gc) hRz.lm hR.nz.2.2.1 hkL (by have := hLl.out; have := hnm.out; omega)
  rw [hLl.out, hp.out] at hww
  replace hww := Lib.hid hww
  have hb0 : Below wd.heap.size wd wd := Below.refl _ _
  refine wp_region_E (D := fun T => Below wd.heap.size wd T) 25 (by kernel_rfl) ?_
  rw [hwd.out]
  change wpAnyE _ _ _ _ _ _ 26 _ _ _
  apply tkE 0 hb0 rfl
  ·intro T hT
   have hT0 := (hT.cell (cell_lt k3p)).trans k3p
   go_simp
   try rfl
  try go_frame
  apply tkE 1 hb0 rfl
  ·intro T hT
   have hT0 := (hT.cell (cell_lt k3p)).trans k3p
   go_simp
   try rfl
  try go_frame
  apply tkE 2 hb0 rfl
  ·intro T hT
   have hT0 := (hT.cell (cell_lt k3p)).trans k3p
   go_simp
   try rfl
  try go_frame
  apply tkE 3 hb0 rfl
  ·intro T hT
   have hT0 := (hT.cell (cell_lt k3p)).trans k3p
   go_simp
   try rfl
  try go_frame
  apply tkE 4 hb0 rfl
  ·intro T hT
   have hT0 := (hT.cell (cell_lt k3p)).trans k3p
   go_simp
   try rfl
  try go_frame
  apply tkE 5 hb0 rfl
  ·intro T hT
   have hT0 := (hT.cell (cell_lt k3p)).trans k3p
   go_simp
   try rfl
  try go_frame
  apply tkE 6 hb0 rfl
  ·intro T hT
   have hT0 := (hT.cell (cell_lt k3p)).trans k3p
   go_simp
   try rfl
  try go_frame
  apply tkE 7 hb0 rfl
  ·intro T hT
   have hT0 := (hT.cell (cell_lt k3p)).trans k3p
   go_simp
   try rfl
  try go_frame
  apply tkE 8 hb0 rfl
  ·intro T hT
   have hT0 := (hT.cell (cell_lt c0)).trans c0
   go_simp
   try rfl
  try go_frame
  apply tkE 9 hb0 rfl
  ·intro T hT
   have hT0 := (hT.cell (cell_lt k3p)).trans k3p
   go_simp
   try rfl
  try go_frame
  apply tkE 10 hb0 rfl
  ·intro T hT
   have hT0 := (hT.cell (cell_lt k3p)).trans k3p
   go_simp
   try rfl
  try go_frame
  apply tkE 11 hb0 rfl
  ·intro T hT
   have hT0 := (hT.cell (cell_lt k3p)).trans k3p
   go_simp
   try rfl
  try go_frame
  apply tkE 12 hb0 rfl
  ·intro T hT
   have hT0 := (hT.cell (cell_lt k3p)).trans k3p
   go_simp
   try rfl
  try go_frame
  apply tkE 13 hb0 rfl
  ·intro T hT
   have hT0 := (hT.cell (cell_lt k3p)).trans k3p
   go_simp
   try rfl
  try go_frame
  apply tkE 14 hb0 rfl
  ·intro T hT
   have hT0 := (hT.cell (cell_lt c1)).trans c1
   go_simp
   try rfl
  try go_frame
  apply tkE 15 hb0 rfl
  ·intro T hT
   have hT0 := (hT.cell (cell_lt i0)).trans i0
   have hT1 := (hT.cell (cell_lt i1)).trans i1
   have hT2 := (hT.cell (cell_lt i2)).trans i2
   go_simp
   try rfl
  try go_frame
  apply tkE 16 hb0 rfl
  ·intro T hT
   have hT0 := (hT.cell (cell_lt zg)).trans zg
   go_simp
   try rfl
  try go_frame
  apply tkE 17 hb0 rfl
  ·intro T hT
   have hT0 := (hT.cell (cell_lt zg)).trans zg
   go_simp
   try rfl
  try go_frame
  apply tkE 18 hb0 rfl
  ·intro T hT
   have hT0 := (hT.cell (cell_lt zn)).trans zn
   go_simp
   try rfl
  try go_frame
  apply tkE 19 hb0 rfl
  ·intro T hT
   have hT0 := (hT.cell (cell_lt zn)).trans zn
   go_simp
   try rfl
  try go_frame
  apply tkE 20 hb0 rfl
  ·intro T hT
   have hT0 := (hT.cell (cell_lt zt)).trans zt
   go_simp
   try rfl
  try go_frame
  apply tkE 21 hb0 rfl
  ·intro T hT
   have hT0 := (hT.cell (cell_lt zt)).trans zt
   go_simp
   try rfl
  try go_frame
  apply tkE 22 hb0 rfl
  ·intro T hT
   exact run_buildOp (cells := mC ((m, ⟨mr, some G⟩), gp, gc)) rfl (by rw [← hG.out]; kernel_rfl)
  try go_frame
  refine oneE 23 (by kernel_rfl) rfl (by kernel_rfl) (fun K hK => ?_)
  go_simp
  refine hww.out.mono ?_
  rintro e T ⟨q, d, rfl, hrq, hfq, hqz, hbT⟩
  refine hK _ _ ⟨.inr hbT, ?_⟩
  clear hK K
  try go_frame
  have hCT := hC.below hbT
  have k3T := hCT.box.c3
  rw [hnm.out] at k3T
  have f3T := hCT.box.free 3
  have hBT := hB.trans (hbT.mono hB.size)
  apply tkE 24 hbT rfl
  ·intro T hT
   go_simp
   try rfl
  try go_frame
  refine oneE 25 (by kernel_rfl) rfl (by kernel_rfl) (fun K hK => ?_)
  go_simp
  refine hK _ _ ⟨.inl rfl, ?_⟩
  clear hK K
  try go_frame
  refine wpAnyE_done (by kernel_rfl) ?_ _
  obtain ⟨W4, hW4, hbox4⟩ := nameW (p := fun W => RfBox W bx { a with pl := q, cl := d } ⟨s.ins, s.gone, S1.ms, s.bk⟩ vs.length) (hCT.box.setL (p := q) (c := d) (n := nm) hS1l.out)
  have hS1e : (⟨s.ins, s.gone, S1.ms, s.bk⟩ : RS) = S1 := by rw [← hS1i.out, ← hS1g.out, ← hS1b.out]
  rw [hS1e] at hbox4
  have hbxd : bx < wd.heap.size := blk_lt hC.box
  have hbzd : bz < wd.heap.size := blk_lt hC.z
  have hwd0 : w.heap.size ≤ wd.heap.size := hB.size
  have hk4 : ∀ j, j < T.heap.size → j ≠ bx → W4.heap[j]? = T.heap[j]? := fun j hj hne => by rw [← hW4.out]; exact setCell_keep hj hne
  have hC4 := hCT.store hk4 hbox1 hbix1 hbzx hbox4
  have hB4 : Below w.heap.size w W4 := by rw [← hW4.out]; exact hBT.trans (setCell_below hbx0 hBT.size)
  have hr4 : RL mE W4 q (L.set k ((m, ⟨mr, some G⟩), gp, gc)) := by rw [← hW4.out]; exact hrq.set (hfq.mono hbxd)
  have hR4a := hR.below hB4
  have hgsO : ∀ x ∈ L.set k (((m, ⟨mr, some G⟩), gp, gc) : ME), x ∈ L ∨ x = ((m, ⟨mr, some G⟩), gp, gc) := fun x hx => List.mem_or_eq_of_mem_set hx
  have hR4 : RfAt W4 { a with pl := q, cl := d } S1 (L.set k ((m, ⟨mr, some G⟩), gp, gc)) vs := by
   have := hR4a.withL hr4 hmsq.out hqz (fun x hx => by
    rcases hgsO x hx with hx | rfl
    ·exact hR4a.gsL x hx
    ·exact ⟨by rw [← hG.out]; exact hU.below hB4, fun q e => Nat.lt_of_lt_of_le (hgl q e) hB4.size⟩) hR4a.vvL hR4a.nz.2.2.2
   rw [hS1e] at this
   exact this
  have hS1f : S1.ms.length ≤ 1000 := by have := hS1l.out; have := hnm.out; omega
  clear hrq hCT k3T f3T hBT hC k3 k3p zg zn zt i0 i1 i2 c0 c1 hRz hB hw0 hbT hb0 hww hR4a
  replace hR4 := Lib.hid hR4
  replace hr4 := Lib.hid hr4
  replace hB4 := Lib.hid hB4
  replace hgsO := Lib.hid hgsO
  replace hS1e := Lib.hid hS1e
  replace hk4 := Lib.hid hk4
  have z5 : W4.cell? ⟨bx, 5, none⟩ = some (.slice a.pv vs.length a.cv) := hC4.box.c5
  replace hC4 := Lib.hid hC4
  go_wp2_with (first | (rw [hW4.out]) | fail)
  go_loopw [8, 9] (fun v i wr => ∃ (j : Nat), j ≤ vs.length ∧ i = .int .i64 j ∧ OwnE vE wr W4.heap.size v (liveV S1 (vs.take j)) ∧ Hid (Below W4.heap.size W4 wr)) (fun _ i _ => vs.length - (intOf i).toNat)
  case atStart => exact ⟨0, Nat.zero_le _, rfl, OwnE.nil _ _, Lib.hid (Below.refl _ _)⟩
  case round =>
   clear z5
   obtain ⟨j, hj, rfl, hown, hbr⟩ := hrel
   have z5 : wr.cell? ⟨bx, 5, none⟩ = some (.slice a.pv vs.length a.cv) := (hC4.out.below hbr.out).box.c5
   by_cases hlt : j < vs.length
   ·obtain ⟨b, off, hpv, _, hc⟩ := (hR4.out.below hbr.out).vat hlt
    replace hpv : a.pv = some ⟨b, off, none⟩ := hpv
    have hix3 : (0 : Int) ≤ (j : Int) := by omega
    have hix4 : (j : Int) < (vs.length : Int) := by omega
    have htk : vs.take (j + 1) = vs.take j ++ [vs[j]] := by rw [List.take_add_one, List.getElem?_eq_getElem hlt]; rfl
    obtain ⟨v, hv⟩ : ∃ v, Hid (vs[j] = v) := ⟨_, Lib.hid rfl⟩
    rw [hv.out] at htk hc
    have hsn := liveV_snoc S1 (vs.take j) v
    rw [← htk] at hsn
    have hll : (liveV S1 (vs.take j)).length ≤ 1000000 := by
     unfold liveV
     refine Nat.le_trans (List.length_filter_le ..) ?_
     rw [List.length_take]; omega
    obtain ⟨ys, hys⟩ : ∃ ys, Hid (liveV S1 (vs.take j) = ys) := ⟨_, Lib.hid rfl⟩
    rw [hys.out] at hsn hown hll
    obtain ⟨wq, hwq⟩ : ∃ q, Hid (whoI S1 v.f = q) := ⟨_, Lib.hid rfl⟩
    rw [hwq.out] at hsn
    have c0 : wr.cell? ⟨b, off + j * 6, none⟩ = some (.int .i64 v.f.b) := hc 0 _ rfl
    have c1 : wr.cell? ⟨b, off + j * 6 + 1, none⟩ = some (.int .i64 v.f.s) := hc 1 _ rfl
    have c2 : wr.cell? ⟨b, off + j * 6 + 2, none⟩ = some (.int .u64 v.f.u) := hc 2 _ rfl
    rw [hpv] at z5
    replace hpv := Lib.hid hpv
    replace hsn := Lib.hid hsn
    replace htk := Lib.hid htk
    replace hown := Lib.hid hown
    go_upto_region 9 with fail
    obtain ⟨we, hwe⟩ : ∃ we, Hid (wr.drew = we) := ⟨_, Lib.hid rfl⟩
    have hw0 : Below wr.heap.size wr we := by rw [← hwe.out]; exact (Below.refl _ _).drew
    replace z5 := (hw0.cell (cell_lt z5)).trans z5
    replace c0 := (hw0.cell (cell_lt c0)).trans c0
    replace c1 := (hw0.cell (cell_lt c1)).trans c1
    replace c2 := (hw0.cell (cell_lt c2)).trans c2
    have hbd := Lib.hid (hbr.out.trans (hw0.mono hbr.out.size))
    have hboxd := (hC4.out.below hbd.out).box
    have hRd := hR4.out.below hbd.out
    have hb0 : Below we.heap.size we we := Below.refl _ _
    replace hboxd := Lib.hid hboxd
    replace hRd := Lib.hid hRd
    refine wp_region_D (D := fun T => Below we.heap.size we T) (by kernel_rfl) ?_
    rw [hwe.out]
    change wpAnyD _ _ _ _ _ 9 _ _ _
    apply tkD 0 hb0 rfl
    ·intro T hT
     exact run_loadR (hboxd.out.below hT) rfl rfl
    try go_frame
    apply tkD 1 hb0 rfl
    ·intro T hT
     have hT0 := (hT.cell (cell_lt z5)).trans z5
     go_simp
     try rfl
    try go_frame
    apply tkD 2 hb0 rfl
    ·intro T hT
     have hT0 := (hT.cell (cell_lt z5)).trans z5
     go_simp
     try rfl
    try go_frame
    apply tkD 3 hb0 rfl
    ·intro T hT
     have hT0 := (hT.cell (cell_lt z5)).trans z5
     go_simp
     try rfl
    try go_frame
    apply tkD 4 hb0 rfl
    ·intro T hT
     have hT0 := (hT.cell (cell_lt z5)).trans z5
     go_simp
     try rfl
    try go_frame
    apply tkD 5 hb0 rfl
    ·intro T hT
     have hT0 := (hT.cell (cell_lt z5)).trans z5
     go_simp
     try rfl
    try go_frame
    apply tkD 6 hb0 rfl
    ·intro T hT
     have hT0 := (hT.cell (cell_lt c0)).trans c0
     have hT1 := (hT.cell (cell_lt c1)).trans c1
     have hT2 := (hT.cell (cell_lt c2)).trans c2
     go_simp
     try rfl
    try go_frame
    refine oneD 7 (by kernel_rfl) rfl (by kernel_rfl) (fun K hK => ?_)
    go_simp
    refine (whoR_any we { a with pl := q, cl := d } S1 _ vs v.f hRd.out hS1f).mono ?_
    rintro e T2 ⟨rfl, hbT⟩
    rw [hwq.out]
    refine hK _ _ ⟨hbT, ?_⟩
    clear hK K
    try go_frame
    have hbT' := Lib.hid (hbd.out.trans (hbT.mono hbd.out.size))
    by_cases hq0 : 0 ≤ wq
    ·have t1 : decide (0 ≤ wq) = true := decide_eq_true hq0
     have e1 : Hid (liveV S1 (vs.take (j + 1)) = ys ++ [v]) := Lib.hid (by rw [hsn.out, if_pos hq0])
     replace hq0 := Lib.hid hq0
     apply tkD 8 hbT rfl
     ·intro T hT
      go_simp
      try rfl
     try go_frame
     refine wpAnyD_done (by kernel_rfl) ?_ _
     have hownT := (hown.out.below hw0).below hbT
     have hcT : ∀ i u, (vC v)[i]? = some u → T2.cell? ⟨b, off + j * 6 + i, none⟩ = some u := fun i u hu => by
      have h1 := hc i u hu
      have h2 := (hw0.cell (p := ⟨b, off + j * 6 + i, none⟩) (cell_lt h1)).trans h1
      exact (hbT.cell (p := ⟨b, off + j * 6 + i, none⟩) (cell_lt h2)).trans h2
     have z5T := (hbT.cell (cell_lt z5)).trans z5
     have hzT : W4.heap.size ≤ T2.heap.size := hbT'.out.size
     replace hc := Lib.hid hc
     replace hcT := Lib.hid hcT
     go_wp2_with (first
      | (refine wpL_loadV rfl _ rfl b (off + j * 6) rfl v hcT.out ?_)
      | (refine Go.Great.wpList_buildSliceTo rfl 58 128 1 _ rfl T2.heap.size rfl _ rfl Tryd.underlying58 (vC v) (by kernel_rfl) ?_; simp only [Act.put, List.setIfInBounds_toArray, List.set_cons_succ, List.set_cons_zero])
      | (at_builtin; refine app_eb vE rfl _ _ rfl (y := v) rfl hownT rfl rfl hll hzT ?_; intro v5 W7 hown5 hb5)
      | fail)
     go_roundw
     case rel => exact ⟨j + 1, by omega, by go_num, by rw [e1.out]; exact hown5, Lib.hid (hbT'.out.trans hb5)⟩
     case measure => simp [intOf]; omega
    ·have t1 : decide (0 ≤ wq) = false := decide_eq_false hq0
     have e1 : Hid (liveV S1 (vs.take (j + 1)) = ys) := Lib.hid (by rw [hsn.out, if_neg hq0])
     replace hq0 := Lib.hid hq0
     apply tkD 8 hbT rfl
     ·intro T hT
      go_simp
      try rfl
     try go_frame
     refine wpAnyD_done (by kernel_rfl) ?_ _
     have hownT := (hown.out.below hw0).below hbT
     replace hc := Lib.hid hc
     go_wp2_with fail
     go_roundw
     case rel => exact ⟨j + 1, by omega, by go_num, by rw [e1.out]; exact hownT, hbT'⟩
     case measure => simp [intOf]; omega
   ·have hjn : vs.take j = vs := List.take_of_length_le (by omega)
    rw [hjn] at hown
    obtain ⟨V', hV'⟩ : ∃ l, Hid (liveV S1 vs = l) := ⟨_, Lib.hid rfl⟩
    rw [hV'.out] at hown
    have hVs := hVs.out
    rw [hV'.out] at hVs
    obtain ⟨q9, d9, rfl, _, hr9, hf9, hnz9, _⟩ := hown.u2
    obtain ⟨n9, hn9⟩ : ∃ n, Hid (V'.length = n) := ⟨_, Lib.hid rfl⟩
    rw [hn9.out]
    have hCr := hC4.out.below hbr.out
    have hBr := hB4.out.trans (hbr.out.mono hB4.out.size)
    have f5 := hCr.box.free 5
    have hbx4 : bx < W4.heap.size := blk_lt hC4.out.box
    have hbz4 : bz < W4.heap.size := blk_lt hC4.out.z
    obtain ⟨wf, hwf, hbox⟩ := nameW (p := fun W => RfBox W bx { a with pl := q, cl := d, pv := q9, cv := d9 } S1 n9) (hCr.box.setV (p := q9) (c := d9) (n := n9))
    have hl9 : RL mE wf q (L.set k ((m, ⟨mr, some G⟩), gp, gc)) := by rw [← hwf.out]; exact (hr4.out.below hbr.out).set (hfq.mono hbxd)
    have hv9 : RL vE wf q9 V' := by rw [← hwf.out]; exact hr9.set (hf9.mono hbx4)
    have hz : ZBox wf bz := by rw [← hwf.out]; exact hCr.z.keep (setCell_keep (blk_lt hCr.z) hbzx)
    have hBf0 : Below w.heap.size w wf := by rw [← hwf.out]; exact hBr.trans (setCell_below hbx0 hBr.size)
    have hfqz : FarP (bz + 1) q := hfq.mono hbzd
    have hf9z : FarP (bz + 1) q9 := hf9.mono hbz4
    have hf9' : FarP w.heap.size q9 := hf9.mono hB4.out.size
    have hfq' : FarP w.heap.size q := hfq.mono hwd0
    clear hown hr9 hCr hBr hbr hR4 hr4 hC4
    replace hjn := Lib.hid hjn
    replace hVs := Lib.hid hVs
    go_wp2_with (first | (rw [hwf.out]) | (refine wpList_load_row rfl 60 _ rfl bx rfl 60 _ (0, 0) _ hbox Tryd.underlying60 rfl (rfC_info _ _ _) ?_) | (refine wpList_store_row rfl 60 _ _ rfl bz _ rfl rfl 60 rZ hz (rfC_info _ _ _) rfl (rfC_one _ _ _) ?_) | fail)
    refine bodyPost_ret (v := .agg (rfC { a with pl := q, cl := d, pv := q9, cv := d9 } S1 n9)) ?_ rfl ?_
    ·exact results_cell_row rfl _ _ bz 60 _ (0, 0) _ rfl (setRow_heap _ _ _ _ _ _ hz) Tryd.underlying60 rfl (rfC_info _ _ _)
    ·obtain ⟨cs, hcs⟩ : ∃ cs, Hid (rfC { a with pl := q, cl := d, pv := q9, cv := d9 } S1 n9 = cs) := ⟨_, Lib.hid rfl⟩
     rw [hcs.out]
     have hBf := belowSetRow (cs := cs) hBf0 hbz0
     have hRf := hR.below hBf
     rw [hst.out, ← hcs.out]
     refine ⟨{ a with pl := q, cl := d, pv := q9, cv := d9 }, L.set k ((m, ⟨mr, some G⟩), gp, gc), V', by rw [hn9.out], ?_, hVs.out, ⟨hI.pc, hI.pi, hI.pg, fun q e => hN _ (hfq' q e), fun q e => hN _ (hf9' q e), fun x hx q e => ?_⟩, ?_⟩
     ·rw [hcs.out]
      have := hRf.withL (hl9.setRow hfqz) hmsq.out hqz (fun x hx => by
       rcases hgsO.out x hx with hx | rfl
       ·exact hRf.gsL x hx
       ·exact ⟨by rw [← hG.out]; exact hU.below hBf, fun q e => Nat.lt_of_lt_of_le (hgl q e) hBf.size⟩) (hv9.setRow hf9z) hnz9
      rw [hS1e.out] at this
      exact this
     ·rcases hgsO.out x hx with hx | rfl
      ·exact hI.gs x hx q e
      ·exact hg q e
     ·rw [hcs.out]; exact hBf
end Go.Proofs.YtkolilbebkkpdaaDoor

