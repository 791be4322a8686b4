/-
  The document's rolls compared: the walk.
-/
import Derived.Test.YtkolilbebkkpdaaDoorRmP
import Derived.Test.YtkolilbebkkpdaaDoorRmJ
namespace Go.Proofs.YtkolilbebkkpdaaDoor
open Go.RowKit Go.Maps Go.BigFrame
attribute [local go_sem] in_gr

/-- Two of the document's rolls in variables. -/
structure SC (w : World) (bx b2 : Nat) (a : RfV) (s : RS) (L : List ME) (vs : List VI) (a' : RfV) (t : RS) (L' : List ME) (vt : List VI) : Prop where
 rf : RfAt w a s L vs
 rt : RfAt w a' t L' vt
 box : RfBox w bx a s vs.length
 bot : RfBox w b2 a' t vt.length
theorem SC.below {w w' : World} {bx b2 : Nat} {a : RfV} {s : RS} {L : List ME} {vs : List VI} {a' : RfV} {t : RS} {L' : List ME} {vt : List VI} (h : SC w bx b2 a s L vs a' t L' vt) (hb : Below w.heap.size w w') : SC w' bx b2 a s L vs a' t L' vt :=
 ⟨h.rf.below hb, h.rt.below hb, h.box.below hb, h.bot.below hb⟩
theorem gone_sort {w : World} {a : RfV} {s : RS} {L : List ME} {vs : List VI} (h : RfAt w a s L vs) : ∃ gl : List Int, sortI gl = sortI s.gone ∧ UI w a.pg s.gone.length gl := by
 obtain ⟨gl, h1, h2⟩ := h.gone
 exact ⟨gl, sortI_congr h1, h2⟩
/-- A vouch of a list, loaded whole, in a region. -/
theorem run_loadVm {W : World} {b k : Nat} {x : VI} {ρ : Operand → Value} {o : Oper} {p : Operand} (hc : ∀ j u, (vC x)[j]? = some u → W.cell? ⟨b, k + j, none⟩ = some u) (hop : o.op = .load 128 p) (hx : ρ p = .pointer (some ⟨b, k, none⟩)) : (execOp ρ o).run Tryd.prog W = .ok (.value (.agg (vC x))) W := by
 have := run_loadVar_mid (P := Tryd.prog) W b k 128 (vC x).toList _ (fun j u hu => hc j u (by simpa using hu)) Tryd.underlying128 rfl (by rw [vC_info x]; rfl)
 unfold execOp
 simp only [hop, hx, Instr.loadAt, Instr.sureAddr, Sem.run_bind, Sem.run_pure, Result.andThen_ok, this, Array.toArray_toList]
set_option maxRecDepth 100000 in
set_option maxHeartbeats 16000000 in
theorem SameR_any (w : World) (a : RfV) (s : RS) (L : List ME) (vs : List VI) (a' : RfV) (t : RS) (L' : List ME) (vt : List VI) (k k' : Nat) (hR : RfAt w a s L vs) (hR' : RfAt w a' t L' vt) (hV : VsOk s vs) (hW : VsOk t vt) (hs : s.Ok k) (ht : t.Ok k') (hk : k ≤ 1000) (hk' : k' ≤ 1000) :
  Calls Tryd.prog 36 #[.agg (rfC a s vs.length), .agg (rfC a' t vt.length)] w fun e w' => e = .returned (.bool (s.same t)) ∧ Below w.heap.size w w' := by
 rw [← rsame_eq hs ht hV hW]
 have hfm := hs.fewM
 have hfw := hs.few
 have hfmt := ht.fewM
 have hfwt := ht.few
 rw [List.length_append] at hfw hfwt
 have hfv := hV.few hs
 have hfvt := hW.few ht
 have hbx := Below.lit w (.cells (rfC a s vs.length) 60)
 have hRb := hR.below hbx
 have hBx := RfBox.made w a s vs.length
 obtain ⟨wb, hwb, hBx⟩ := nameW (p := fun W => RfBox W w.heap.size a s vs.length) hBx
 rw [hwb.out] at hbx hRb
 obtain ⟨bx, hbxn⟩ : ∃ bx, Hid (w.heap.size = bx) := ⟨_, Lib.hid rfl⟩
 rw [hbxn.out] at hBx
 have hb2 := Below.lit wb (.cells (rfC a' t vt.length) 60)
 obtain ⟨wc, hwc, hBt⟩ := nameW (p := fun W => RfBox W wb.heap.size a' t vt.length) (RfBox.made wb a' t vt.length)
 rw [hwc.out] at hb2
 obtain ⟨b2, hb2n⟩ : ∃ b, Hid (wb.heap.size = b) := ⟨_, Lib.hid rfl⟩
 rw [hb2n.out] at hBt
 have hS : SC wc bx b2 a s L vs a' t L' vt := ⟨hRb.below hb2, (hR'.below hbx).below hb2, hBx.below hb2, hBt⟩
 have hB := hbx.trans (hb2.mono hbx.size)
 obtain ⟨R, hRn⟩ : ∃ R, Hid (rsame s t vs vt = R) := ⟨_, Lib.hid rfl⟩
 rw [hRn.out]
 obtain ⟨r1, hr1⟩ : ∃ x, Hid (decide (sortI s.ins = sortI t.ins) = x) := ⟨_, Lib.hid rfl⟩
 obtain ⟨r2, hr2⟩ : ∃ x, Hid (decide (sortI s.gone = sortI t.gone) = x) := ⟨_, Lib.hid rfl⟩
 obtain ⟨q3, hq3⟩ : ∃ x, (s.bk != t.bk) = x := ⟨_, rfl⟩
 obtain ⟨nm, hnm⟩ : ∃ x, Hid (s.ms.length = x) := ⟨_, Lib.hid rfl⟩
 obtain ⟨nmt, hnmt⟩ : ∃ x, Hid (t.ms.length = x) := ⟨_, Lib.hid rfl⟩
 obtain ⟨q4, hq4⟩ : ∃ x, ((nm : Int) != (nmt : Int)) = x := ⟨_, rfl⟩
 obtain ⟨q5, hq5⟩ : ∃ x, ((vs.length : Int) != (vt.length : Int)) = x := ⟨_, rfl⟩
 have hq4' : (nm != nmt) = q4 := by
  rw [← hq4]
  by_cases h : nm = nmt
  ·subst h; rw [bne_self_eq_false, bne_self_eq_false]
  ·rw [bne_iff_ne.2 h, bne_iff_ne.2 (by omega)]
 have hq5' : (vs.length != vt.length) = q5 := by
  rw [← hq5]
  by_cases h : vs.length = vt.length
  ·rw [h, bne_self_eq_false, bne_self_eq_false]
  ·rw [bne_iff_ne.2 h, bne_iff_ne.2 (by omega)]
 have hRe : Hid (R = (r1 && r2 && !q3 && !q4 && !q5 && msL s.ms t.ms && vsL vs vt)) := Lib.hid (by
  rw [← hRn.out, ← hr1.out, ← hr2.out, ← hq3, ← hq4', ← hq5', ← hnm.out, ← hnmt.out]
  unfold rsame
  simp [bne, Bool.beq_eq_decide_eq])
 replace hbx := Lib.hid hbx
 replace hb2 := Lib.hid hb2
 replace hS := Lib.hid hS
 replace hB := Lib.hid hB
 clear hBx hBt hRb
 go_enter Tryd.func36, Tryd.ntmps36
 go_upto_region 1 with (first | (rw [hwb.out]) | (rw [hwc.out]) | fail)
 rw [hbxn.out, hb2n.out]
 go_cut [54] from 12 to 53 (fun v T => v = .bool (!r1 || !r2 || q3 || q4 || q5) ∧ Below wc.heap.size wc T)
 case first =>
  obtain ⟨wd, hwd⟩ : ∃ wd, Hid (wc.drew = wd) := ⟨_, Lib.hid rfl⟩
  have hw0 : Below wc.heap.size wc wd := by rw [← hwd.out]; exact (Below.refl _ _).drew
  have hSd := hS.out.below hw0
  have hb0 : Below wd.heap.size wd wd := Below.refl _ _
  have z1 := hSd.box.c1
  have z2 := hSd.box.c2
  have z3 := hSd.box.c3
  have z4 := hSd.box.c4
  have z5 := hSd.box.c5
  have x1 := hSd.bot.c1
  have x2 := hSd.bot.c2
  have x3 := hSd.bot.c3
  have x4 := hSd.bot.c4
  have x5 := hSd.bot.c5
  rw [hnm.out] at z3
  rw [hnmt.out] at x3
  obtain ⟨gl, hgs, hgu⟩ := gone_sort hSd.rf
  obtain ⟨gt, hgt, hgtu⟩ := gone_sort hSd.rt
  refine wp_region_D (D := fun T => Below wd.heap.size wd T) (by kernel_rfl) ?_
  rw [hwd.out]
  change wpAnyD _ _ _ _ _ 43 _ _ _
  apply tkD 0 hb0 rfl
  ·intro T hT
   have hT0 := (hT.cell (cell_lt z1)).trans z1
   go_simp
   try rfl
  try go_frame
  apply tkD 1 hb0 rfl
  ·intro T hT
   have hT0 := (hT.cell (cell_lt z1)).trans z1
   go_simp
   try rfl
  try go_frame
  apply tkD 3 hb0 rfl
  ·intro T hT
   have hT0 := (hT.cell (cell_lt x1)).trans x1
   go_simp
   try rfl
  try go_frame
  apply tkD 4 hb0 rfl
  ·intro T hT
   have hT0 := (hT.cell (cell_lt x1)).trans x1
   go_simp
   try rfl
  try go_frame
  refine oneD 2 (by kernel_rfl) rfl (by kernel_rfl) (fun K hK => ?_)
  go_simp
  refine (Sorted_ref a.pi s.ins.length s.ins a.ci wd hSd.rf.ins (by omega)).mono ?_
  rintro e w1 ⟨v1, rfl, ho1, hb1⟩
  obtain ⟨p1, c1, rfl, _, hu1, _⟩ := ho1.u
  refine hK _ _ ⟨hb1, ?_⟩
  clear hK K
  try go_frame
  refine oneD 5 (by kernel_rfl) rfl (by kernel_rfl) (fun K hK => ?_)
  go_simp
  refine (Sorted_ref a'.pi t.ins.length t.ins a'.ci w1 (hSd.rt.ins.below hb1) (by omega)).mono ?_
  rintro e w2 ⟨v2, rfl, ho2, hb2⟩
  obtain ⟨p2, c2, rfl, _, hu2, _⟩ := ho2.u
  have hb12 := hb1.trans (hb2.mono hb1.size)
  refine hK _ _ ⟨hb12, ?_⟩
  clear hK K
  try go_frame
  refine oneD 6 (by kernel_rfl) rfl (by kernel_rfl) (fun K hK => ?_)
  go_simp
  refine (SameInts_any p1 p2 _ _ _ _ c1 c2 w2 (hu1.below hb2) hu2 (by omega) (by omega)).mono ?_
  rintro e w3 ⟨rfl, hb3⟩
  rw [hr1.out]
  have hb13 := hb12.trans (hb3.mono hb12.size)
  refine hK _ _ ⟨hb13, ?_⟩
  clear hK K
  try go_frame
  apply tkD 7 hb13 rfl
  ·intro T hT
   go_simp
   try rfl
  try go_frame
  apply tkD 8 hb13 rfl
  ·intro T hT
   go_simp
   try rfl
  try go_frame
  cases r1 with
  | false =>
   apply noD 9 hb13 rfl
   try go_frame
   apply noD 10 hb13 rfl
   try go_frame
   apply noD 11 hb13 rfl
   try go_frame
   apply noD 12 hb13 rfl
   try go_frame
   apply noD 13 hb13 rfl
   try go_frame
   apply noD 14 hb13 rfl
   try go_frame
   apply noD 15 hb13 rfl
   try go_frame
   apply noD 16 hb13 rfl
   try go_frame
   apply tkD 17 hb13 rfl
   ·intro T hT
    go_simp
    try rfl
   try go_frame
   apply tkD 18 hb13 rfl
   ·intro T hT
    go_simp
    try rfl
   try go_frame
   apply noD 19 hb13 rfl
   try go_frame
   apply noD 20 hb13 rfl
   try go_frame
   apply noD 21 hb13 rfl
   try go_frame
   apply noD 22 hb13 rfl
   try go_frame
   apply noD 23 hb13 rfl
   try go_frame
   apply tkD 24 hb13 rfl
   ·intro T hT
    go_simp
    try rfl
   try go_frame
   apply tkD 25 hb13 rfl
   ·intro T hT
    go_simp
    try rfl
   try go_frame
   apply noD 26 hb13 rfl
   try go_frame
   apply noD 27 hb13 rfl
   try go_frame
   apply noD 28 hb13 rfl
   try go_frame
   apply noD 29 hb13 rfl
   try go_frame
   apply noD 30 hb13 rfl
   try go_frame
   apply noD 31 hb13 rfl
   try go_frame
   apply noD 32 hb13 rfl
   try go_frame
   apply tkD 33 hb13 rfl
   ·intro T hT
    go_simp
    try rfl
   try go_frame
   apply tkD 34 hb13 rfl
   ·intro T hT
    go_simp
    try rfl
   try go_frame
   apply noD 35 hb13 rfl
   try go_frame
   apply noD 36 hb13 rfl
   try go_frame
   apply noD 37 hb13 rfl
   try go_frame
   apply noD 38 hb13 rfl
   try go_frame
   apply noD 39 hb13 rfl
   try go_frame
   apply noD 40 hb13 rfl
   try go_frame
   apply noD 41 hb13 rfl
   try go_frame
   apply tkD 42 hb13 rfl
   ·intro T hT
    go_simp
    try rfl
   try go_frame
   refine wpAnyD_done (by kernel_rfl) ?_ _
   go_wp2_with fail
   go_meet
   exact ⟨rfl, hw0.trans (hb13.mono hw0.size)⟩
  | true =>
   apply tkD 9 hb13 rfl
   ·intro T hT
    have hT0 := (hT.cell (cell_lt z2)).trans z2
    go_simp
    try rfl
   try go_frame
   apply tkD 10 hb13 rfl
   ·intro T hT
    have hT0 := (hT.cell (cell_lt z2)).trans z2
    go_simp
    try rfl
   try go_frame
   apply tkD 12 hb13 rfl
   ·intro T hT
    have hT0 := (hT.cell (cell_lt x2)).trans x2
    go_simp
    try rfl
   try go_frame
   apply tkD 13 hb13 rfl
   ·intro T hT
    have hT0 := (hT.cell (cell_lt x2)).trans x2
    go_simp
    try rfl
   try go_frame
   refine oneD 11 (by kernel_rfl) rfl (by kernel_rfl) (fun K hK => ?_)
   go_simp
   refine (Sorted_ref a.pg s.gone.length gl a.cg w3 (hgu.below hb13) (by omega)).mono ?_
   rintro e w4 ⟨v4, rfl, ho4, hb4⟩
   rw [hgs] at ho4
   obtain ⟨p4, c4, rfl, _, hu4, _⟩ := ho4.u
   have hb14 := hb13.trans (hb4.mono hb13.size)
   refine hK _ _ ⟨hb14, ?_⟩
   clear hK K
   try go_frame
   refine oneD 14 (by kernel_rfl) rfl (by kernel_rfl) (fun K hK => ?_)
   go_simp
   refine (Sorted_ref a'.pg t.gone.length gt a'.cg w4 (hgtu.below hb14) (by omega)).mono ?_
   rintro e w5 ⟨v5, rfl, ho5, hb5⟩
   rw [hgt] at ho5
   obtain ⟨p5, c5, rfl, _, hu5, _⟩ := ho5.u
   have hb15 := hb14.trans (hb5.mono hb14.size)
   refine hK _ _ ⟨hb15, ?_⟩
   clear hK K
   try go_frame
   refine oneD 15 (by kernel_rfl) rfl (by kernel_rfl) (fun K hK => ?_)
   go_simp
   refine (SameInts_any p4 p5 _ _ _ _ c4 c5 w5 (hu4.below hb5) hu5 (by omega) (by omega)).mono ?_
   rintro e w6 ⟨rfl, hb6⟩
   rw [hr2.out]
   have hb16 := hb15.trans (hb6.mono hb15.size)
   refine hK _ _ ⟨hb16, ?_⟩
   clear hK K
   try go_frame
   apply tkD 16 hb16 rfl
   ·intro T hT
    go_simp
    try rfl
   try go_frame
   apply tkD 17 hb16 rfl
   ·intro T hT
    go_simp
    try rfl
   try go_frame
   apply tkD 18 hb16 rfl
   ·intro T hT
    go_simp
    try rfl
   try go_frame
   cases r2 with
   | false =>
    apply noD 19 hb16 rfl
    try go_frame
    apply noD 20 hb16 rfl
    try go_frame
    apply noD 21 hb16 rfl
    try go_frame
    apply noD 22 hb16 rfl
    try go_frame
    apply noD 23 hb16 rfl
    try go_frame
    apply tkD 24 hb16 rfl
    ·intro T hT
     go_simp
     try rfl
    try go_frame
    apply tkD 25 hb16 rfl
    ·intro T hT
     go_simp
     try rfl
    try go_frame
    apply noD 26 hb16 rfl
    try go_frame
    apply noD 27 hb16 rfl
    try go_frame
    apply noD 28 hb16 rfl
    try go_frame
    apply noD 29 hb16 rfl
    try go_frame
    apply noD 30 hb16 rfl
    try go_frame
    apply noD 31 hb16 rfl
    try go_frame
    apply noD 32 hb16 rfl
    try go_frame
    apply tkD 33 hb16 rfl
    ·intro T hT
     go_simp
     try rfl
    try go_frame
    apply tkD 34 hb16 rfl
    ·intro T hT
     go_simp
     try rfl
    try go_frame
    apply noD 35 hb16 rfl
    try go_frame
    apply noD 36 hb16 rfl
    try go_frame
    apply noD 37 hb16 rfl
    try go_frame
    apply noD 38 hb16 rfl
    try go_frame
    apply noD 39 hb16 rfl
    try go_frame
    apply noD 40 hb16 rfl
    try go_frame
    apply noD 41 hb16 rfl
    try go_frame
    apply tkD 42 hb16 rfl
    ·intro T hT
     go_simp
     try rfl
    try go_frame
    refine wpAnyD_done (by kernel_rfl) ?_ _
    go_wp2_with fail
    go_meet
    exact ⟨rfl, hw0.trans (hb16.mono hw0.size)⟩
   | true =>
    apply tkD 19 hb16 rfl
    ·intro T hT
     have hT0 := (hT.cell (cell_lt z4)).trans z4
     go_simp
     try rfl
    try go_frame
    apply tkD 20 hb16 rfl
    ·intro T hT
     have hT0 := (hT.cell (cell_lt z4)).trans z4
     go_simp
     try rfl
    try go_frame
    apply tkD 21 hb16 rfl
    ·intro T hT
     have hT0 := (hT.cell (cell_lt x4)).trans x4
     go_simp
     try rfl
    try go_frame
    apply tkD 22 hb16 rfl
    ·intro T hT
     have hT0 := (hT.cell (cell_lt x4)).trans x4
     go_simp
     try rfl
    try go_frame
    apply tkD 23 hb16 rfl
    ·intro T hT
     go_simp
     try rfl
    try go_frame
    apply tkD 24 hb16 rfl
    ·intro T hT
     go_simp
     try rfl
    try go_frame
    apply tkD 25 hb16 rfl
    ·intro T hT
     go_simp
     try rfl
    try go_frame
    cases q3 with
    | true =>
     apply noD 26 hb16 rfl
     try go_frame
     apply noD 27 hb16 rfl
     try go_frame
     apply noD 28 hb16 rfl
     try go_frame
     apply noD 29 hb16 rfl
     try go_frame
     apply noD 30 hb16 rfl
     try go_frame
     apply noD 31 hb16 rfl
     try go_frame
     apply noD 32 hb16 rfl
     try go_frame
     apply tkD 33 hb16 rfl
     ·intro T hT
      go_simp
      try rfl
     try go_frame
     apply tkD 34 hb16 rfl
     ·intro T hT
      go_simp
      try rfl
     try go_frame
     apply noD 35 hb16 rfl
     try go_frame
     apply noD 36 hb16 rfl
     try go_frame
     apply noD 37 hb16 rfl
     try go_frame
     apply noD 38 hb16 rfl
     try go_frame
     apply noD 39 hb16 rfl
     try go_frame
     apply noD 40 hb16 rfl
     try go_frame
     apply noD 41 hb16 rfl
     try go_frame
     apply tkD 42 hb16 rfl
     ·intro T hT
      go_simp
      try rfl
     try go_frame
     refine wpAnyD_done (by kernel_rfl) ?_ _
     go_wp2_with fail
     go_meet
     exact ⟨rfl, hw0.trans (hb16.mono hw0.size)⟩
    | false =>
     apply tkD 26 hb16 rfl
     ·intro T hT
      have hT0 := (hT.cell (cell_lt z3)).trans z3
      go_simp
      try rfl
     try go_frame
     apply tkD 27 hb16 rfl
     ·intro T hT
      have hT0 := (hT.cell (cell_lt z3)).trans z3
      go_simp
      try rfl
     try go_frame
     apply tkD 28 hb16 rfl
     ·intro T hT
      have hT0 := (hT.cell (cell_lt z3)).trans z3
      go_simp
      try rfl
     try go_frame
     apply tkD 29 hb16 rfl
     ·intro T hT
      have hT0 := (hT.cell (cell_lt x3)).trans x3
      go_simp
      try rfl
     try go_frame
     apply tkD 30 hb16 rfl
     ·intro T hT
      have hT0 := (hT.cell (cell_lt x3)).trans x3
      go_simp
      try rfl
     try go_frame
     apply tkD 31 hb16 rfl
     ·intro T hT
      have hT0 := (hT.cell (cell_lt x3)).trans x3
      go_simp
      try rfl
     try go_frame
     apply tkD 32 hb16 rfl
     ·intro T hT
      go_simp
      try rfl
     try go_frame
     apply tkD 33 hb16 rfl
     ·intro T hT
      go_simp
      try rfl
     try go_frame
     apply tkD 34 hb16 rfl
     ·intro T hT
      go_simp
      try rfl
     try go_frame
     cases q4 with
     | true =>
      apply noD 35 hb16 rfl
      try go_frame
      apply noD 36 hb16 rfl
      try go_frame
      apply noD 37 hb16 rfl
      try go_frame
      apply noD 38 hb16 rfl
      try go_frame
      apply noD 39 hb16 rfl
      try go_frame
      apply noD 40 hb16 rfl
      try go_frame
      apply noD 41 hb16 rfl
      try go_frame
      apply tkD 42 hb16 rfl
      ·intro T hT
       go_simp
       try rfl
      try go_frame
      refine wpAnyD_done (by kernel_rfl) ?_ _
      go_wp2_with fail
      go_meet
      exact ⟨rfl, hw0.trans (hb16.mono hw0.size)⟩
     | false =>
      apply tkD 35 hb16 rfl
      ·intro T hT
       have hT0 := (hT.cell (cell_lt z5)).trans z5
       go_simp
       try rfl
      try go_frame
      apply tkD 36 hb16 rfl
      ·intro T hT
       have hT0 := (hT.cell (cell_lt z5)).trans z5
       go_simp
       try rfl
      try go_frame
      apply tkD 37 hb16 rfl
      ·intro T hT
       have hT0 := (hT.cell (cell_lt z5)).trans z5
       go_simp
       try rfl
      try go_frame
      apply tkD 38 hb16 rfl
      ·intro T hT
       have hT0 := (hT.cell (cell_lt x5)).trans x5
       go_simp
       try rfl
      try go_frame
      apply tkD 39 hb16 rfl
      ·intro T hT
       have hT0 := (hT.cell (cell_lt x5)).trans x5
       go_simp
       try rfl
      try go_frame
      apply tkD 40 hb16 rfl
      ·intro T hT
       have hT0 := (hT.cell (cell_lt x5)).trans x5
       go_simp
       try rfl
      try go_frame
      apply tkD 41 hb16 rfl
      ·intro T hT
       go_simp
       try rfl
      try go_frame
      apply tkD 42 hb16 rfl
      ·intro T hT
       go_simp
       try rfl
      try go_frame
      refine wpAnyD_done (by kernel_rfl) ?_ _
      go_wp2_with fail
      go_meet
      exact ⟨rfl, hw0.trans (hb16.mono hw0.size)⟩
 case rest =>
  obtain ⟨rfl, hbc⟩ := hcut
  have hS1 := Lib.hid (hS.out.below hbc)
  have hB1 := Lib.hid (hB.out.trans (hbc.mono hB.out.size))
  clear hbc hq3 hq4 hq5 hq4' hq5' hS hB
  obtain ⟨cc, hcc⟩ : ∃ x, Hid ((!r1 || !r2 || q3 || q4 || q5) = x) := ⟨_, Lib.hid rfl⟩
  rw [hcc.out]
  have hRe2 : Hid (R = (!cc && msL s.ms t.ms && vsL vs vt)) := Lib.hid (by
   rw [hRe.out, ← hcc.out]
   cases r1 <;> cases r2 <;> cases q3 <;> cases q4 <;> cases q5 <;> rfl)
  cases cc with
  | true =>
   have hRf : Hid (R = false) := Lib.hid (by rw [hRe2.out]; rfl)
   go_wp2_with fail
   go_ret
   exact ⟨ret_bool (b := R) hRf.out.symm, hB1.out⟩
  | false =>
   have hfw8 := hfmt
   have hnb : nm ≤ 1000000 := by have := hfm; rw [hnm.out] at this; omega
   clear hcc hRe hr1 hr2 hRn hfw hfwt hbx hb2 hR hR' hfm hfmt hwb hwc hbxn hb2n hnmt
   have z3 := hS1.out.box.c3
   rw [hnm.out] at z3
   go_wp2_with fail
   go_loopw [5] (fun i wr => ∃ j : Nat, j ≤ nm ∧ i = .int .i64 j ∧ Hid ((s.ms.take j).all (msF t.ms) = true) ∧ Hid (SC wr bx b2 a s L vs a' t L' vt) ∧ Hid (Below w.heap.size w wr)) (fun i _ => nm - (intOf i).toNat)
   case atStart => exact ⟨0, Nat.zero_le _, rfl, Lib.hid rfl, hS1, hB1⟩
   case round =>
    clear hS1 hB1 z3
    obtain ⟨j, hj, rfl, hall, hS1, hB1⟩ := hrel
    have z3 := hS1.out.box.c3
    rw [hnm.out] at z3
    by_cases hlt : j < nm
    ·have hjl : j < s.ms.length := by rw [hnm.out]; exact hlt
     obtain ⟨b, off, X, hxL, hxs, hp, _, _, hc⟩ := hS1.out.rf.at_ hjl
     have c0 : wr.cell? ⟨b, off + j * 11, none⟩ = some (.int .i64 X.1.1) := hc 0 _ rfl
     have hix1 : (0 : Int) ≤ (j : Int) := by omega
     have hix2 : (j : Int) < (nm : Int) := by omega
     have htk : (s.ms.take (j + 1)).all (msF t.ms) = ((s.ms.take j).all (msF t.ms) && msF t.ms X.1) := by
      rw [List.take_add_one, List.getElem?_eq_getElem hjl, List.all_append, hxs]
      simp
     rw [hall.out, Bool.true_and] at htk
     have hmsn : msF t.ms X.1 = false → R = false := fun h => by
      rw [hRe2.out]
      have : msL s.ms t.ms = false := by
       unfold msL
       rw [List.all_eq_false]
       exact ⟨X.1, by rw [hxs]; exact List.getElem_mem hjl, by rw [h]; simp⟩
      rw [this]
      simp
     obtain ⟨xn, hxn⟩ : ∃ xn, Hid (X.1.1 = xn) := ⟨_, Lib.hid rfl⟩
     rw [hxn.out] at c0
     rw [hp] at z3
     replace hc := Lib.hid hc
     replace hxs := Lib.hid hxs
     replace hp := Lib.hid hp
     replace htk := Lib.hid htk
     replace hmsn := Lib.hid hmsn
     replace hxL := Lib.hid hxL
     go_upto_region 6 with fail
     obtain ⟨wd, hwd⟩ : ∃ wd, Hid (wr.drew = wd) := ⟨_, Lib.hid rfl⟩
     have hw0 : Below wr.heap.size wr wd := by rw [← hwd.out]; exact (Below.refl _ _).drew
     have hSd := Lib.hid (hS1.out.below hw0)
     have hbotd := Lib.hid hSd.out.bot
     replace z3 := (hw0.cell (cell_lt z3)).trans z3
     replace c0 := (hw0.cell (cell_lt c0)).trans c0
     have hb0 : Below wd.heap.size wd wd := Below.refl _ _
     refine wp_region_D (D := fun T => Below wd.heap.size wd T) (by kernel_rfl) ?_
     rw [hwd.out]
     change wpAnyD _ _ _ _ _ 9 _ _ _
     apply tkD 0 hb0 rfl
     ·intro T hT
      exact run_loadR (hbotd.out.below hT) rfl rfl
     try go_frame
     apply tkD 1 hb0 rfl
     ·intro T hT
      have hT0 := (hT.cell (cell_lt z3)).trans z3
      go_simp
      try rfl
     try go_frame
     apply tkD 2 hb0 rfl
     ·intro T hT
      have hT0 := (hT.cell (cell_lt z3)).trans z3
      go_simp
      try rfl
     try go_frame
     apply tkD 3 hb0 rfl
     ·intro T hT
      have hT0 := (hT.cell (cell_lt z3)).trans z3
      go_simp
      try rfl
     try go_frame
     apply tkD 4 hb0 rfl
     ·intro T hT
      have hT0 := (hT.cell (cell_lt z3)).trans z3
      go_simp
      try rfl
     try go_frame
     apply tkD 5 hb0 rfl
     ·intro T hT
      have hT0 := (hT.cell (cell_lt z3)).trans z3
      go_simp
      try rfl
     try go_frame
     apply tkD 6 hb0 rfl
     ·intro T hT
      have hT0 := (hT.cell (cell_lt c0)).trans c0
      go_simp
      try rfl
     try go_frame
     refine oneD 7 (by kernel_rfl) rfl (by kernel_rfl) (fun K hK => ?_)
     go_simp
     refine (MemR_any wd a' t L' vt xn hSd.out.rt (by omega)).mono ?_
     rintro e we ⟨rfl, hbe⟩
     obtain ⟨at_, hat⟩ : ∃ x, Hid (memI t xn = x) := ⟨_, Lib.hid rfl⟩
     rw [hat.out]
     refine hK _ _ ⟨hbe, ?_⟩
     clear hK K
     try go_frame
     apply tkD 8 hbe rfl
     ·intro T hT
      go_simp
      try rfl
     try go_frame
     refine wpAnyD_done (by kernel_rfl) ?_ _
     have hb1e := hw0.trans (hbe.mono hw0.size)
     have hSe := Lib.hid (hS1.out.below hb1e)
     have hBe := Lib.hid (hB1.out.trans (hb1e.mono hB1.out.size))
     rcases memI_cases t xn with ⟨h1, h2⟩ | ⟨kt, mt, h1, h2, h3⟩
     ·obtain rfl : at_ = -1 := by rw [← hat.out, h1]
      have hRf : Hid (R = false) := Lib.hid (hmsn.out (by unfold msF; rw [hxn.out, show lk t.ms xn = none from h2]))
      replace h1 := Lib.hid h1
      replace h2 := Lib.hid h2
      go_wp2_with fail
      go_ret
      exact ⟨ret_bool (b := R) hRf.out.symm, hBe.out⟩
     ·obtain rfl : at_ = (kt : Int) := by rw [← hat.out, h1]
      obtain ⟨hkt, h2e⟩ := List.getElem?_eq_some_iff.1 h2
      obtain ⟨bt, offt, Y, hyL, hys, hpt, _, _, hct⟩ := hSe.out.rt.at_ hkt
      have hY1 : Y.1 = (xn, mt) := hys.trans h2e
      have hmsx : msF t.ms X.1 = mEq X.1.2 Y.1.2 := by
       unfold msF
       rw [hxn.out, show lk t.ms xn = some mt from h3, hY1]
      have hcX : ∀ i u, (mC X)[i]? = some u → we.cell? ⟨b, off + j * 11 + i, none⟩ = some u := fun i u hu => (hb1e.cell (p := ⟨b, off + j * 11 + i, none⟩) (cell_lt (hc.out i u hu))).trans (hc.out i u hu)
      have z3e := hSe.out.box.c3
      rw [hnm.out, hp.out] at z3e
      have hb7 := Below.lit we (.cells (mC X) 108)
      obtain ⟨wf, hwf, hM7⟩ := nameW (p := fun W => MBox W we.heap.size X) (MBox.made we X)
      rw [hwf.out] at hb7
      obtain ⟨b7, hb7n⟩ : ∃ b, Hid (we.heap.size = b) := ⟨_, Lib.hid rfl⟩
      rw [hb7n.out] at hM7
      have hcY : ∀ i u, (mC Y)[i]? = some u → wf.cell? ⟨bt, offt + kt * 11 + i, none⟩ = some u := fun i u hu => (hb7.cell (p := ⟨bt, offt + kt * 11 + i, none⟩) (cell_lt (hct i u hu))).trans (hct i u hu)
      have x3f := (hSe.out.below hb7).bot.c3
      rw [hpt] at x3f
      have hb8 := Below.lit wf (.cells (mC Y) 108)
      obtain ⟨wg, hwg, hM8⟩ := nameW (p := fun W => MBox W wf.heap.size Y) (MBox.made wf Y)
      rw [hwg.out] at hb8
      obtain ⟨b8, hb8n⟩ : ∃ b, Hid (wf.heap.size = b) := ⟨_, Lib.hid rfl⟩
      rw [hb8n.out] at hM8
      have hM7g := hM7.below hb8
      have hbeg := hb7.trans (hb8.mono hb7.size)
      have hSg := Lib.hid (hSe.out.below hbeg)
      have hBg := Lib.hid (hBe.out.trans (hbeg.mono hBe.out.size))
      have hUX := hSg.out.rf.gs X hxL.out
      have hUY := hSg.out.rt.gs Y hyL
      have hlX : (gsO X.1.2.g).length ≤ 1000000 := by
       cases e : X.1.2.g with
       | none => exact Nat.zero_le _
       | some g =>
        have h5 : X.1 ∈ s.ms := by rw [hxs.out]; exact List.getElem_mem hjl
        exact Nat.le_trans (hs.gd _ h5 g e).gl (by decide)
      have hlY : (gsO Y.1.2.g).length ≤ 1000000 := by
       cases e : Y.1.2.g with
       | none => exact Nat.zero_le _
       | some g =>
        have h5 : Y.1 ∈ t.ms := by rw [hys]; exact List.getElem_mem hkt
        exact Nat.le_trans (ht.gd _ h5 g e).gl (by decide)
      have hix3 : (0 : Int) ≤ (kt : Int) := by omega
      have hix4 : (kt : Int) < (t.ms.length : Int) := by omega
      have t2 : decide ((kt : Int) < 0) = false := decide_eq_false (by omega)
      replace h1 := Lib.hid h1
      replace h2 := Lib.hid h2
      replace h3 := Lib.hid h3
      replace h2e := Lib.hid h2e
      replace hys := Lib.hid hys
      replace hpt := Lib.hid hpt
      replace hct := Lib.hid hct
      replace hcX := Lib.hid hcX
      replace hcY := Lib.hid hcY
      replace hY1 := Lib.hid hY1
      replace hmsx := Lib.hid hmsx
      replace hyL := Lib.hid hyL
      clear z3 c0 hb0 hSd hbotd hw0 hbe hb1e hb7 hb8 hbeg hM7 hSe hBe hS1 hB1
      go_upto_region 9 with fail
      go_upto_region 10 with (first
       | (rw [hwf.out])
       | (refine wpL_loadM rfl _ rfl b (off + j * 11) rfl X hcX.out ?_)
       | (refine wpL_allocT 108 _ rfl rfl (zero_M _) ?_; simp only [Act.put, List.setIfInBounds_toArray, List.set_cons_succ, List.set_cons_zero])
       | (refine wpL_storeT 108 _ (mC X) rfl _ _ rfl (by first | rfl | (simp only [World.size_alloc]; rfl)) rfl (mC_info _) rfl (mC_one _) ?_; try simp only [Act.put])
       | fail)
      rw [hb7n.out]
      go_upto_region 11 with (first
       | (rw [hwg.out])
       | (refine wpL_loadM rfl _ rfl bt (offt + kt * 11) rfl Y hcY.out ?_)
       | (refine wpL_allocT 108 _ rfl rfl (zero_M _) ?_; simp only [Act.put, List.setIfInBounds_toArray, List.set_cons_succ, List.set_cons_zero])
       | (refine wpL_storeT 108 _ (mC Y) rfl _ _ rfl (by first | rfl | (simp only [World.size_alloc]; rfl)) rfl (mC_info _) rfl (mC_one _) ?_; try simp only [Act.put])
       | fail)
      rw [hb8n.out]
      obtain ⟨xr, hxr⟩ : ∃ x, Hid (X.1.2.r = x) := ⟨_, Lib.hid rfl⟩
      obtain ⟨xo, hxo⟩ : ∃ x, Hid (isO X.1.2.g = x) := ⟨_, Lib.hid rfl⟩
      obtain ⟨xI, hxI⟩ : ∃ x, Hid (idO X.1.2.g = x) := ⟨_, Lib.hid rfl⟩
      obtain ⟨xG, hxG⟩ : ∃ x, Hid (gsO X.1.2.g = x) := ⟨_, Lib.hid rfl⟩
      obtain ⟨xN, hxN⟩ : ∃ x, Hid (nO X.1.2.g = x) := ⟨_, Lib.hid rfl⟩
      obtain ⟨xT, hxT⟩ : ∃ x, Hid (tO X.1.2.g = x) := ⟨_, Lib.hid rfl⟩
      obtain ⟨xb, hxb⟩ : ∃ x, Hid (obO X.1.2.g = x) := ⟨_, Lib.hid rfl⟩
      obtain ⟨xa, hxa⟩ : ∃ x, Hid (laO X.1.2.g = x) := ⟨_, Lib.hid rfl⟩
      obtain ⟨yr, hyr⟩ : ∃ x, Hid (Y.1.2.r = x) := ⟨_, Lib.hid rfl⟩
      obtain ⟨yo, hyo⟩ : ∃ x, Hid (isO Y.1.2.g = x) := ⟨_, Lib.hid rfl⟩
      obtain ⟨yI, hyI⟩ : ∃ x, Hid (idO Y.1.2.g = x) := ⟨_, Lib.hid rfl⟩
      obtain ⟨yG, hyG⟩ : ∃ x, Hid (gsO Y.1.2.g = x) := ⟨_, Lib.hid rfl⟩
      obtain ⟨yN, hyN⟩ : ∃ x, Hid (nO Y.1.2.g = x) := ⟨_, Lib.hid rfl⟩
      obtain ⟨yT, hyT⟩ : ∃ x, Hid (tO Y.1.2.g = x) := ⟨_, Lib.hid rfl⟩
      obtain ⟨yb, hyb⟩ : ∃ x, Hid (obO Y.1.2.g = x) := ⟨_, Lib.hid rfl⟩
      obtain ⟨ya, hya⟩ : ∃ x, Hid (laO Y.1.2.g = x) := ⟨_, Lib.hid rfl⟩
      have u1 : wg.cell? ⟨b7, 1, none⟩ = some (.int .i64 xr) := by rw [hM7g.cell, ← hxr.out]; rfl
      have u2 : wg.cell? ⟨b7, 2, none⟩ = some (.bool xo) := by rw [hM7g.cell, ← hxo.out]; rfl
      have u3 : wg.cell? ⟨b7, 3, none⟩ = some (.int .i64 xI.b) := by rw [hM7g.cell, ← hxI.out]; rfl
      have u4 : wg.cell? ⟨b7, 4, none⟩ = some (.int .i64 xI.s) := by rw [hM7g.cell, ← hxI.out]; rfl
      have u5 : wg.cell? ⟨b7, 5, none⟩ = some (.int .u64 xI.u) := by rw [hM7g.cell, ← hxI.out]; rfl
      have u6 : wg.cell? ⟨b7, 6, none⟩ = some (.slice X.2.1 xG.length X.2.2) := by rw [hM7g.cell, ← hxG.out]; rfl
      have u7 : wg.cell? ⟨b7, 7, none⟩ = some (.int .i64 xN) := by rw [hM7g.cell, ← hxN.out]; rfl
      have u8 : wg.cell? ⟨b7, 8, none⟩ = some (.int .i64 xT) := by rw [hM7g.cell, ← hxT.out]; rfl
      have u9 : wg.cell? ⟨b7, 9, none⟩ = some (.bool xb) := by rw [hM7g.cell, ← hxb.out]; rfl
      have u10 : wg.cell? ⟨b7, 10, none⟩ = some (.int .i64 xa) := by rw [hM7g.cell, ← hxa.out]; rfl
      have v1 : wg.cell? ⟨b8, 1, none⟩ = some (.int .i64 yr) := by rw [hM8.cell, ← hyr.out]; rfl
      have v2 : wg.cell? ⟨b8, 2, none⟩ = some (.bool yo) := by rw [hM8.cell, ← hyo.out]; rfl
      have v3 : wg.cell? ⟨b8, 3, none⟩ = some (.int .i64 yI.b) := by rw [hM8.cell, ← hyI.out]; rfl
      have v4 : wg.cell? ⟨b8, 4, none⟩ = some (.int .i64 yI.s) := by rw [hM8.cell, ← hyI.out]; rfl
      have v5 : wg.cell? ⟨b8, 5, none⟩ = some (.int .u64 yI.u) := by rw [hM8.cell, ← hyI.out]; rfl
      have v6 : wg.cell? ⟨b8, 6, none⟩ = some (.slice Y.2.1 yG.length Y.2.2) := by rw [hM8.cell, ← hyG.out]; rfl
      have v7 : wg.cell? ⟨b8, 7, none⟩ = some (.int .i64 yN) := by rw [hM8.cell, ← hyN.out]; rfl
      have v8 : wg.cell? ⟨b8, 8, none⟩ = some (.int .i64 yT) := by rw [hM8.cell, ← hyT.out]; rfl
      have v9 : wg.cell? ⟨b8, 9, none⟩ = some (.bool yb) := by rw [hM8.cell, ← hyb.out]; rfl
      have v10 : wg.cell? ⟨b8, 10, none⟩ = some (.int .i64 ya) := by rw [hM8.cell, ← hya.out]; rfl
      rw [hxG.out] at hUX hlX
      rw [hyG.out] at hUY hlY
      have hidn := fun T => id_neq xI yI T
      have hst := id_stood
      have hgd := id_guard
      obtain ⟨c1, hc1⟩ : ∃ x, (xr != yr) = x := ⟨_, rfl⟩
      obtain ⟨c2, hc2⟩ : ∃ x, (xo != yo) = x := ⟨_, rfl⟩
      obtain ⟨c3, hc3⟩ : ∃ x, Hid ((!decide (xI = yI)) = x) := ⟨_, Lib.hid rfl⟩
      obtain ⟨c4, hc4⟩ : ∃ x, Hid (decide (xG = yG) = x) := ⟨_, Lib.hid rfl⟩
      obtain ⟨c5, hc5⟩ : ∃ x, (xN != yN) = x := ⟨_, rfl⟩
      obtain ⟨c6, hc6⟩ : ∃ x, (xT != yT) = x := ⟨_, rfl⟩
      obtain ⟨c7, hc7⟩ : ∃ x, (xb != yb) = x := ⟨_, rfl⟩
      obtain ⟨c8, hc8⟩ : ∃ x, (xa != ya) = x := ⟨_, rfl⟩
      have hc2x : (xo ^^ yo) = c2 := by rw [← hc2]
      have hc7x : (xb ^^ yb) = c7 := by rw [← hc7]
      rw [hc3.out] at hidn
      have hmE : Hid (mEq X.1.2 Y.1.2 = !(c1 || c2 || c3 || !c4 || c5 || c6 || c7 || c8)) := Lib.hid (by
       unfold mEq
       rw [hxr.out, hyr.out, hxo.out, hyo.out, hxI.out, hyI.out, hxG.out, hyG.out, hxN.out, hyN.out, hxT.out, hyT.out, hxb.out, hyb.out, hxa.out, hya.out, ← hc1, ← hc2, ← hc3.out, ← hc4.out, ← hc5, ← hc6, ← hc7, ← hc8]
       simp [bne, Bool.beq_eq_decide_eq])
      replace hM7g := Lib.hid hM7g
      replace hM8 := Lib.hid hM8
      go_cut [136] from 82 to 135 (fun v T => v = .bool (c1 || c2 || c3 || !c4 || c5 || c6 || c7 || c8) ∧ Below wg.heap.size wg T)
      case first =>
       cases c1 with
       | true =>
        clear u2 u3 u4 u5 u6 u7 u8 u9 u10 v2 v3 v4 v5 v6 v7 v8 v9 v10 hidn hst hgd hc2 hc2x hc3 hc4 hc5 hc6 hc7 hc7x hc8 hUX hUY hmE
        go_wp2_with fail
        go_meet
        exact ⟨rfl, Below.refl _ _⟩
       | false =>
        cases c2 with
        | true =>
         clear u3 u4 u5 u6 u7 u8 u9 u10 v3 v4 v5 v6 v7 v8 v9 v10 hidn hst hgd hc2x hc3 hc4 hc5 hc6 hc7 hc7x hc8 hUX hUY hmE
         cases xo <;> cases yo <;> first | exact absurd hc2 (by decide) | (go_wp2_with fail; go_meet; exact ⟨rfl, Below.refl _ _⟩)
        | false =>
         obtain rfl : xo = yo := by revert hc2; cases xo <;> cases yo <;> decide
         cases c3 with
         | true =>
          clear u6 u7 u8 u9 u10 v6 v7 v8 v9 v10 hc2 hc2x hc4 hc5 hc6 hc7 hc7x hc8 hUX hUY hmE
          go_wp2_with fail
          go_meet
          exact ⟨rfl, Below.refl _ _⟩
         | false =>
          go_wp2_with fail
          refine (SameInts_any X.2.1 Y.2.1 xG.length yG.length xG yG X.2.2 Y.2.2 wg hUX hUY hlX hlY).mono ?_
          rintro e wh ⟨rfl, hbh⟩
          rw [hc4.out]
          replace u7 := (hbh.cell (cell_lt u7)).trans u7
          replace u8 := (hbh.cell (cell_lt u8)).trans u8
          replace u9 := (hbh.cell (cell_lt u9)).trans u9
          replace u10 := (hbh.cell (cell_lt u10)).trans u10
          replace v7 := (hbh.cell (cell_lt v7)).trans v7
          replace v8 := (hbh.cell (cell_lt v8)).trans v8
          replace v9 := (hbh.cell (cell_lt v9)).trans v9
          replace v10 := (hbh.cell (cell_lt v10)).trans v10
          clear u1 u2 u3 u4 u5 u6 v1 v2 v3 v4 v5 v6 hc1 hc2 hc2x hc3 hidn hst hgd hUX hUY
          cases c4 with
          | false =>
           go_wp2_with fail
           go_meet
           exact ⟨rfl, hbh⟩
          | true =>
           cases c5 with
           | true =>
            go_wp2_with fail
            go_meet
            exact ⟨rfl, hbh⟩
           | false =>
            cases c6 with
            | true =>
             go_wp2_with fail
             go_meet
             exact ⟨rfl, hbh⟩
            | false =>
             cases c7 with
             | true =>
              clear hc7x hc8 hmE
              cases xb <;> cases yb <;> first | exact absurd hc7 (by decide) | (go_wp2_with fail; go_meet; exact ⟨rfl, hbh⟩)
             | false =>
              obtain rfl : xb = yb := by revert hc7; cases xb <;> cases yb <;> decide
              cases c8 with
              | true =>
               go_wp2_with fail
               go_meet
               exact ⟨rfl, hbh⟩
              | false =>
               go_wp2_with fail
               go_meet
               exact ⟨rfl, hbh⟩
      case rest =>
       obtain ⟨rfl, hbh⟩ := hcut
       have hSh := Lib.hid (hSg.out.below hbh)
       have hBh := Lib.hid (hBg.out.trans (hbh.mono hBg.out.size))
       obtain ⟨C, hC⟩ : ∃ x, Hid ((c1 || c2 || c3 || !c4 || c5 || c6 || c7 || c8) = x) := ⟨_, Lib.hid rfl⟩
       rw [hC.out] at hmE ⊢
       clear hbh hc1 hc2 hc2x hc7x hc5 hc6 hc7 hc8 u1 u2 u6 u7 u8 u9 u10 v1 v2 v6 v7 v8 v9 v10 u3 u4 u5 v3 v4 v5 hidn hUX hUY x3f z3e
       cases C with
       | true =>
        have hRf : Hid (R = false) := Lib.hid (hmsn.out (by rw [hmsx.out, hmE.out]; rfl))
        go_wp2_with fail
        go_ret
        exact ⟨ret_bool (b := R) hRf.out.symm, hBh.out⟩
       | false =>
        have hnx : Hid ((s.ms.take (j + 1)).all (msF t.ms) = true) := Lib.hid (by rw [htk.out, hmsx.out, hmE.out]; rfl)
        go_wp2_with fail
        go_roundw
        case rel => exact ⟨j + 1, by omega, by go_num, hnx, hSh, hBh⟩
        case measure => simp [intOf]; omega
    ·have hjn : s.ms.take j = s.ms := List.take_of_length_le (by rw [hnm.out]; omega)
     have hmsT : msL s.ms t.ms = true := by
      have := hall.out
      rw [hjn] at this
      exact this
     have hRe3 : Hid (R = vsL vs vt) := Lib.hid (by rw [hRe2.out, hmsT]; rfl)
     clear hall hjn hmsT
     go_wp2_with fail
     go_loopw [9] (fun i wr => ∃ j : Nat, j ≤ vs.length ∧ i = .int .i64 j ∧ Hid ((vs.take j).all (fun v => decide (v ∈ vt)) = true) ∧ Hid (SC wr bx b2 a s L vs a' t L' vt) ∧ Hid (Below w.heap.size w wr)) (fun i _ => vs.length - (intOf i).toNat)
     case atStart => exact ⟨0, Nat.zero_le _, rfl, Lib.hid rfl, hS1, hB1⟩
     case round =>
      clear hS1 hB1 z3
      obtain ⟨i, hi, rfl, hall, hS1, hB1⟩ := hrel
      have z5 := hS1.out.box.c5
      by_cases hlt2 : i < vs.length
      ·obtain ⟨b, off, hp, _, hc⟩ := hS1.out.rf.vat hlt2
       have hix1 : (0 : Int) ≤ (i : Int) := by omega
       have hix2 : (i : Int) < (vs.length : Int) := by omega
       obtain ⟨v, hv⟩ : ∃ v, Hid (vs[i] = v) := ⟨_, Lib.hid rfl⟩
       have htk : (vs.take (i + 1)).all (fun v => decide (v ∈ vt)) = decide (v ∈ vt) := by
        rw [List.take_add_one, List.getElem?_eq_getElem hlt2, List.all_append, hall.out, hv.out]
        simp
       have hno : decide (v ∈ vt) = false → R = false := fun h => by
        rw [hRe3.out]
        unfold vsL
        rw [List.all_eq_false]
        exact ⟨v, by rw [← hv.out]; exact List.getElem_mem hlt2, by rw [h]; simp⟩
       rw [hv.out] at hc
       have x5 := hS1.out.bot.c5
       replace hc := Lib.hid hc
       replace htk := Lib.hid htk
       replace hno := Lib.hid hno
       obtain ⟨wk, rfl⟩ : ∃ wk, wk = wr := ⟨_, rfl⟩
       go_wp2_with fail
       go_loopw [10, 11] (fun f k wq => ∃ m : Nat, m ≤ vt.length ∧ k = .int .i64 m ∧ f = .bool (decide (v ∈ vt.take m)) ∧ Hid (Below wk.heap.size wk wq)) (fun _ k _ => vt.length - (intOf k).toNat)
       case atStart => exact ⟨0, Nat.zero_le _, rfl, rfl, Lib.hid (Below.refl _ _)⟩
       case round =>
        obtain ⟨m, hm, rfl, rfl, hbq⟩ := hrel
        have z5q := (hS1.out.below hbq.out).box.c5
        have x5q := (hS1.out.below hbq.out).bot.c5
        obtain ⟨fo, hfo⟩ : ∃ x, Hid (decide (v ∈ vt.take m) = x) := ⟨_, Lib.hid rfl⟩
        rw [hfo.out]
        by_cases hlt3 : m < vt.length
        ·obtain ⟨b', off', hp', _, hc'⟩ := (hS1.out.below hbq.out).rt.vat hlt3
         obtain ⟨u, hu⟩ : ∃ u, Hid (vt[m] = u) := ⟨_, Lib.hid rfl⟩
         rw [hu.out] at hc'
         have htm : Hid (decide (v ∈ vt.take (m + 1)) = (fo || decide (v = u))) := Lib.hid (by
          rw [← hfo.out, ← Bool.decide_or]
          refine decide_eq_decide.2 ?_
          rw [List.take_add_one, List.getElem?_eq_getElem hlt3, List.mem_append, hu.out]
          simp)
         have hix3 : (0 : Int) ≤ (m : Int) := by omega
         have hix4 : (m : Int) < (vt.length : Int) := by omega
         rw [hp] at z5q
         rw [hp'] at x5q
         go_upto_region 20 with fail
         obtain ⟨wd, hwd⟩ : ∃ wd, Hid (wr.drew = wd) := ⟨_, Lib.hid rfl⟩
         have hw0 : Below wr.heap.size wr wd := by rw [← hwd.out]; exact (Below.refl _ _).drew
         have hbd := Lib.hid (hbq.out.trans (hw0.mono hbq.out.size))
         have hcv : ∀ i' u', (vC v)[i']? = some u' → wd.cell? ⟨b, off + i * 6 + i', none⟩ = some u' := fun i' u' h' => (hbd.out.cell (p := ⟨b, off + i * 6 + i', none⟩) (cell_lt (hc.out i' u' h'))).trans (hc.out i' u' h')
         have hcu : ∀ i' u', (vC u)[i']? = some u' → wd.cell? ⟨b', off' + m * 6 + i', none⟩ = some u' := fun i' u' h' => (hw0.cell (p := ⟨b', off' + m * 6 + i', none⟩) (cell_lt (hc' i' u' h'))).trans (hc' i' u' h')
         replace z5q := (hw0.cell (cell_lt z5q)).trans z5q
         replace x5q := (hw0.cell (cell_lt x5q)).trans x5q
         have hb0 : Below wd.heap.size wd wd := Below.refl _ _
         have hve := fun T => vi_eql v u T
         have hst := v_stood
         have hgd := v_guard
         obtain ⟨eq, heq⟩ : ∃ x, Hid (decide (v = u) = x) := ⟨_, Lib.hid rfl⟩
         rw [heq.out] at hve htm
         replace hcv := Lib.hid hcv
         replace hcu := Lib.hid hcu
         replace hc' := Lib.hid hc'
         replace hp' := Lib.hid hp'
         refine wp_region_D (D := fun T => Below wd.heap.size wd T) (by kernel_rfl) ?_
         rw [hwd.out]
         change wpAnyD _ _ _ _ _ 15 _ _ _
         apply tkD 0 hb0 rfl
         ·intro T hT
          go_simp
          try rfl
         try go_frame
         apply tkD 1 hb0 rfl
         ·intro T hT
          go_simp
          try rfl
         try go_frame
         cases fo with
         | true =>
          apply noD 2 hb0 rfl
          try go_frame
          apply noD 3 hb0 rfl
          try go_frame
          apply noD 4 hb0 rfl
          try go_frame
          apply noD 5 hb0 rfl
          try go_frame
          apply noD 6 hb0 rfl
          try go_frame
          apply noD 7 hb0 rfl
          try go_frame
          apply noD 8 hb0 rfl
          try go_frame
          apply noD 9 hb0 rfl
          try go_frame
          apply noD 10 hb0 rfl
          try go_frame
          apply noD 11 hb0 rfl
          try go_frame
          apply noD 12 hb0 rfl
          try go_frame
          apply tkD 13 hb0 rfl
          ·intro T hT
           go_simp
           try rfl
          try go_frame
          apply tkD 14 hb0 rfl
          ·intro T hT
           go_simp
           try rfl
          try go_frame
          refine wpAnyD_done (by kernel_rfl) ?_ _
          go_wp2_with fail
          refine ⟨⟨m + 1, by omega, by go_num, by rw [htm.out]; rfl, hbd⟩, ?_⟩
          simp [intOf]; omega
         | false =>
          apply tkD 2 hb0 rfl
          ·intro T hT
           have hT0 := (hT.cell (cell_lt z5q)).trans z5q
           go_simp
           try rfl
          try go_frame
          apply tkD 3 hb0 rfl
          ·intro T hT
           have hT0 := (hT.cell (cell_lt z5q)).trans z5q
           go_simp
           try rfl
          try go_frame
          apply tkD 4 hb0 rfl
          ·intro T hT
           have hT0 := (hT.cell (cell_lt z5q)).trans z5q
           go_simp
           try rfl
          try go_frame
          apply tkD 5 hb0 rfl
          ·intro T hT
           have hT0 := (hT.cell (cell_lt z5q)).trans z5q
           go_simp
           try rfl
          try go_frame
          apply tkD 6 hb0 rfl
          ·intro T hT
           exact run_loadVm (x := v) (b := b) (k := off + i * 6) (fun i' u' h' => (hT.cell (p := ⟨b, off + i * 6 + i', none⟩) (cell_lt (hcv.out i' u' h'))).trans (hcv.out i' u' h')) rfl rfl
          try go_frame
          apply tkD 7 hb0 rfl
          ·intro T hT
           have hT0 := (hT.cell (cell_lt x5q)).trans x5q
           go_simp
           try rfl
          try go_frame
          apply tkD 8 hb0 rfl
          ·intro T hT
           have hT0 := (hT.cell (cell_lt x5q)).trans x5q
           go_simp
           try rfl
          try go_frame
          apply tkD 9 hb0 rfl
          ·intro T hT
           have hT0 := (hT.cell (cell_lt x5q)).trans x5q
           go_simp
           try rfl
          try go_frame
          apply tkD 10 hb0 rfl
          ·intro T hT
           have hT0 := (hT.cell (cell_lt x5q)).trans x5q
           go_simp
           try rfl
          try go_frame
          apply tkD 11 hb0 rfl
          ·intro T hT
           exact run_loadVm (x := u) (b := b') (k := off' + m * 6) (fun i' u' h' => (hT.cell (p := ⟨b', off' + m * 6 + i', none⟩) (cell_lt (hcu.out i' u' h'))).trans (hcu.out i' u' h')) rfl rfl
          try go_frame
          apply tkD 12 hb0 rfl
          ·intro T hT
           go_simp
           try rfl
          try go_frame
          apply tkD 13 hb0 rfl
          ·intro T hT
           go_simp
           try rfl
          try go_frame
          apply tkD 14 hb0 rfl
          ·intro T hT
           go_simp
           try rfl
          try go_frame
          refine wpAnyD_done (by kernel_rfl) ?_ _
          go_wp2_with fail
          refine ⟨⟨m + 1, by omega, by go_num, by rw [htm.out]; rfl, hbd⟩, ?_⟩
          simp [intOf]; omega
        ·have hmm : vt.take m = vt := List.take_of_length_le (by omega)
         rw [hmm] at hfo
         have hSq := Lib.hid (hS1.out.below hbq.out)
         have hBq := Lib.hid (hB1.out.trans (hbq.out.mono hB1.out.size))
         replace hmm := Lib.hid hmm
         cases fo with
         | false =>
          have hRf : Hid (R = false) := Lib.hid (hno.out hfo.out)
          go_wp2_with fail
          go_ret
          exact ⟨ret_bool (b := R) hRf.out.symm, hBq.out⟩
         | true =>
          have hnx : Hid ((vs.take (i + 1)).all (fun v => decide (v ∈ vt)) = true) := Lib.hid (by rw [htk.out]; exact hfo.out)
          go_wp2_with fail
          go_roundw
          case rel => exact ⟨i + 1, by omega, by go_num, hnx, hSq, hBq⟩
          case measure => simp [intOf]; omega
      ·have hin : vs.take i = vs := List.take_of_length_le (by omega)
       have hRt : Hid (R = true) := Lib.hid (by
        rw [hRe3.out]
        have := hall.out
        rw [hin] at this
        exact this)
       go_wp2_with fail
       go_ret
       exact ⟨ret_bool (b := R) hRt.out.symm, hB1.out⟩
end Go.Proofs.YtkolilbebkkpdaaDoor

