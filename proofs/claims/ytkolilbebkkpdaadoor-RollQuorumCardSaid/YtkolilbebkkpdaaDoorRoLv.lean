/-
  Where a roll stands among other memory; the document's example.
-/
import Derived.Test.YtkolilbebkkpdaaDoorRoVar
namespace Go.Proofs.YtkolilbebkkpdaaDoor
open Go.RowKit Go.Maps Go.BigFrame
attribute [local go_sem] in_gr

/-- A roll of one's own, made behind w0; what lies in the blocks from L to U is not the roll's. -/
structure Sit (B L U : Nat) (w0 W : World) (y : Lay) (s : RS) : Prop where
  roll : RollAt W y s
  far : ∀ i ∈ y.foot, B ≤ i ∧ (i < L ∨ U ≤ i)
  below : Below B w0 W
  up : U ≤ W.heap.size
  asks : Asks W
theorem Sit.call {B L U : Nat} {w0 W W' : World} {y : Lay} {s : RS} (h : Sit B L U w0 W y s) (hB : B ≤ W.heap.size) (hb : Below W.heap.size W W') : Sit B L U w0 W' y s :=
  ⟨h.roll.below hb, h.far, h.below.trans (hb.mono hB), Nat.le_trans h.up hb.size, h.asks.below hb⟩
theorem Sit.doo {B L U : Nat} {w0 W W' : World} {y : Lay} {s s' : RS} (h : Sit B L U w0 W y s) (h0 : 0 < B) (hB : B ≤ W.heap.size) (hG : GoesTo W y s' W') : ∃ y', Sit B L U w0 W' y' s' ∧ y'.r = y.r ∧ ∀ i, L ≤ i → i < U → W'.heap[i]? = W.heap[i]? := by
  obtain ⟨y', hR, hr, hT⟩ := hG
  refine ⟨y', ⟨hR, fun i hi => ?_, h.below.trans (hT.below (fun i hi => (h.far i hi).1) hB), Nat.le_trans h.up hT.size, h.asks.turn hT fun hz => by have := (h.far 0 hz).1; omega⟩, hr, fun i h1 h2 => hT.blk i (by have := h.up; omega) fun hi => by have := (h.far i hi).2; omega⟩
  rcases hT.new i hi with h1 | h1
  · exact h.far i h1
  · exact ⟨Nat.le_trans hB h1, .inr (Nat.le_trans h.up h1)⟩
theorem OpAt.block {w w' : World} {b : Nat} {o : OpI} {gp : Option Addr} {gc : Nat} (h : OpAt w b o gp gc) (hb : w'.heap[b]? = w.heap[b]?) : OpAt w' b o gp gc := hb.trans h
def eA : OpI := ⟨1, 1, 1, 0, 0, 0, 0, 0, ⟨0, 0, 0⟩, [], 3, 0⟩
theorem eA_ok : eA.Ok := by constructor <;> simp [eA]
theorem eA_at (w : World) : OpAt (w.alloc (.cells (opC eA none 0) 42)) w.heap.size eA none 0 := OpAt.made w eA none 0
def eB : OpI := ⟨1, 2, 2, 0, 2, 0, 0, 2, ⟨0, 0, 0⟩, [], 0, 0⟩
theorem eB_ok : eB.Ok := by constructor <;> simp [eB]
theorem eB_at (w : World) : OpAt (w.alloc (.cells (opC eB none 0) 42)) w.heap.size eB none 0 := OpAt.made w eB none 0
def eC : OpI := ⟨2, 1, 3, 0, 0, 0, 2, 0, ⟨0, 0, 0⟩, [], 0, 0⟩
theorem eC_ok : eC.Ok := by constructor <;> simp [eC]
theorem eC_at (w : World) : OpAt (w.alloc (.cells (opC eC none 0) 42)) w.heap.size eC none 0 := OpAt.made w eC none 0
def eD : OpI := ⟨3, 1, 3, 0, 0, 0, 2, 0, ⟨0, 0, 0⟩, [], 0, 0⟩
theorem eD_ok : eD.Ok := by constructor <;> simp [eD]
theorem eD_at (w : World) : OpAt (w.alloc (.cells (opC eD none 0) 42)) w.heap.size eD none 0 := OpAt.made w eD none 0
theorem run_loadOp {W : World} {b : Nat} {n : OpI} {gp : Option Addr} {gc : Nat} {ρ : Operand → Value} {o : Oper} {x : Operand} (h : OpAt W b n gp gc) (hop : o.op = .load 42 x) (hx : ρ x = .pointer (some ⟨b, 0, none⟩)) : (execOp ρ o).run Tryd.prog W = .ok (.value (.agg (opC n gp gc))) W := by
  unfold execOp
  simp only [hop, hx, Instr.loadAt, Instr.sureAddr, Sem.run_bind, Sem.run_pure, Result.andThen_ok, h.call]
def sA : RS := ⟨[1], [], [(1, ⟨3, none⟩)], 3⟩
def sB : RS := ⟨[1, 2], [], [(1, ⟨3, none⟩), (2, ⟨2, none⟩)], 3⟩
structure Four (w W : World) : Prop where
  a : OpAt W w.heap.size eA none 0
  b : OpAt W (w.heap.size + 1) eB none 0
  c : OpAt W (w.heap.size + 1 + 1) eC none 0
  d : OpAt W (w.heap.size + 1 + 1 + 1) eD none 0
  hb : Below w.heap.size w W
  hz : W.heap.size = w.heap.size + 4
theorem Four.made (w : World) : Four w ((((w.alloc (.cells (opC eA none 0) 42)).alloc (.cells (opC eB none 0) 42)).alloc (.cells (opC eC none 0) 42)).alloc (.cells (opC eD none 0) 42)) := by
  have l1 := eA_at w
  have l2 := eB_at (w.alloc (.cells (opC eA none 0) 42))
  have l3 := eC_at ((w.alloc (.cells (opC eA none 0) 42)).alloc (.cells (opC eB none 0) 42))
  have l4 := eD_at (((w.alloc (.cells (opC eA none 0) 42)).alloc (.cells (opC eB none 0) 42)).alloc (.cells (opC eC none 0) 42))
  have b1 := Below.lit w (.cells (opC eA none 0) 42)
  have b2 := Below.lit (w.alloc (.cells (opC eA none 0) 42)) (.cells (opC eB none 0) 42)
  have b3 := Below.lit ((w.alloc (.cells (opC eA none 0) 42)).alloc (.cells (opC eB none 0) 42)) (.cells (opC eC none 0) 42)
  have b4 := Below.lit (((w.alloc (.cells (opC eA none 0) 42)).alloc (.cells (opC eB none 0) 42)).alloc (.cells (opC eC none 0) 42)) (.cells (opC eD none 0) 42)
  simp only [World.size_alloc] at l2 l3 l4 b2 b3 b4
  have h1 := l1.below b2 (by omega)
  have h2 := h1.below b3 (by omega)
  have h3 := l2.below b3 (by omega)
  exact ⟨h2.below b4 (by omega), h3.below b4 (by omega), l3.below b4 (by omega), l4, ((b1.trans (b2.mono (by omega))).trans (b3.mono (by omega))).trans (b4.mono (by omega)), by simp⟩
set_option maxRecDepth 100000 in
set_option maxHeartbeats 8000000 in
theorem lives_any (w : World) (hA : Asks w) :
    Calls Tryd.prog 20 #[] w fun e w' => e = .returned (.bool true) ∧ Below w.heap.size w w' := by
  have h0 : 0 < w.heap.size := cell_lt hA.a0
  go_enter Tryd.func20, Tryd.ntmps20
  go_wp2_with fail
  refine (Cards_any _).mono ?_
  rintro e w1 ⟨v, rfl, hown, hb1⟩
  obtain ⟨p, c, rfl, hc, hRd, _⟩ := hown.u
  go_wp2_with fail
  refine (New_any _ p c hRd).mono ?_
  rintro e w2 ⟨y, rfl, hR2, hb2, hf2⟩
  have hB2 := hb1.trans (hb2.mono hb1.size)
  obtain ⟨W, hW, hF⟩ := nameW (p := fun W => Four w2 W) (Four.made w2)
  have hB : w.heap.size ≤ w2.heap.size := hB2.size
  have hS_W : Sit w.heap.size w2.heap.size (w2.heap.size + 4) w W y RS.new := ⟨hR2.below hF.hb, fun i hi => ⟨Nat.le_trans hb1.size (hf2 i hi), .inl (hR2.lt i hi)⟩, hB2.trans (hF.hb.mono hB), by rw [hF.hz]; exact Nat.le_refl _, (hA.below hB2).below hF.hb⟩
  have hA_W := hF.a
  have hB_W := hF.b
  have hC_W := hF.c
  have hD_W := hF.d
  have hOk_W : RS.new.Ok 0 := new_ok 0
  have hBW_W : w.heap.size ≤ W.heap.size := Nat.le_trans hB hF.hb.size
  go_wp2_with (first | (rw [hW.out]) | (first | (refine wpL_build rfl 42 #[(0, Operand.const (Value.int IntKind.i64 1)), (1, Operand.const (Value.int IntKind.i64 1)), (2, Operand.const (Value.int IntKind.i64 1)), (16, Operand.const (Value.int IntKind.i64 3))] rfl (opC eA none 0) (by kernel_rfl) ?_; simp only [Act.put, List.setIfInBounds_toArray, List.set_cons_succ, List.set_cons_zero]) | (refine wpL_build rfl 42 #[(0, Operand.const (Value.int IntKind.i64 1)), (1, Operand.const (Value.int IntKind.i64 2)), (2, Operand.const (Value.int IntKind.i64 2)), (5, Operand.const (Value.int IntKind.i64 2)), (8, Operand.const (Value.int IntKind.i64 2))] rfl (opC eB none 0) (by kernel_rfl) ?_; simp only [Act.put, List.setIfInBounds_toArray, List.set_cons_succ, List.set_cons_zero]) | (refine wpL_build rfl 42 #[(0, Operand.const (Value.int IntKind.i64 2)), (1, Operand.const (Value.int IntKind.i64 1)), (2, Operand.const (Value.int IntKind.i64 3)), (7, Operand.const (Value.int IntKind.i64 2))] rfl (opC eC none 0) (by kernel_rfl) ?_; simp only [Act.put, List.setIfInBounds_toArray, List.set_cons_succ, List.set_cons_zero]) | (refine wpL_build rfl 42 #[(0, Operand.const (Value.int IntKind.i64 3)), (1, Operand.const (Value.int IntKind.i64 1)), (2, Operand.const (Value.int IntKind.i64 3)), (7, Operand.const (Value.int IntKind.i64 2))] rfl (opC eD none 0) (by kernel_rfl) ?_; simp only [Act.put, List.setIfInBounds_toArray, List.set_cons_succ, List.set_cons_zero]) | (refine wpL_alloc rfl rfl ?_; simp only [Act.put, List.setIfInBounds_toArray, List.set_cons_succ, List.set_cons_zero]) | (refine wpL_store rfl _ _ rfl (n := eA) (gp := none) (gc := 0) (by first | rfl | (simp only [World.size_alloc]; rfl)) rfl ?_; try simp only [Act.put]) | (refine wpL_store rfl _ _ rfl (n := eB) (gp := none) (gc := 0) (by first | rfl | (simp only [World.size_alloc]; rfl)) rfl ?_; try simp only [Act.put]) | (refine wpL_store rfl _ _ rfl (n := eC) (gp := none) (gc := 0) (by first | rfl | (simp only [World.size_alloc]; rfl)) rfl ?_; try simp only [Act.put]) | (refine wpL_store rfl _ _ rfl (n := eD) (gp := none) (gc := 0) (by first | rfl | (simp only [World.size_alloc]; rfl)) rfl ?_; try simp only [Act.put]) | fail) | fail)
  simp only [World.size_alloc]
  clear hown hRd hc hF
  have hx : ∀ z : GrIn W, RollAt z.at_ y RS.new := fun z => hS_W.roll.below z.gr
  have hax : ∀ z : GrIn W, Asks z.at_ := fun z => hS_W.asks.below z.gr
  have hox : ∀ T, (∃ z : GrIn W, T = z.at_) → OpAt T (w2.heap.size + 1) eB none 0 := fun T ⟨z, hz⟩ => by rw [hz]; exact hB_W.below z.gr (cell_lt hB_W.cb)
  have hval : RS.may RS.new eB = 15 := by decide
  refine wp_region_gr (by kernel_rfl) (by kernel_rfl) ?_
  repeat (first
    | (go_big_quiet_want; refine quiet_whole _ rfl rfl hox ?_; simp only [Act.put, List.setIfInBounds_toArray, List.set_cons_succ, List.set_cons_zero]; go_big_quiet_on)
    | go_big_quiet_step (first
      | (go_at_call 14; rename_i z; refine (Name_any eB none 0 1 _ (by decide) (by decide)).mono ?_; rintro e w' ⟨rfl, hbz⟩; exact ⟨rfl, z.on hbz⟩)
      | (go_at_call 16; rename_i z; refine (May_any _ y RS.new eB none 0 (eB.name 1) 0 (by decide) (hax z) (hx z) hOk_W eB_ok ⟨rfl, .nil, fun _ h => (by cases h)⟩).mono ?_; rintro e w' ⟨rfl, hbz⟩; rw [hval]; exact ⟨rfl, z.on hbz⟩)))
  refine wpQuiet_nil ?_
  intro V1 hw10'
  obtain ⟨⟨_, hw_V1⟩, rfl⟩ := hw10'
  clear hx hax hox hval
  have hS_V1 := hS_W.call hBW_W hw_V1
  have hBW_V1 := Nat.le_trans hBW_W hw_V1.size
  have hOk_V1 := hOk_W
  have hA_V1 := hA_W.below hw_V1 (cell_lt hA_W.cb)
  have hB_V1 := hB_W.below hw_V1 (cell_lt hB_W.cb)
  have hC_V1 := hC_W.below hw_V1 (cell_lt hC_W.cb)
  have hD_V1 := hD_W.below hw_V1 (cell_lt hD_W.cb)
  change Exit.then _ _ _ _ V1
  go_wp2_with fail
  have hx : ∀ z : GrIn V1, RollAt z.at_ y RS.new := fun z => hS_V1.roll.below z.gr
  have hax : ∀ z : GrIn V1, Asks z.at_ := fun z => hS_V1.asks.below z.gr
  have hox : ∀ T, (∃ z : GrIn V1, T = z.at_) → OpAt T w2.heap.size eA none 0 := fun T ⟨z, hz⟩ => by rw [hz]; exact hA_V1.below z.gr (cell_lt hA_V1.cb)
  have hval : RS.may RS.new eA = 0 := by decide
  refine wp_region_gr (by kernel_rfl) (by kernel_rfl) ?_
  repeat (first
    | (go_big_quiet_want; refine quiet_whole _ rfl rfl hox ?_; simp only [Act.put, List.setIfInBounds_toArray, List.set_cons_succ, List.set_cons_zero]; go_big_quiet_on)
    | go_big_quiet_step (first
      | (go_at_call 14; rename_i z; refine (Name_any eA none 0 0 _ (by decide) (by decide)).mono ?_; rintro e w' ⟨rfl, hbz⟩; exact ⟨rfl, z.on hbz⟩)
      | (go_at_call 16; rename_i z; refine (May_any _ y RS.new eA none 0 (eA.name 0) 0 (by decide) (hax z) (hx z) hOk_V1 eA_ok ⟨rfl, .nil, fun _ h => (by cases h)⟩).mono ?_; rintro e w' ⟨rfl, hbz⟩; rw [hval]; exact ⟨rfl, z.on hbz⟩)))
  refine wpQuiet_nil ?_
  intro V2 hw10'
  obtain ⟨⟨_, hw_V2⟩, rfl⟩ := hw10'
  clear hx hax hox hval
  have hS_V2 := hS_V1.call hBW_V1 hw_V2
  have hBW_V2 := Nat.le_trans hBW_V1 hw_V2.size
  have hOk_V2 := hOk_V1
  have hA_V2 := hA_V1.below hw_V2 (cell_lt hA_V1.cb)
  have hB_V2 := hB_V1.below hw_V2 (cell_lt hB_V1.cb)
  have hC_V2 := hC_V1.below hw_V2 (cell_lt hC_V1.cb)
  have hD_V2 := hD_V1.below hw_V2 (cell_lt hD_V1.cb)
  change Exit.then _ _ _ _ V2
  go_wp2_with fail
  refine wp_region_D (D := fun T => OpAt T w2.heap.size eA none 0) (by kernel_rfl) ?_
  change wpAnyD _ _ _ _ _ 5 _ _ _
  have hd_V2 : OpAt V2.drew w2.heap.size eA none 0 := hA_V2
  refine wpAnyD_take (i := 0) (v := .pointer (some ⟨y.r, 0, none⟩)) hd_V2 rfl (by kernel_rfl) (by kernel_rfl) (by kernel_rfl) (fun _ _ _ h => h) rfl (fun T _ => rfl) ?_
  simp only [Act.put, List.setIfInBounds_toArray]
  refine wpAnyD_take (i := 1) (v := .agg (opC eA none 0)) hd_V2 rfl (by kernel_rfl) (by kernel_rfl) (by kernel_rfl) (fun _ _ _ h => h) rfl (fun T hT => run_loadOp hT rfl rfl) ?_
  simp only [Act.put]
  refine wpAnyD_take (i := 2) (v := .agg (opC eA none 0)) hd_V2 rfl (by kernel_rfl) (by kernel_rfl) (by kernel_rfl) (fun _ _ _ h => h) rfl (fun T hT => run_loadOp hT rfl rfl) ?_
  simp only [Act.put]
  refine wpAnyD_one (i := 3) (by kernel_rfl) rfl rfl (fun K hK => ?_)
  go_simp
  have hdr_V2 : Below V2.heap.size V2 V2.drew := (Below.refl _ _).drew
  refine (Name_any eA none 0 0 _ (by decide) (by decide)).mono ?_
  rintro e w' ⟨rfl, hbn⟩
  have hbn2 := hdr_V2.trans (hbn.mono hdr_V2.size)
  have hS2 := hS_V2.call hBW_V2 hbn2
  refine hK _ _ ⟨hA_V2.below hbn2 (cell_lt hA_V2.cb), ?_⟩
  clear hK K
  try simp only [Act.put, List.setIfInBounds_toArray, List.set_cons_succ, List.set_cons_zero]
  refine wpAnyD_one (i := 4) (by kernel_rfl) rfl rfl (fun K hK => ?_)
  go_simp
  refine (Do_any _ y RS.new eA none 0 (eA.name 0) 0 (by decide) hS2.roll hOk_V2 eA_ok ⟨rfl, .nil, fun _ h => (by cases h)⟩ (by decide)).mono ?_
  rintro e V3 ⟨rfl, hG⟩
  rw [show RS.act RS.new eA (eA.name 0) = sA by rfl] at hG
  obtain ⟨y3, hS_V3, hr_V3, hkeep⟩ := hS2.doo h0 (Nat.le_trans hBW_V2 hbn2.size) hG
  have hA_V3 : OpAt V3 w2.heap.size eA none 0 := (hA_V2.below hbn2 (cell_lt hA_V2.cb)).block (hkeep _ (by omega) (by omega))
  have hB_V3 : OpAt V3 (w2.heap.size + 1) eB none 0 := (hB_V2.below hbn2 (cell_lt hB_V2.cb)).block (hkeep _ (by omega) (by omega))
  have hC_V3 : OpAt V3 (w2.heap.size + 1 + 1) eC none 0 := (hC_V2.below hbn2 (cell_lt hC_V2.cb)).block (hkeep _ (by omega) (by omega))
  have hD_V3 : OpAt V3 (w2.heap.size + 1 + 1 + 1) eD none 0 := (hD_V2.below hbn2 (cell_lt hD_V2.cb)).block (hkeep _ (by omega) (by omega))
  refine hK _ _ ⟨hA_V3, ?_⟩
  clear hK K hkeep hS2 hbn hbn2
  try simp only [Act.put, List.setIfInBounds_toArray, List.set_cons_succ, List.set_cons_zero]
  refine wpAnyD_done (by kernel_rfl) ?_ _
  have hBW_V3 : w.heap.size ≤ V3.heap.size := Nat.le_trans (by omega) hS_V3.up
  have hOk_V3 : RS.Ok sA 1 := act_ok hOk_V2 eA_ok (eA.name 0) (by decide) (by decide)
  rw [← hr_V3]
  replace hr_V3 := Lib.hid hr_V3
  change Exit.then _ _ _ _ V3
  go_wp2_with fail
  have hx : ∀ z : GrIn V3, RollAt z.at_ y3 sA := fun z => hS_V3.roll.below z.gr
  have hax : ∀ z : GrIn V3, Asks z.at_ := fun z => hS_V3.asks.below z.gr
  have hox : ∀ T, (∃ z : GrIn V3, T = z.at_) → OpAt T (w2.heap.size + 1) eB none 0 := fun T ⟨z, hz⟩ => by rw [hz]; exact hB_V3.below z.gr (cell_lt hB_V3.cb)
  have hval : RS.may sA eB = 0 := by decide
  refine wp_region_gr (by kernel_rfl) (by kernel_rfl) ?_
  repeat (first
    | (go_big_quiet_want; refine quiet_whole _ rfl rfl hox ?_; simp only [Act.put, List.setIfInBounds_toArray, List.set_cons_succ, List.set_cons_zero]; go_big_quiet_on)
    | go_big_quiet_step (first
      | (go_at_call 14; rename_i z; refine (Name_any eB none 0 1 _ (by decide) (by decide)).mono ?_; rintro e w' ⟨rfl, hbz⟩; exact ⟨rfl, z.on hbz⟩)
      | (go_at_call 16; rename_i z; refine (May_any _ y3 sA eB none 0 (eB.name 1) 1 (by decide) (hax z) (hx z) hOk_V3 eB_ok ⟨rfl, .nil, fun _ h => (by cases h)⟩).mono ?_; rintro e w' ⟨rfl, hbz⟩; rw [hval]; exact ⟨rfl, z.on hbz⟩)))
  refine wpQuiet_nil ?_
  intro V4 hw10'
  obtain ⟨⟨_, hw_V4⟩, rfl⟩ := hw10'
  clear hx hax hox hval
  have hS_V4 := hS_V3.call hBW_V3 hw_V4
  have hBW_V4 := Nat.le_trans hBW_V3 hw_V4.size
  have hOk_V4 := hOk_V3
  have hA_V4 := hA_V3.below hw_V4 (cell_lt hA_V3.cb)
  have hB_V4 := hB_V3.below hw_V4 (cell_lt hB_V3.cb)
  have hC_V4 := hC_V3.below hw_V4 (cell_lt hC_V3.cb)
  have hD_V4 := hD_V3.below hw_V4 (cell_lt hD_V3.cb)
  change Exit.then _ _ _ _ V4
  go_wp2_with fail
  refine wp_region_D (D := fun T => OpAt T (w2.heap.size + 1) eB none 0) (by kernel_rfl) ?_
  change wpAnyD _ _ _ _ _ 5 _ _ _
  have hd_V4 : OpAt V4.drew (w2.heap.size + 1) eB none 0 := hB_V4
  refine wpAnyD_take (i := 0) (v := .pointer (some ⟨y3.r, 0, none⟩)) hd_V4 rfl (by kernel_rfl) (by kernel_rfl) (by kernel_rfl) (fun _ _ _ h => h) rfl (fun T _ => rfl) ?_
  simp only [Act.put, List.setIfInBounds_toArray]
  refine wpAnyD_take (i := 1) (v := .agg (opC eB none 0)) hd_V4 rfl (by kernel_rfl) (by kernel_rfl) (by kernel_rfl) (fun _ _ _ h => h) rfl (fun T hT => run_loadOp hT rfl rfl) ?_
  simp only [Act.put]
  refine wpAnyD_take (i := 2) (v := .agg (opC eB none 0)) hd_V4 rfl (by kernel_rfl) (by kernel_rfl) (by kernel_rfl) (fun _ _ _ h => h) rfl (fun T hT => run_loadOp hT rfl rfl) ?_
  simp only [Act.put]
  refine wpAnyD_one (i := 3) (by kernel_rfl) rfl rfl (fun K hK => ?_)
  go_simp
  have hdr_V4 : Below V4.heap.size V4 V4.drew := (Below.refl _ _).drew
  refine (Name_any eB none 0 1 _ (by decide) (by decide)).mono ?_
  rintro e w' ⟨rfl, hbn⟩
  have hbn2 := hdr_V4.trans (hbn.mono hdr_V4.size)
  have hS2 := hS_V4.call hBW_V4 hbn2
  refine hK _ _ ⟨hB_V4.below hbn2 (cell_lt hB_V4.cb), ?_⟩
  clear hK K
  try simp only [Act.put, List.setIfInBounds_toArray, List.set_cons_succ, List.set_cons_zero]
  refine wpAnyD_one (i := 4) (by kernel_rfl) rfl rfl (fun K hK => ?_)
  go_simp
  refine (Do_any _ y3 sA eB none 0 (eB.name 1) 1 (by decide) hS2.roll hOk_V4 eB_ok ⟨rfl, .nil, fun _ h => (by cases h)⟩ (by decide)).mono ?_
  rintro e V5 ⟨rfl, hG⟩
  rw [show RS.act sA eB (eB.name 1) = sB by rfl] at hG
  obtain ⟨y5, hS_V5, hr_V5, hkeep⟩ := hS2.doo h0 (Nat.le_trans hBW_V4 hbn2.size) hG
  have hA_V5 : OpAt V5 w2.heap.size eA none 0 := (hA_V4.below hbn2 (cell_lt hA_V4.cb)).block (hkeep _ (by omega) (by omega))
  have hB_V5 : OpAt V5 (w2.heap.size + 1) eB none 0 := (hB_V4.below hbn2 (cell_lt hB_V4.cb)).block (hkeep _ (by omega) (by omega))
  have hC_V5 : OpAt V5 (w2.heap.size + 1 + 1) eC none 0 := (hC_V4.below hbn2 (cell_lt hC_V4.cb)).block (hkeep _ (by omega) (by omega))
  have hD_V5 : OpAt V5 (w2.heap.size + 1 + 1 + 1) eD none 0 := (hD_V4.below hbn2 (cell_lt hD_V4.cb)).block (hkeep _ (by omega) (by omega))
  refine hK _ _ ⟨hB_V5, ?_⟩
  clear hK K hkeep hS2 hbn hbn2
  try simp only [Act.put, List.setIfInBounds_toArray, List.set_cons_succ, List.set_cons_zero]
  refine wpAnyD_done (by kernel_rfl) ?_ _
  have hBW_V5 : w.heap.size ≤ V5.heap.size := Nat.le_trans (by omega) hS_V5.up
  have hOk_V5 : RS.Ok sB 2 := act_ok hOk_V4 eB_ok (eB.name 1) (by decide) (by decide)
  rw [← hr_V5]
  replace hr_V5 := Lib.hid hr_V5
  change Exit.then _ _ _ _ V5
  go_wp2_with fail
  refine wp_region_D (D := fun T => Below V5.heap.size V5 T) (by kernel_rfl) ?_
  change wpAnyD _ _ _ _ _ 48 _ _ _
  have hx : ∀ T, Below V5.heap.size V5 T → RollAt T y5 sB := fun T h => hS_V5.roll.below h
  have hax : ∀ T, Below V5.heap.size V5 T → Asks T := fun T h => hS_V5.asks.below h
  have hcx : ∀ T, Below V5.heap.size V5 T → OpAt T (w2.heap.size + 1 + 1) eC none 0 := fun T h => hC_V5.below h (cell_lt hC_V5.cb)
  have hdx : ∀ T, Below V5.heap.size V5 T → OpAt T (w2.heap.size + 1 + 1 + 1) eD none 0 := fun T h => hD_V5.below h (cell_lt hD_V5.cb)
  have hbz : Below V5.heap.size V5 V5.drew := (Below.refl _ _).drew
  clear hA_V5 hB_V5 hC_V5 hD_V5
  replace hx := Lib.hid hx
  replace hax := Lib.hid hax
  replace hcx := Lib.hid hcx
  replace hdx := Lib.hid hdx
  refine wpAnyD_takeG (i := 0) (v := .int .i64 15) hbz rfl (by kernel_rfl) (by kernel_rfl) (by kernel_rfl) (fun _ _ _ h => h) (by kernel_rfl) (fun T _ => by go_simp) ?_
  simp only [Act.put, List.setIfInBounds_toArray]
  refine wpAnyD_takeG (i := 1) (v := .bool true) hbz rfl (by kernel_rfl) (by kernel_rfl) (by kernel_rfl) (fun _ _ _ h => h) (by kernel_rfl) (fun T _ => by go_simp) ?_
  simp only [Act.put]
  refine wpAnyD_takeG (i := 2) (v := .bool true) hbz rfl (by kernel_rfl) (by kernel_rfl) (by kernel_rfl) (fun _ _ _ h => h) (by kernel_rfl) (fun T _ => by go_simp) ?_
  simp only [Act.put]
  refine wpAnyD_takeG (i := 3) (v := .int .i64 0) hbz rfl (by kernel_rfl) (by kernel_rfl) (by kernel_rfl) (fun _ _ _ h => h) (by kernel_rfl) (fun T _ => by go_simp) ?_
  simp only [Act.put]
  refine wpAnyD_takeG (i := 4) (v := .bool true) hbz rfl (by kernel_rfl) (by kernel_rfl) (by kernel_rfl) (fun _ _ _ h => h) (by kernel_rfl) (fun T _ => by go_simp) ?_
  simp only [Act.put]
  refine wpAnyD_takeG (i := 5) (v := .bool true) hbz rfl (by kernel_rfl) (by kernel_rfl) (by kernel_rfl) (fun _ _ _ h => h) (by kernel_rfl) (fun T _ => by go_simp) ?_
  simp only [Act.put]
  refine wpAnyD_takeG (i := 6) (v := .bool true) hbz rfl (by kernel_rfl) (by kernel_rfl) (by kernel_rfl) (fun _ _ _ h => h) (by kernel_rfl) (fun T _ => by go_simp) ?_
  simp only [Act.put]
  refine wpAnyD_takeG (i := 7) (v := .int .i64 0) hbz rfl (by kernel_rfl) (by kernel_rfl) (by kernel_rfl) (fun _ _ _ h => h) (by kernel_rfl) (fun T _ => by go_simp) ?_
  simp only [Act.put]
  refine wpAnyD_takeG (i := 8) (v := .bool true) hbz rfl (by kernel_rfl) (by kernel_rfl) (by kernel_rfl) (fun _ _ _ h => h) (by kernel_rfl) (fun T _ => by go_simp) ?_
  simp only [Act.put]
  refine wpAnyD_takeG (i := 9) (v := .bool true) hbz rfl (by kernel_rfl) (by kernel_rfl) (by kernel_rfl) (fun _ _ _ h => h) (by kernel_rfl) (fun T _ => by go_simp) ?_
  simp only [Act.put]
  refine wpAnyD_takeG (i := 10) (v := .bool true) hbz rfl (by kernel_rfl) (by kernel_rfl) (by kernel_rfl) (fun _ _ _ h => h) (by kernel_rfl) (fun T _ => by go_simp) ?_
  simp only [Act.put]
  refine wpAnyD_takeG (i := 11) (v := .pointer (some ⟨y5.r, 0, none⟩)) hbz rfl (by kernel_rfl) (by kernel_rfl) (by kernel_rfl) (fun _ _ _ h => h) (by kernel_rfl) (fun T _ => by go_simp) ?_
  simp only [Act.put]
  refine wpAnyD_oneG (i := 12) (by kernel_rfl) rfl (by kernel_rfl) (fun K hK => ?_)
  go_simp
  refine (Role_any _ y5 sB 1 (hx.out _ hbz) (by unfold i64ok; omega)).mono ?_
  rintro e _ ⟨rfl, rfl⟩
  refine hK _ _ ⟨hbz, ?_⟩
  clear hK K
  try simp only [Act.put, List.setIfInBounds_toArray, List.set_cons_succ, List.set_cons_zero]
  rw [show RS.role sB 1 = 3 by decide]
  refine wpAnyD_takeG (i := 13) (v := .bool true) hbz rfl (by kernel_rfl) (by kernel_rfl) (by kernel_rfl) (fun _ _ _ h => h) (by kernel_rfl) (fun T _ => by go_simp) ?_
  simp only [Act.put, List.setIfInBounds_toArray]
  refine wpAnyD_takeG (i := 14) (v := .bool true) hbz rfl (by kernel_rfl) (by kernel_rfl) (by kernel_rfl) (fun _ _ _ h => h) (by kernel_rfl) (fun T _ => by go_simp) ?_
  simp only [Act.put]
  refine wpAnyD_takeG (i := 15) (v := .bool true) hbz rfl (by kernel_rfl) (by kernel_rfl) (by kernel_rfl) (fun _ _ _ h => h) (by kernel_rfl) (fun T _ => by go_simp) ?_
  simp only [Act.put]
  refine wpAnyD_takeG (i := 16) (v := .pointer (some ⟨y5.r, 0, none⟩)) hbz rfl (by kernel_rfl) (by kernel_rfl) (by kernel_rfl) (fun _ _ _ h => h) (by kernel_rfl) (fun T _ => by go_simp) ?_
  simp only [Act.put]
  refine wpAnyD_oneG (i := 17) (by kernel_rfl) rfl (by kernel_rfl) (fun K hK => ?_)
  go_simp
  refine (Role_any _ y5 sB 2 (hx.out _ hbz) (by unfold i64ok; omega)).mono ?_
  rintro e _ ⟨rfl, rfl⟩
  refine hK _ _ ⟨hbz, ?_⟩
  clear hK K
  try simp only [Act.put, List.setIfInBounds_toArray, List.set_cons_succ, List.set_cons_zero]
  rw [show RS.role sB 2 = 2 by decide]
  refine wpAnyD_takeG (i := 18) (v := .bool true) hbz rfl (by kernel_rfl) (by kernel_rfl) (by kernel_rfl) (fun _ _ _ h => h) (by kernel_rfl) (fun T _ => by go_simp) ?_
  simp only [Act.put, List.setIfInBounds_toArray]
  refine wpAnyD_takeG (i := 19) (v := .bool true) hbz rfl (by kernel_rfl) (by kernel_rfl) (by kernel_rfl) (fun _ _ _ h => h) (by kernel_rfl) (fun T _ => by go_simp) ?_
  simp only [Act.put]
  refine wpAnyD_takeG (i := 20) (v := .bool true) hbz rfl (by kernel_rfl) (by kernel_rfl) (by kernel_rfl) (fun _ _ _ h => h) (by kernel_rfl) (fun T _ => by go_simp) ?_
  simp only [Act.put]
  refine wpAnyD_takeG (i := 21) (v := .pointer (some ⟨y5.r, 0, none⟩)) hbz rfl (by kernel_rfl) (by kernel_rfl) (by kernel_rfl) (fun _ _ _ h => h) (by kernel_rfl) (fun T _ => by go_simp) ?_
  simp only [Act.put]
  refine wpAnyD_takeG (i := 22) (v := .agg (opC eC none 0)) hbz rfl (by kernel_rfl) (by kernel_rfl) (by kernel_rfl) (fun _ _ _ h => h) (by kernel_rfl) (fun T hT => run_loadOp (hcx.out T hT) rfl rfl) ?_
  simp only [Act.put]
  refine wpAnyD_takeG (i := 23) (v := .agg (opC eC none 0)) hbz rfl (by kernel_rfl) (by kernel_rfl) (by kernel_rfl) (fun _ _ _ h => h) (by kernel_rfl) (fun T hT => run_loadOp (hcx.out T hT) rfl rfl) ?_
  simp only [Act.put]
  refine wpAnyD_oneG (i := 24) (by kernel_rfl) rfl (by kernel_rfl) (fun K hK => ?_)
  go_simp
  refine (Name_any eC none 0 0 _ (by decide) (by decide)).mono ?_
  rintro e T24 ⟨rfl, hq24⟩
  have hb24 : Below V5.heap.size V5 T24 := hbz.trans (hq24.mono hbz.size)
  refine hK _ _ ⟨hb24, ?_⟩
  clear hK K
  try simp only [Act.put, List.setIfInBounds_toArray, List.set_cons_succ, List.set_cons_zero]
  refine wpAnyD_oneG (i := 25) (by kernel_rfl) rfl (by kernel_rfl) (fun K hK => ?_)
  go_simp
  refine (May_any _ y5 sB eC none 0 (eC.name 0) 2 (by decide) (hax.out _ hb24) (hx.out _ hb24) hOk_V5 eC_ok ⟨rfl, .nil, fun _ h => (by cases h)⟩).mono ?_
  rintro e T25 ⟨rfl, hq25⟩
  have hb25 : Below V5.heap.size V5 T25 := hb24.trans (hq25.mono hb24.size)
  refine hK _ _ ⟨hb25, ?_⟩
  clear hK K
  try simp only [Act.put, List.setIfInBounds_toArray, List.set_cons_succ, List.set_cons_zero]
  rw [show RS.may sB eC = 0 by decide]
  refine wpAnyD_takeG (i := 26) (v := .bool true) hb25 rfl (by kernel_rfl) (by kernel_rfl) (by kernel_rfl) (fun _ _ _ h => h) (by kernel_rfl) (fun T _ => by go_simp) ?_
  simp only [Act.put, List.setIfInBounds_toArray]
  refine wpAnyD_takeG (i := 27) (v := .bool true) hb25 rfl (by kernel_rfl) (by kernel_rfl) (by kernel_rfl) (fun _ _ _ h => h) (by kernel_rfl) (fun T _ => by go_simp) ?_
  simp only [Act.put]
  refine wpAnyD_takeG (i := 28) (v := .bool true) hb25 rfl (by kernel_rfl) (by kernel_rfl) (by kernel_rfl) (fun _ _ _ h => h) (by kernel_rfl) (fun T _ => by go_simp) ?_
  simp only [Act.put]
  refine wpAnyD_takeG (i := 29) (v := .pointer (some ⟨y5.r, 0, none⟩)) hb25 rfl (by kernel_rfl) (by kernel_rfl) (by kernel_rfl) (fun _ _ _ h => h) (by kernel_rfl) (fun T _ => by go_simp) ?_
  simp only [Act.put]
  refine wpAnyD_takeG (i := 30) (v := .agg (opC eD none 0)) hb25 rfl (by kernel_rfl) (by kernel_rfl) (by kernel_rfl) (fun _ _ _ h => h) (by kernel_rfl) (fun T hT => run_loadOp (hdx.out T hT) rfl rfl) ?_
  simp only [Act.put]
  refine wpAnyD_takeG (i := 31) (v := .agg (opC eD none 0)) hb25 rfl (by kernel_rfl) (by kernel_rfl) (by kernel_rfl) (fun _ _ _ h => h) (by kernel_rfl) (fun T hT => run_loadOp (hdx.out T hT) rfl rfl) ?_
  simp only [Act.put]
  refine wpAnyD_oneG (i := 32) (by kernel_rfl) rfl (by kernel_rfl) (fun K hK => ?_)
  go_simp
  refine (Name_any eD none 0 0 _ (by decide) (by decide)).mono ?_
  rintro e T32 ⟨rfl, hq32⟩
  have hb32 : Below V5.heap.size V5 T32 := hb25.trans (hq32.mono hb25.size)
  refine hK _ _ ⟨hb32, ?_⟩
  clear hK K
  try simp only [Act.put, List.setIfInBounds_toArray, List.set_cons_succ, List.set_cons_zero]
  refine wpAnyD_oneG (i := 33) (by kernel_rfl) rfl (by kernel_rfl) (fun K hK => ?_)
  go_simp
  refine (May_any _ y5 sB eD none 0 (eD.name 0) 2 (by decide) (hax.out _ hb32) (hx.out _ hb32) hOk_V5 eD_ok ⟨rfl, .nil, fun _ h => (by cases h)⟩).mono ?_
  rintro e T33 ⟨rfl, hq33⟩
  have hb33 : Below V5.heap.size V5 T33 := hb32.trans (hq33.mono hb32.size)
  refine hK _ _ ⟨hb33, ?_⟩
  clear hK K
  try simp only [Act.put, List.setIfInBounds_toArray, List.set_cons_succ, List.set_cons_zero]
  rw [show RS.may sB eD = 15 by decide]
  refine wpAnyD_takeG (i := 34) (v := .bool true) hb33 rfl (by kernel_rfl) (by kernel_rfl) (by kernel_rfl) (fun _ _ _ h => h) (by kernel_rfl) (fun T _ => by go_simp) ?_
  simp only [Act.put, List.setIfInBounds_toArray]
  refine wpAnyD_takeG (i := 35) (v := .bool true) hb33 rfl (by kernel_rfl) (by kernel_rfl) (by kernel_rfl) (fun _ _ _ h => h) (by kernel_rfl) (fun T _ => by go_simp) ?_
  simp only [Act.put]
  refine wpAnyD_takeG (i := 36) (v := .bool true) hb33 rfl (by kernel_rfl) (by kernel_rfl) (by kernel_rfl) (fun _ _ _ h => h) (by kernel_rfl) (fun T _ => by go_simp) ?_
  simp only [Act.put]
  refine wpAnyD_takeG (i := 37) (v := .pointer (some ⟨y5.r, 0, none⟩)) hb33 rfl (by kernel_rfl) (by kernel_rfl) (by kernel_rfl) (fun _ _ _ h => h) (by kernel_rfl) (fun T _ => by go_simp) ?_
  simp only [Act.put]
  have hsort : sortI sB.ins = [1, 2] := sortI_eq (by simp) (List.Perm.refl _)
  replace hsort := Lib.hid hsort
  refine wpAnyD_twoG (i := 38) (j := 39) (by kernel_rfl) rfl rfl (by kernel_rfl) (by kernel_rfl) (fun K hK => ?_) (fun K hK => ?_)
  · go_simp
    refine (Devices_any _ y5 sB 2 (hx.out _ hb33) hOk_V5).mono ?_
    rintro e T38 ⟨p5, c5, rfl, hu5, _, hq38⟩
    have hb38 : Below V5.heap.size V5 T38 := hb33.trans (hq38.mono hb33.size)
    rw [hsort.out] at hu5
    replace hu5 : UI T38 p5 2 [1, 2] := hu5
    refine hK _ _ ⟨hb38, ?_⟩
    clear hK K
    try simp only [Act.put, List.setIfInBounds_toArray, List.set_cons_succ, List.set_cons_zero]
    refine wpAnyD_oneG (i := 39) (by kernel_rfl) rfl (by kernel_rfl) (fun K hK => ?_)
    go_simp
    have hrow := UI.row T38 [1, 2] (by decide)
    have hb39a := Below.lit T38 (.cells #[.int .i64 1, .int .i64 2] 3)
    have hb39 : Below V5.heap.size V5 (T38.alloc (.cells #[.int .i64 1, .int .i64 2] 3)) := hb38.trans (hb39a.mono hb38.size)
    refine hK _ _ ⟨hb39, ?_⟩
    clear hK K
    try simp only [Act.put, List.setIfInBounds_toArray, List.set_cons_succ, List.set_cons_zero]
    refine wpAnyD_oneG (i := 40) (by kernel_rfl) rfl (by kernel_rfl) (fun K hK => ?_)
    go_simp
    refine (SameInts_yes p5 (some ⟨T38.heap.size, 0, none⟩) 2 [1, 2] c5 2 _ (hu5.below hb39a) hrow (by omega)).mono ?_
    rintro e T40 ⟨rfl, hq40⟩
    have hb40 : Below V5.heap.size V5 T40 := hb39.trans (hq40.mono hb39.size)
    refine hK _ _ ⟨hb40, ?_⟩
    clear hK K
    try simp only [Act.put, List.setIfInBounds_toArray, List.set_cons_succ, List.set_cons_zero]
    refine wpAnyD_takeG (i := 41) (v := .bool true) hb40 rfl (by kernel_rfl) (by kernel_rfl) (by kernel_rfl) (fun _ _ _ h => h) (by kernel_rfl) (fun T _ => by go_simp) ?_
    simp only [Act.put, List.setIfInBounds_toArray]
    refine wpAnyD_takeG (i := 42) (v := .bool true) hb40 rfl (by kernel_rfl) (by kernel_rfl) (by kernel_rfl) (fun _ _ _ h => h) (by kernel_rfl) (fun T _ => by go_simp) ?_
    simp only [Act.put]
    refine wpAnyD_takeG (i := 43) (v := .pointer (some ⟨y5.r, 0, none⟩)) hb40 rfl (by kernel_rfl) (by kernel_rfl) (by kernel_rfl) (fun _ _ _ h => h) (by kernel_rfl) (fun T _ => by go_simp) ?_
    simp only [Act.put]
    refine wpAnyD_oneG (i := 44) (by kernel_rfl) rfl (by kernel_rfl) (fun K hK => ?_)
    go_simp
    refine (Back_any _ y5 sB (hx.out _ hb40)).mono ?_
    rintro e _ ⟨rfl, rfl⟩
    refine hK _ _ ⟨hb40, ?_⟩
    clear hK K
    try simp only [Act.put, List.setIfInBounds_toArray, List.set_cons_succ, List.set_cons_zero]
    rw [show sB.bk = 3 by rfl]
    refine wpAnyD_takeG (i := 45) (v := .bool true) hb40 rfl (by kernel_rfl) (by kernel_rfl) (by kernel_rfl) (fun _ _ _ h => h) (by kernel_rfl) (fun T _ => by go_simp) ?_
    simp only [Act.put, List.setIfInBounds_toArray, List.set_cons_succ, List.set_cons_zero, List.getElem_toArray, List.getElem_cons_succ, List.getElem_cons_zero]
    refine wpAnyD_takeG (i := 46) (v := .bool true) hb40 rfl (by kernel_rfl) (by kernel_rfl) (by kernel_rfl) (fun _ _ _ h => h) (by kernel_rfl) (fun T _ => by go_simp) ?_
    simp only [Act.put, List.setIfInBounds_toArray, List.set_cons_succ, List.set_cons_zero, List.getElem_toArray, List.getElem_cons_succ, List.getElem_cons_zero]
    refine wpAnyD_takeG (i := 47) (v := .bool true) hb40 rfl (by kernel_rfl) (by kernel_rfl) (by kernel_rfl) (fun _ _ _ h => h) (by kernel_rfl) (fun T _ => by go_simp) ?_
    simp only [Act.put, List.setIfInBounds_toArray, List.set_cons_zero, List.getElem_toArray, List.getElem_cons_succ, List.getElem_cons_zero]
    refine wpAnyD_done (by kernel_rfl) ?_ _
    go_wp2_with fail
    go_ret
    refine ⟨?_, hS_V5.below.trans (hb40.mono hBW_V5)⟩
    first | rfl | (simp; done) | go_simp
  · go_simp
    have hrow := UI.row T33 [1, 2] (by decide)
    have hb39a := Below.lit T33 (.cells #[.int .i64 1, .int .i64 2] 3)
    have hb39 : Below V5.heap.size V5 (T33.alloc (.cells #[.int .i64 1, .int .i64 2] 3)) := hb33.trans (hb39a.mono hb33.size)
    refine hK _ _ ⟨hb39, ?_⟩
    clear hK K
    try simp only [Act.put, List.setIfInBounds_toArray, List.set_cons_succ, List.set_cons_zero]
    refine wpAnyD_oneG (i := 38) (by kernel_rfl) rfl (by kernel_rfl) (fun K hK => ?_)
    go_simp
    refine (Devices_any _ y5 sB 2 (hx.out _ hb39) hOk_V5).mono ?_
    rintro e T38 ⟨p5, c5, rfl, hu5, _, hq38⟩
    have hb38 : Below V5.heap.size V5 T38 := hb39.trans (hq38.mono hb39.size)
    rw [hsort.out] at hu5
    replace hu5 : UI T38 p5 2 [1, 2] := hu5
    refine hK _ _ ⟨hb38, ?_⟩
    clear hK K
    try simp only [Act.put, List.setIfInBounds_toArray, List.set_cons_succ, List.set_cons_zero]
    refine wpAnyD_oneG (i := 40) (by kernel_rfl) rfl (by kernel_rfl) (fun K hK => ?_)
    go_simp
    refine (SameInts_yes p5 (some ⟨T33.heap.size, 0, none⟩) 2 [1, 2] c5 2 _ hu5 (UI.below hrow hq38) (by omega)).mono ?_
    rintro e T40 ⟨rfl, hq40⟩
    have hb40 : Below V5.heap.size V5 T40 := hb38.trans (hq40.mono hb38.size)
    refine hK _ _ ⟨hb40, ?_⟩
    clear hK K
    try simp only [Act.put, List.setIfInBounds_toArray, List.set_cons_succ, List.set_cons_zero]
    refine wpAnyD_takeG (i := 41) (v := .bool true) hb40 rfl (by kernel_rfl) (by kernel_rfl) (by kernel_rfl) (fun _ _ _ h => h) (by kernel_rfl) (fun T _ => by go_simp) ?_
    simp only [Act.put, List.setIfInBounds_toArray]
    refine wpAnyD_takeG (i := 42) (v := .bool true) hb40 rfl (by kernel_rfl) (by kernel_rfl) (by kernel_rfl) (fun _ _ _ h => h) (by kernel_rfl) (fun T _ => by go_simp) ?_
    simp only [Act.put]
    refine wpAnyD_takeG (i := 43) (v := .pointer (some ⟨y5.r, 0, none⟩)) hb40 rfl (by kernel_rfl) (by kernel_rfl) (by kernel_rfl) (fun _ _ _ h => h) (by kernel_rfl) (fun T _ => by go_simp) ?_
    simp only [Act.put]
    refine wpAnyD_oneG (i := 44) (by kernel_rfl) rfl (by kernel_rfl) (fun K hK => ?_)
    go_simp
    refine (Back_any _ y5 sB (hx.out _ hb40)).mono ?_
    rintro e _ ⟨rfl, rfl⟩
    refine hK _ _ ⟨hb40, ?_⟩
    clear hK K
    try simp only [Act.put, List.setIfInBounds_toArray, List.set_cons_succ, List.set_cons_zero]
    rw [show sB.bk = 3 by rfl]
    refine wpAnyD_takeG (i := 45) (v := .bool true) hb40 rfl (by kernel_rfl) (by kernel_rfl) (by kernel_rfl) (fun _ _ _ h => h) (by kernel_rfl) (fun T _ => by go_simp) ?_
    simp only [Act.put, List.setIfInBounds_toArray, List.set_cons_succ, List.set_cons_zero, List.getElem_toArray, List.getElem_cons_succ, List.getElem_cons_zero]
    refine wpAnyD_takeG (i := 46) (v := .bool true) hb40 rfl (by kernel_rfl) (by kernel_rfl) (by kernel_rfl) (fun _ _ _ h => h) (by kernel_rfl) (fun T _ => by go_simp) ?_
    simp only [Act.put, List.setIfInBounds_toArray, List.set_cons_succ, List.set_cons_zero, List.getElem_toArray, List.getElem_cons_succ, List.getElem_cons_zero]
    refine wpAnyD_takeG (i := 47) (v := .bool true) hb40 rfl (by kernel_rfl) (by kernel_rfl) (by kernel_rfl) (fun _ _ _ h => h) (by kernel_rfl) (fun T _ => by go_simp) ?_
    simp only [Act.put, List.setIfInBounds_toArray, List.set_cons_zero, List.getElem_toArray, List.getElem_cons_succ, List.getElem_cons_zero]
    refine wpAnyD_done (by kernel_rfl) ?_ _
    go_wp2_with fail
    go_ret
    refine ⟨?_, hS_V5.below.trans (hb40.mono hBW_V5)⟩
    first | rfl | (simp; done) | go_simp
end Go.Proofs.YtkolilbebkkpdaaDoor
