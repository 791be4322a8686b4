/-
  RollRow: the walk.
-/
import Derived.Test.YtkolilbebkkpdaaDoorRsRoTw
import Derived.Test.YtkolilbebkkpdaaDoorRsRoSc
import Derived.Test.YtkolilbebkkpdaaDoorRsRoRp
import Derived.Test.YtkolilbebkkpdaaDoorRmH
namespace Go.Proofs.YtkolilbebkkpdaaDoor
open Go.RowKit Go.Maps Go.BigFrame
attribute [local go_sem] in_gr

def devW (e : Int) : Int := [(5 : Int), 4, 5].getD e.toNat 0
/-- The i-th operation of the row. -/
def rowV (i : Nat) (k : Int) : OpI := ⟨1 + k % 3, 20 + i, 11, k / 3 % 40, devW (k / 120 % 3), 0, 0, 0, qI, [], 0, 0⟩
def rowB (i : Nat) (k : Int) : OpI := ⟨2, 20 + i, 12, k / 3 % 40, 0, 0, 0, 0, qI, [], 0, 0⟩
def rowO (i : Nat) (k : Int) : OpI := if k / 360 % 4 = 0 then rowB i k else rowV i k
def rowOps (xs : List Int) : Nat → List OpI
  | 0 => []
  | j + 1 => rowOps xs j ++ [rowO j (around (nth xs j) 100000)]
theorem rowOps_len (xs : List Int) : ∀ j, (rowOps xs j).length = j := by
  intro j
  induction j with
  | zero => rfl
  | succ j ih => unfold rowOps; rw [List.length_append, ih]; rfl
theorem devW_bd (k : Int) (h : 0 ≤ k) : 4 ≤ devW (k / 120 % 3) ∧ devW (k / 120 % 3) ≤ 5 := by
  unfold devW
  obtain ⟨e, he⟩ : ∃ e : Nat, (k / 120 % 3).toNat = e := ⟨_, rfl⟩
  rw [he]
  have : e = 0 ∨ e = 1 ∨ e = 2 := by omega
  rcases this with rfl | rfl | rfl <;> decide
theorem rowO_ok (i : Nat) (hi : i ≤ 100) (k : Int) (h0 : 0 ≤ k) : (rowO i k).Ok ∧ RowOk (rowO i k) ∧ (rowO i k).gs = [] ∧ (rowO i k).k ≠ 9 := by
  unfold rowO
  have hd := devW_bd k h0
  split
  · refine ⟨ok_of (by decide) (by omega) (by decide) (by omega) (by decide) (by decide) (by decide) (by decide) (by unfold Idn.Sm qI; decide) (by decide) (by decide) g0, ⟨.inl ⟨rfl, rfl⟩, rfl, ?_⟩, rfl, by unfold rowB; simp⟩
    show 0 ≤ k / 3 % 40 ∧ k / 3 % 40 ≤ 1000000
    omega
  · refine ⟨ok_of (by omega) (by omega) (by decide) (by omega) (by omega) (by decide) (by decide) (by decide) (by unfold Idn.Sm qI; decide) (by decide) (by decide) g0, ⟨.inr ⟨rfl, ?_⟩, rfl, ?_⟩, rfl, by unfold rowV; simp⟩
    · show 1 + k % 3 = 1 ∨ 1 + k % 3 = 2 ∨ 1 + k % 3 = 3
      omega
    · show 0 ≤ k / 3 % 40 ∧ k / 3 % 40 ≤ 1000000
      omega
theorem rowOps_mem (xs : List Int) : ∀ j, j ≤ 100 → ∀ o ∈ rowOps xs j, o.Ok ∧ RowOk o ∧ o.gs = [] ∧ o.k ≠ 9 := by
  intro j
  induction j with
  | zero => intro _ o ho; cases ho
  | succ j ih =>
    intro hj o ho
    rcases List.mem_append.1 (show o ∈ rowOps xs j ++ _ from ho) with ho | ho
    · exact ih (by omega) o ho
    · rw [List.mem_singleton] at ho
      subst ho
      exact rowO_ok j (by omega) _ (around_bd _ _ (by decide)).1
def rowL (xs : List Int) (j : Nat) : List (OpI × Option Addr × Nat) := (rowOps xs j).map fun o => (o, none, 0)
theorem rowL_len (xs : List Int) (j : Nat) : (rowL xs j).length = j := by unfold rowL; rw [List.length_map, rowOps_len]
theorem rowL_succ (xs : List Int) (j : Nat) : rowL xs (j + 1) = rowL xs j ++ [(rowO j (around (nth xs j) 100000), none, 0)] := by unfold rowL; rw [show rowOps xs (j + 1) = rowOps xs j ++ [rowO j (around (nth xs j) 100000)] from rfl, List.map_append]; rfl
def firstO' (k : Nat) : OpI := if k = 0 then f0 else if k = 1 then f1 else if k = 2 then f2 else qG 2 1
def sG (k : Nat) : RS := if k = 0 then RS.new else if k = 1 then ⟨[1], [], [(1, ⟨3, none⟩)], 3⟩ else if k = 2 then ⟨[1, 2], [], [(1, ⟨3, none⟩), (2, ⟨3, none⟩)], 3⟩ else if k = 3 then sF else sQ 2 1 [] false 0
theorem sG_act {k : Nat} (hk : k < 4) (i : Idn) (hi : k = 3 → i = qI) : (sG k).act (firstO' k) i = sG (k + 1) := by
  have : k = 0 ∨ k = 1 ∨ k = 2 ∨ k = 3 := by omega
  rcases this with rfl | rfl | rfl | rfl
  · rfl
  · rfl
  · rfl
  · rw [hi rfl]; rfl
theorem firstO'_ok {k : Nat} (hk : k < 4) : (firstO' k).Ok := by
  have : k = 0 ∨ k = 1 ∨ k = 2 ∨ k = 3 := by omega
  rcases this with rfl | rfl | rfl | rfl
  · constructor <;> simp [firstO', f0]
  · constructor <;> simp [firstO', f1]
  · constructor <;> simp [firstO', f2]
  · exact qG_ok (by decide) (by decide)
theorem sG_ok3 {k : Nat} (hk : k ≤ 3) : (sG k).Ok k := by
  induction k with
  | zero => exact new_ok 0
  | succ k ih =>
    have h := ih (by omega)
    rw [← sG_act (k := k) (by omega) ⟨0, 0, 0⟩ (fun e => by omega)]
    refine act_ok h (firstO'_ok (by omega)) _ (by omega) (fun h9 => ?_)
    have : k = 0 ∨ k = 1 ∨ k = 2 := by omega
    rcases this with rfl | rfl | rfl <;> revert h9 <;> decide
theorem sG_ok {k : Nat} (hk : k ≤ 4) : (sG k).Ok 9 := by
  by_cases h : k ≤ 3
  · exact (sG_ok3 h).mono (by omega)
  · have : k = 4 := by omega
    subst this
    rw [← sG_act (k := 3) (by omega) qI (fun _ => rfl)]
    exact act_ok (sG_ok3 (k := 3) (by omega)) (firstO'_ok (by omega)) _ (by omega) (fun _ => ⟨by decide, by decide, by decide, by decide⟩)
set_option maxRecDepth 100000 in
set_option maxHeartbeats 8000000 in
theorem row_any (w : World) (hA : Asks w) (p : Option Addr) (n : Nat) (xs : List Int) (c : Nat) (hU : UI w p n xs) (hc : n ≤ c) :
    Calls Tryd.prog 8 #[.slice p n c] w fun e w' => e = .returned (.bool true) ∧ Below w.heap.size w w' := by
  have h0 : 0 < w.heap.size := cell_lt hA.a0
  go_enter Tryd.func8, Tryd.ntmps8
  go_wp2_with fail
  refine (Cards_any _).mono ?_
  rintro e w1 ⟨v, rfl, hown, hb1⟩
  obtain ⟨p1, c1, rfl, hc1, hRd, _⟩ := hown.u
  go_wp2_with fail
  refine (New_any _ p1 c1 hRd).mono ?_
  rintro e w2 ⟨y1, rfl, hR2, hb2, hf2⟩
  have hB2 := hb1.trans (hb2.mono hb1.size)
  obtain ⟨r1, hr1⟩ : ∃ r, Hid (y1.r = r) := ⟨_, Lib.hid rfl⟩
  have hS2 : SitW w.heap.size r1 w w2 y1 RS.new := ⟨hR2, hr1.out, fun i hi => Nat.le_trans hb1.size (hf2 i hi), hB2, hA.below hB2, hB2.size⟩
  rw [hr1.out]
  clear hown hRd hc1 hR2 hf2 hb1 hb2
  go_wp2_with fail
  refine (Cards_any _).mono ?_
  rintro e w3 ⟨v, rfl, hown, hb3⟩
  obtain ⟨p2, c2, rfl, hc2, hRd, _⟩ := hown.u
  have hS3 := hS2.call hb3
  go_wp2_with fail
  refine (New_any _ p2 c2 hRd).mono ?_
  rintro e w4 ⟨y2, rfl, hR4, hb4, hf4⟩
  have hS4 := hS3.call hb4
  obtain ⟨r2, hr2⟩ : ∃ r, Hid (y2.r = r) := ⟨_, Lib.hid rfl⟩
  have hT4 : TwoW w.heap.size r1 r2 w w4 y1 y2 RS.new RS.new := ⟨hS4, ⟨hR4, hr2.out, fun i hi => Nat.le_trans hS3.hB (hf4 i hi), hS4.below, hS4.asks, hS4.hB⟩, fun i hi hf => by
    have h1 := hf4 i hf
    have h2 := hS3.roll.lt i hi
    omega⟩
  rw [hr2.out]
  clear hown hRd hc2 hR4 hf4 hb3 hb4 hS2 hS3 hS4 hB2
  go_wp2_with fail
  refine (Ops_nil _).mono ?_
  rintro e w5 ⟨rfl, ho5, hb5⟩
  have hT5 := hT4.call hb5
  have hlow5 : ∀ i, w4.heap.size ≤ i → i ∉ y1.foot ∧ i ∉ y2.foot := fun i hi => ⟨hT4.a.high hi, hT4.b.high hi⟩
  have hb45 := hb5.size
  have hbf5 := (ho5.lt (g := w4.heap.size) rfl).2
  have hwf := hT4.a.hB
  obtain ⟨bf, hbf⟩ : ∃ bf, Hid (w4.heap.size = bf) := ⟨_, Lib.hid rfl⟩
  rw [hbf.out] at ho5 hlow5 hb45 hbf5 hwf ⊢
  obtain ⟨WG, hWG, hG⟩ := nameW (p := fun W => GAr w5 W 2 1) (GAr.made w5 2 1)
  have hTG := hT5.call hG.hb
  have hoG := ho5.below hG.hb
  replace hG := Lib.hid hG
  replace hTG := Lib.hid hTG
  replace hlow5 := Lib.hid hlow5
  clear hT5 hb5 hT4 ho5
  go_upto_region 7 with (first
    | (rw [hWG.out])
    | (refine wpL_build rfl 42 _ rfl (opC (qG 2 1) (some ⟨w5.heap.size, 0, none⟩) 3) (by kernel_rfl) ?_; simp only [Act.put, List.setIfInBounds_toArray, List.set_cons_succ, List.set_cons_zero])
    | (refine wpL_alloc rfl rfl ?_; simp only [Act.put, List.setIfInBounds_toArray, List.set_cons_succ, List.set_cons_zero])
    | (refine wpL_store rfl _ _ rfl (n := qG 2 1) (gp := some ⟨w5.heap.size, 0, none⟩) (gc := 3) (by first | rfl | (simp only [World.size_alloc]; rfl)) rfl ?_; try simp only [Act.put])
    | fail)
  simp only [World.size_alloc]
  obtain ⟨bs, hbs⟩ : ∃ bs, Hid (w5.heap.size = bs) := ⟨_, Lib.hid rfl⟩
  have hGu := hG.out.u
  have hGo := hG.out.o
  have hGs := hG.out.hb.size
  rw [hbs.out] at hGu hGo hGs ⊢
  have hbsl := Nat.lt_of_succ_le (cell_lt hGo.cb)
  obtain ⟨bg, hbg⟩ : ∃ bg, Hid (bs + 1 = bg) := ⟨_, Lib.hid rfl⟩
  rw [hbg.out] at hGo ⊢
  have hfs : bf < bs := by have := hbs.out; omega
  clear hG
  go_upto_region 8 with (first
    | (refine wpList_load_row rfl 42 _ rfl bg rfl 42 (opC (qG 2 1) (some ⟨bs, 0, none⟩) 3) (0, 0) _ hGo Tryd.underlying42 rfl (by kernel_rfl) ?_)
    | fail)
  refine (Name_w (qG 2 1) (some ⟨bs, 0, none⟩) 3 8 _ (by decide) (by decide) (b := 2) (s := 9) (u := 9) rfl rfl rfl).mono ?_
  rintro e w6 ⟨rfl, hb6⟩
  have hI7 : IdAt (w6.alloc (.cells #[.int .i64 2, .int .i64 9, .int .u64 9] 34)) w6.heap.size qI := IdAt.made w6 qI
  have hb7 := hb6.trans ((Below.lit w6 (.cells #[.int .i64 2, .int .i64 9, .int .u64 9] 34)).mono hb6.size)
  obtain ⟨bi, hbi⟩ : ∃ bi, Hid (w6.heap.size = bi) := ⟨_, Lib.hid rfl⟩
  have hbil : WG.heap.size ≤ bi := by rw [← hbi.out]; exact hb6.size
  obtain ⟨w7, hw7, hI7⟩ := nameW (p := fun W => IdAt W w6.heap.size qI) hI7
  rw [hbi.out] at hI7
  rw [hw7.out] at hb7
  have hT7 := hTG.out.call hb7
  have hGo7 := hGo.below hb7 (cell_lt hGo.cb)
  have hGu7 := hGu.below hb7
  have ho7 := hoG.below hb7
  have hz7 : bf ≤ w7.heap.size := by have := hb7.size; omega
  replace hT7 := Lib.hid hT7
  replace hGu7 := Lib.hid hGu7
  clear hb6 hb7 hTG hGo hoG
  go_upto_region 8 with (first | (rw [hw7.out]) | fail)
  rw [hbi.out]
  go_upto_region 9 with (first
    | (refine wpList_load_row rfl 42 _ rfl bg rfl 42 (opC (qG 2 1) (some ⟨bs, 0, none⟩) 3) (0, 0) _ hGo7 Tryd.underlying42 rfl (by kernel_rfl) ?_)
    | (refine Go.Great.wpList_buildSliceTo rfl 27 42 1 _ rfl w7.heap.size rfl _ rfl Tryd.underlying27 (opC (qG 2 1) (some ⟨bs, 0, none⟩) 3) (by kernel_rfl) ?_; simp only [Act.put, List.setIfInBounds_toArray, List.set_cons_succ, List.set_cons_zero])
    | (at_builtin; refine app_eg opE rfl _ _ rfl (y := (qG 2 1, some ⟨bs, 0, none⟩, 3)) rfl ho7 rfl rfl (by decide) hz7 ?_; intro v8 w8 hown8 hg8 hn8)
    | fail)
  rcases hown8.2 with ⟨_, hno⟩ | ⟨bq, cq, cur, hv8, hbqb, hbqh, _⟩
  · exact absurd hno (by simp [firstL])
  obtain ⟨p8, c8, hv8', _, hrd8, _, _, _⟩ := hown8.u
  replace hv8 : v8 = .slice (some ⟨bq, 0, none⟩) 4 cq := hv8
  rw [hv8] at hv8'
  injection hv8' with hp8 he1 he2
  clear he1 he2
  subst hp8
  have hbql := blk_lt hbqh
  have hF8 : OpsAr w8 bq (firstL ++ [(qG 2 1, some ⟨bs, 0, none⟩, 3)]) := ⟨hrd8, hbql⟩
  have hgr : ∀ g, Value.ownBlock (.slice (some ⟨bf, 0, none⟩) 3 3) = some g → w.heap.size ≤ g ∧ g ∉ y1.foot ∧ g ∉ y2.foot := fun g hg => by
    have hg : some bf = some g := hg
    injection hg with hg
    subst hg
    exact ⟨hwf, hlow5.out bf (Nat.le_refl _)⟩
  have hT8 : TwoW w.heap.size r1 r2 w w8 y1 y2 RS.new RS.new := ⟨hT7.out.a.grown hg8 (fun g hg => ⟨(hgr g hg).1, (hgr g hg).2.1⟩) h0, hT7.out.b.grown hg8 (fun g hg => ⟨(hgr g hg).1, (hgr g hg).2.2⟩) h0, hT7.out.ap⟩
  have hbi8 : bf < bi := by omega
  have hI8 : IdAt w8 bi qI := hI7.block (hg8.block bi hI7.lt (fun e => by
    have e : some bi = some bf := e
    injection e with e; omega))
  have hU8 : UI w8 (some ⟨bs, 0, none⟩) 3 [1, 2, 3] := hGu7.out.same fun a ha => by
    injection ha with ha
    subst ha
    exact hg8.block bs (by have := hI7.lt; omega) (fun e => by
      have e : some bs = some bf := e
      injection e with e; omega)
  have hqx : bq ∉ y1.foot ∧ bq ∉ y2.foot := by
    rcases hn8 bq (by rw [hv8]; rfl) with h1 | h1
    · have h1 : some bf = some bq := h1
      injection h1 with h1
      exact h1 ▸ hlow5.out bf (Nat.le_refl _)
    · exact hlow5.out bq (by omega)
  have hix := hlow5.out bi (by omega)
  have hsx := hlow5.out bs (by omega)
  have hsl : bs < w8.heap.size := by have := hg8.size; have := hI7.lt; omega
  have hil : bi < w8.heap.size := hI8.lt
  rw [hv8]
  replace hF8 := Lib.hid hF8
  replace hU8 := Lib.hid hU8
  replace hqx := Lib.hid hqx
  replace hix := Lib.hid hix
  replace hsx := Lib.hid hsx
  replace hsl := Lib.hid hsl
  replace hil := Lib.hid hil
  clear hown8 hg8 hn8 hbqh hrd8 hgr hI7 hGu7 hT7 ho7 hGo7 hv8 hbqb hbql
  replace hbi8 := Lib.hid hbi8
  go_wp2_with fail
  go_loopw [8] (fun i wr => ∃ (k : Nat) (z1 z2 : Lay), k ≤ 4 ∧ i = .int .i64 k ∧ TwoW w.heap.size r1 r2 w wr z1 z2 (sG k) (sG k) ∧ Hid (Kp2 w8 wr y1 y2 z1 z2)) (fun i _ => 4 - (intOf i).toNat)
  case atStart => exact ⟨0, y1, y2, by omega, rfl, hT8, Lib.hid (Kp2.refl _ _ _)⟩
  case round =>
    obtain ⟨k, z1, z2, hk, rfl, hT, hK⟩ := hrel
    by_cases hk4 : k < 4
    · have hix1 : (0 : Int) ≤ (k : Int) := by omega
      have hix2 : (k : Int) < (4 : Int) := by omega
      have t1 : decide ((k : Int) < 4) = true := decide_eq_true hix2
      have t2 : decide (k < 4) = true := decide_eq_true hk4
      obtain ⟨gp, hgp⟩ : ∃ gp : Option Addr, Hid ((if k = 3 then some ⟨bs, 0, none⟩ else none) = gp) := ⟨_, Lib.hid rfl⟩
      obtain ⟨gc, hgc⟩ : ∃ gc : Nat, Hid ((if k = 3 then 3 else 0) = gc) := ⟨_, Lib.hid rfl⟩
      have hat : Hid (∃ h : k < (firstL ++ [(qG 2 1, some (⟨bs, 0, none⟩ : Addr), 3)]).length, (firstL ++ [(qG 2 1, some ⟨bs, 0, none⟩, 3)])[k] = (firstO' k, gp, gc)) := Lib.hid (by
        rw [← hgp.out, ← hgc.out]
        have : k = 0 ∨ k = 1 ∨ k = 2 ∨ k = 3 := by omega
        rcases this with rfl | rfl | rfl | rfl <;> exact ⟨by simp [firstL], rfl⟩)
      have hF := hF8.out.kp2 hK.out hqx.out.1 hqx.out.2
      have hI := hI8.kp2 hK.out hix.out.1 hix.out.2
      have hUo : Hid (UI wr gp (firstO' k).gs.length (firstO' k).gs) := Lib.hid (by
        rw [← hgp.out]
        by_cases h3 : k = 3
        · rw [if_pos h3]
          subst h3
          exact hU8.out.kp2 hK.out (fun a ha => by injection ha with ha; subst ha; exact hsl.out) (fun a ha => by injection ha with ha; subst ha; exact hsx.out)
        · rw [if_neg h3]
          have : k = 0 ∨ k = 1 ∨ k = 2 := by omega
          rcases this with rfl | rfl | rfl <;> exact ⟨rfl, .nil, fun _ h => by cases h⟩)
      have hqz := hK.out.2 bq hF8.out.lt hqx.out.1 hqx.out.2
      have hgx : Hid (∀ a, gp = some a → a.block < wr.heap.size ∧ a.block ∉ z1.foot ∧ a.block ∉ z2.foot) := Lib.hid (fun a ha => by
        rw [← hgp.out] at ha
        by_cases h3 : k = 3
        · rw [if_pos h3] at ha
          injection ha with ha
          subst ha
          exact ⟨Nat.lt_of_lt_of_le hsl.out hK.out.1, (hK.out.2 bs hsl.out hsx.out.1 hsx.out.2).2⟩
        · rw [if_neg h3] at ha; cases ha)
      obtain ⟨_, hqz⟩ := hqz
      have hgne : Hid ((firstO' k).k = 9 → (firstO' k).gs ≠ []) := Lib.hid (by
        have : k = 0 ∨ k = 1 ∨ k = 2 ∨ k = 3 := by omega
        rcases this with rfl | rfl | rfl | rfl <;> decide)
      have hcq := hF.cells hat.out
      have hfok := firstO'_ok hk4
      replace hcq := Lib.hid hcq
      replace hfok := Lib.hid hfok
      replace hqz := Lib.hid hqz
      replace hF := Lib.hid hF
      go_upto_region 12 with fail
      go_upto_region 13 with (first
        | (refine wpL_loadO rfl _ rfl bq (k * 27) rfl (firstO' k) gp gc hcq.out ?_)
        | fail)
      refine (Name_any (firstO' k) gp gc k _ hfok.out.hk (by omega)).mono ?_
      rintro e w9 ⟨rfl, hb9⟩
      have hI10 : IdAt (w9.alloc (.cells #[.int .i64 (firstO' k).b, .int .i64 ((k : Int) + 1), .int .u64 (firstO' k).k] 34)) w9.heap.size ((firstO' k).name k) := IdAt.made w9 ((firstO' k).name k)
      have hb10 := hb9.trans ((Below.lit w9 (.cells #[.int .i64 (firstO' k).b, .int .i64 ((k : Int) + 1), .int .u64 (firstO' k).k] 34)).mono hb9.size)
      obtain ⟨bn, hbn⟩ : ∃ bn, Hid (w9.heap.size = bn) := ⟨_, Lib.hid rfl⟩
      have hbnl : wr.heap.size ≤ bn := by rw [← hbn.out]; exact hb9.size
      obtain ⟨wn, hwn, hI10⟩ := nameW (p := fun W => IdAt W w9.heap.size ((firstO' k).name k)) hI10
      rw [hbn.out] at hI10
      rw [hwn.out] at hb10
      have hnx1 : bn ∉ z1.foot := hT.a.high hbnl
      have hnx2 : bn ∉ z2.foot := hT.b.high hbnl
      have hTn := hT.call hb10
      have hBn : w.heap.size ≤ bn := Nat.le_trans hT.a.hB hbnl
      have hin := hI.below hb10
      have hi0 : wn.cell? ⟨bi, 0, none⟩ = some (.int .i64 2) := by simp [World.cell?, show wn.heap[bi]? = _ from hin]; rfl
      have hi1 : wn.cell? ⟨bi, 1, none⟩ = some (.int .i64 9) := by simp [World.cell?, show wn.heap[bi]? = _ from hin]; rfl
      have hi2 : wn.cell? ⟨bi, 2, none⟩ = some (.int .u64 9) := by simp [World.cell?, show wn.heap[bi]? = _ from hin]; rfl
      obtain ⟨nm, hnm⟩ : ∃ nm : Idn, Hid ((if k = 3 then qI else (firstO' k).name k) = nm) := ⟨_, Lib.hid rfl⟩
      replace hb10 := Lib.hid hb10
      replace hT := Lib.hid hT
      replace hTn := Lib.hid hTn
      replace hin := Lib.hid hin
      replace hBn := Lib.hid hBn
      replace hbnl := Lib.hid hbnl
      clear hb9
      go_upto_region 13 with (first | (rw [hwn.out]) | fail)
      rw [hbn.out]
      obtain ⟨b3, hb3⟩ : ∃ b3, Hid (((k : Int) == 3) = b3) := ⟨_, Lib.hid rfl⟩
      have q3 := hb3.out
      go_upto_if 52 with fail
      go_cut [9] from 52 to 53 (fun v T => v = .pointer (some ⟨bn, 0, none⟩) ∧ IdAt T bn nm ∧ wn.grownBy T (some bn))
      case first =>
        clear q3
        cases b3 with
        | true =>
          have h3 : k = 3 := by have := hb3.out; rw [beq_iff_eq] at this; omega
          have hnq : Hid (nm = qI) := Lib.hid (by rw [← hnm.out, if_pos h3])
          replace h3 := Lib.hid h3
          go_wp2_with (first
            | (refine wpList_store_row rfl 34 _ _ rfl bn #[.int .i64 2, .int .i64 9, .int .u64 9] rfl rfl 34 _ hI10 (by kernel_rfl) rfl (by simp [Value.oneCell']) ?_)
            | fail)
          go_frame
          go_meet
          rw [hnq.out]
          refine ⟨rfl, setRow_heap wn bn _ _ _ _ hI10, rfl, rfl, rfl, by simp [World.setRow], fun i _ hi => setRow_other wn bn i _ (fun e => hi (by rw [e]))⟩
        | false =>
          have h3 : k ≠ 3 := by have := hb3.out; rw [beq_eq_false_iff_ne] at this; omega
          have hnq : Hid (nm = (firstO' k).name k) := Lib.hid (by rw [← hnm.out, if_neg h3])
          replace h3 := Lib.hid h3
          go_wp2_with fail
          go_meet
          rw [hnq.out]
          exact ⟨rfl, hI10, rfl, rfl, rfl, Nat.le_refl _, fun _ _ _ => rfl⟩
      case rest =>
        obtain ⟨rfl, hNx, hgN⟩ := hcut
        have hTx := Lib.hid (⟨hTn.out.a.grown hgN (fun g hg => by injection hg with hg; subst hg; exact ⟨hBn.out, hnx1⟩) h0, hTn.out.b.grown hgN (fun g hg => by injection hg with hg; subst hg; exact ⟨hBn.out, hnx2⟩) h0, hTn.out.ap⟩ : TwoW w.heap.size r1 r2 w wc z1 z2 (sG k) (sG k))
        have hsx0 : Hid (wr.heap.size ≤ wc.heap.size) := Lib.hid (Nat.le_trans hb10.out.size hgN.size)
        have hkx : ∀ i, i < wr.heap.size → wc.heap[i]? = wr.heap[i]? := fun i hi => (hgN.block i (Nat.lt_of_lt_of_le hi hb10.out.size) (fun e => by injection e with e; have := hbnl.out; omega)).trans (hb10.out.block i hi)
        have hKx : Hid (Kp2 w8 wc y1 y2 z1 z2) := Lib.hid (hK.out.trans ⟨hsx0.out, fun i hi h1 h2 => ⟨hkx i hi, h1, h2⟩⟩)
        have hFx := Lib.hid (hF.out.block hsx0.out (hkx bq hF.out.lt))
        have hUx : Hid (UI wc gp (firstO' k).gs.length (firstO' k).gs) := Lib.hid (hUo.out.same fun a ha => hkx a.block (hgx.out a ha).1)
        have hnq : k = 3 → nm = qI := fun h => by rw [← hnm.out, if_pos h]
        replace hnq := Lib.hid hnq
        clear hi0 hi1 hi2 hI10 hkx hcq
        have hcqA : ∀ T, (∃ z : GrIn wc, T = z.at_) → ∀ i u, (opC (firstO' k) gp gc)[i]? = some u → T.cell? ⟨bq, k * 27 + i, none⟩ = some u := fun T ⟨z, hz⟩ i u hu => by
          rw [hz]
          exact (hFx.out.below z.gr).cells hat.out i u hu
        have j0A : wc.cell? ⟨bn, 0, none⟩ = some (.int .i64 (nm).b) := by simp [World.cell?, show wc.heap[bn]? = _ from hNx]
        have j1A : wc.cell? ⟨bn, 1, none⟩ = some (.int .i64 (nm).s) := by simp [World.cell?, show wc.heap[bn]? = _ from hNx]
        have j2A : wc.cell? ⟨bn, 2, none⟩ = some (.int .u64 (nm).u) := by simp [World.cell?, show wc.heap[bn]? = _ from hNx]
        have g0A := GrIn.cells j0A
        have g1A := GrIn.cells j1A
        have g2A := GrIn.cells j2A
        replace hcqA := Lib.hid hcqA
        go_wp2_with fail
        refine wp_region_gr_tail 6 (by kernel_rfl) (by kernel_rfl) ?_
        simp only [List.take_succ_cons, List.take_zero, List.drop_succ_cons, List.drop_zero]
        repeat (first
          | (go_big_quiet_want; refine quiet_mid _ rfl rfl hcqA.out ?_; simp only [Act.put, List.setIfInBounds_toArray, List.set_cons_succ, List.set_cons_zero]; go_big_quiet_on)
          | go_big_quiet_step (fail))
        refine wpQuiet_nil ?_
        rintro T ⟨z, rfl⟩
        have hTz := hTx.out.call z.gr
        have hUz := hUx.out.below z.gr
        go_wp2_with fail
        refine (Do_w hTz.a h0 (firstO' k) gp gc (nm) 9 (by decide) (sG_ok (by omega)) hfok.out hUz hgne.out).mono ?_
        rintro e wy ⟨rfl, hnx⟩
        obtain ⟨u1, hTy, hkA⟩ := hTz.doA hnx
        have hKA : Hid (Kp2 wc wy z1 z2 u1 z2) := Lib.hid ((Kp2.below z.gr z1 z2).trans hkA)
        have hFy := Lib.hid (hFx.out.kp2 hKA.out hqz.out.1 hqz.out.2)
        have hNy := hNx.kp2 hKA.out hnx1 hnx2
        have hUy : Hid (UI wy gp (firstO' k).gs.length (firstO' k).gs) := Lib.hid (hUx.out.kp2 hKA.out (fun a ha => Nat.lt_of_lt_of_le (hgx.out a ha).1 hsx0.out) (fun a ha => (hgx.out a ha).2))
        replace hTy := Lib.hid hTy
        have hcqB : ∀ T, (∃ z : GrIn wy, T = z.at_) → ∀ i u, (opC (firstO' k) gp gc)[i]? = some u → T.cell? ⟨bq, k * 27 + i, none⟩ = some u := fun T ⟨z, hz⟩ i u hu => by
          rw [hz]
          exact (hFy.out.below z.gr).cells hat.out i u hu
        have j0B : wy.cell? ⟨bn, 0, none⟩ = some (.int .i64 (nm).b) := by simp [World.cell?, show wy.heap[bn]? = _ from hNy]
        have j1B : wy.cell? ⟨bn, 1, none⟩ = some (.int .i64 (nm).s) := by simp [World.cell?, show wy.heap[bn]? = _ from hNy]
        have j2B : wy.cell? ⟨bn, 2, none⟩ = some (.int .u64 (nm).u) := by simp [World.cell?, show wy.heap[bn]? = _ from hNy]
        have g0B := GrIn.cells j0B
        have g1B := GrIn.cells j1B
        have g2B := GrIn.cells j2B
        replace hcqB := Lib.hid hcqB
        go_wp2_with fail
        refine wp_region_gr_tail 6 (by kernel_rfl) (by kernel_rfl) ?_
        simp only [List.take_succ_cons, List.take_zero, List.drop_succ_cons, List.drop_zero]
        repeat (first
          | (go_big_quiet_want; refine quiet_mid _ rfl rfl hcqB.out ?_; simp only [Act.put, List.setIfInBounds_toArray, List.set_cons_succ, List.set_cons_zero]; go_big_quiet_on)
          | go_big_quiet_step (fail))
        refine wpQuiet_nil ?_
        rintro T ⟨z, rfl⟩
        have hTz := hTy.out.call z.gr
        have hUz := hUy.out.below z.gr
        go_wp2_with fail
        refine (Do_w hTz.b h0 (firstO' k) gp gc (nm) 9 (by decide) (sG_ok (by omega)) hfok.out hUz hgne.out).mono ?_
        rintro e wz ⟨rfl, hnx⟩
        obtain ⟨u2, hTw, hkB⟩ := hTz.doB hnx
        have hKB : Hid (Kp2 wy wz u1 z2 u1 u2) := Lib.hid ((Kp2.below z.gr u1 z2).trans hkB)
        rw [sG_act hk4 _ hnq.out] at hTw
        go_wp2_with fail
        go_roundw
        case rel => exact ⟨k + 1, u1, u2, by omega, by go_num, hTw, Lib.hid (hKx.out.trans (hKA.out.trans hKB.out))⟩
        case measure => simp [intOf]; omega
    · have hk44 : k = 4 := by omega
      subst hk44
      rw [show ((4 : Nat) : Int) = 4 from rfl]
      obtain ⟨wk, rfl⟩ : ∃ wk, wk = wr := ⟨_, rfl⟩
      have hI := hI8.kp2 hK.out hix.out.1 hix.out.2
      have hBz := hT.a.hB
      have hiz := hK.out.2 bi hil.out hix.out.1 hix.out.2
      obtain ⟨_, hiz⟩ := hiz
      replace hT := Lib.hid hT
      replace hiz := Lib.hid hiz
      clear hF8 hU8 hsx hsl
      go_wp2_with fail
      go_loopw [10, 11] (fun v i wr => ∃ (j : Nat), j ≤ 10 ∧ j ≤ n ∧ i = .int .i64 j ∧ OwnE opE wr wk.heap.size v (rowL xs j) ∧ Hid (Below wk.heap.size wk wr)) (fun _ i _ => 10 - (intOf i).toNat)
      case atStart => exact ⟨0, by omega, by omega, rfl, OwnE.nil _ _, Lib.hid (Below.refl _ _)⟩
      case round =>
        obtain ⟨j, hj10, hjn, rfl, hown, hbl⟩ := hrel
        by_cases hlt : j < n ∧ j < 10
        · obtain ⟨hltn, hlt10⟩ := hlt
          have t1 : decide ((j : Int) < (n : Int)) = true := decide_eq_true (by omega)
          have t2 : decide (j < n) = true := decide_eq_true hltn
          have t3 : decide ((j : Int) < 10) = true := decide_eq_true (by omega)
          have t4 : decide (j < 10) = true := decide_eq_true hlt10
          obtain ⟨b, off, rfl, _, hc0, hx0, hx1⟩ := ((hU.below hT.out.a.below).below hbl.out).look hltn
          obtain ⟨kq, hkq⟩ : ∃ kq, Hid (around (nth xs j) 100000 = kq) := ⟨_, Lib.hid rfl⟩
          have hkb := around_bd (nth xs j) 100000 (by decide)
          obtain ⟨x, hx⟩ : ∃ x, Hid (nth xs j = x) := ⟨_, Lib.hid rfl⟩
          rw [hx.out] at hc0 hx0 hx1 hkb hkq
          rw [hkq.out] at hkb
          obtain ⟨hk0, hk1⟩ := hkb
          have hll := rowL_len xs j
          obtain ⟨q, d, rfl, hd, hRd, _, _, _⟩ := hown.u
          rw [hll]
          have m1 : Int.tmod kq 3 = kq % 3 := Int.tmod_eq_emod_of_nonneg hk0
          have m2 : Int.tdiv kq 3 = kq / 3 := Int.tdiv_eq_ediv_of_nonneg hk0
          have m3 : Int.tdiv kq 120 = kq / 120 := Int.tdiv_eq_ediv_of_nonneg hk0
          have m4 : Int.tdiv kq 360 = kq / 360 := Int.tdiv_eq_ediv_of_nonneg hk0
          obtain ⟨r3, hr3⟩ : ∃ r, Hid (kq % 3 = r) := ⟨_, Lib.hid rfl⟩
          obtain ⟨q3, hq3⟩ : ∃ r, Hid (kq / 3 = r) := ⟨_, Lib.hid rfl⟩
          obtain ⟨q4, hq4⟩ : ∃ r, Hid (kq / 120 = r) := ⟨_, Lib.hid rfl⟩
          obtain ⟨q5, hq5⟩ : ∃ r, Hid (kq / 360 = r) := ⟨_, Lib.hid rfl⟩
          rw [hr3.out] at m1
          rw [hq3.out] at m2
          rw [hq4.out] at m3
          rw [hq5.out] at m4
          have br3 : 0 ≤ r3 ∧ r3 < 3 := by have := hr3.out; omega
          have bq3 : 0 ≤ q3 ∧ q3 < 100000 := by have := hq3.out; omega
          have bq4 : 0 ≤ q4 ∧ q4 < 100000 := by have := hq4.out; omega
          have bq5 : 0 ≤ q5 ∧ q5 < 100000 := by have := hq5.out; omega
          have m5 : Int.tmod q3 40 = q3 % 40 := Int.tmod_eq_emod_of_nonneg bq3.1
          have m6 : Int.tmod q4 3 = q4 % 3 := Int.tmod_eq_emod_of_nonneg bq4.1
          have m7 : Int.tmod q5 4 = q5 % 4 := Int.tmod_eq_emod_of_nonneg bq5.1
          obtain ⟨ra, hra⟩ : ∃ r, Hid (q3 % 40 = r) := ⟨_, Lib.hid rfl⟩
          obtain ⟨re, hre⟩ : ∃ r : Nat, Hid (q4 % 3 = r) := ⟨(q4 % 3).toNat, Lib.hid (by omega)⟩
          obtain ⟨rb, hrb⟩ : ∃ r, Hid (q5 % 4 = r) := ⟨_, Lib.hid rfl⟩
          rw [hra.out] at m5
          rw [hre.out] at m6
          rw [hrb.out] at m7
          have bra : 0 ≤ ra ∧ ra < 40 := by have := hra.out; omega
          have bre : (0 : Int) ≤ (re : Int) ∧ (re : Int) < 3 := by have := hre.out; omega
          have w1 : IntKind.i64.wrap r3 = r3 := wrapS br3.1 (by omega)
          have w2' : IntKind.i64.wrap (1 + r3) = 1 + r3 := wrapS (by omega) (by omega)
          have w3' : IntKind.i64.wrap q3 = q3 := wrapS (by omega) (by omega)
          have w4' : IntKind.i64.wrap q4 = q4 := wrapS (by omega) (by omega)
          have w5' : IntKind.i64.wrap q5 = q5 := wrapS (by omega) (by omega)
          have w6' : IntKind.i64.wrap ra = ra := wrapS (by omega) (by omega)
          have w7' : IntKind.i64.wrap (re : Int) = re := wrapS (by omega) (by omega)
          have w8' : IntKind.i64.wrap rb = rb := wrapS (by have := hrb.out; omega) (by have := hrb.out; omega)
          have w9' : IntKind.i64.wrap (20 + (j : Int)) = 20 + j := wrapS (by omega) (by omega)
          have hre3 : re < 3 := by omega
          obtain ⟨hre1, hre2⟩ := bre
          obtain ⟨bv, hbv⟩ : ∃ bv : Bool, Hid ((rb == 0) = bv) := ⟨_, Lib.hid rfl⟩
          have qbv := hbv.out
          have hrow : Hid (rowO j kq = if bv = true then ⟨2, 20 + j, 12, ra, 0, 0, 0, 0, qI, [], 0, 0⟩ else ⟨1 + r3, 20 + j, 11, ra, nth [(5 : Int), 4, 5] re, 0, 0, 0, qI, [], 0, 0⟩) := Lib.hid (by
            have e1 : kq / 360 % 4 = rb := by rw [hq5.out]; exact hrb.out
            have e2 : kq / 3 % 40 = ra := by rw [hq3.out]; exact hra.out
            have e3 : kq / 120 % 3 = re := by rw [hq4.out]; exact hre.out
            have e4 : devW (re : Int) = nth [(5 : Int), 4, 5] re := by
              have : re = 0 ∨ re = 1 ∨ re = 2 := by omega
              rcases this with rfl | rfl | rfl <;> rfl
            unfold rowO rowB rowV
            rw [e1, e2, e3, hr3.out, e4]
            by_cases hb0 : rb = 0
            · rw [if_pos hb0, ← hbv.out, if_pos (by rw [hb0]; rfl)]
            · rw [if_neg hb0, ← hbv.out, if_neg (by simpa using hb0)])
          replace hx0 := Lib.hid hx0
          replace hx1 := Lib.hid hx1
          replace hRd := Lib.hid hRd
          replace hown := Lib.hid hown
          replace hll := Lib.hid hll
          have hil' := (hI.below hbl.out)
          have hi0 : wr.cell? ⟨bi, 0, none⟩ = some (.int .i64 2) := by simp [World.cell?, show wr.heap[bi]? = _ from hil']; rfl
          have hi1 : wr.cell? ⟨bi, 1, none⟩ = some (.int .i64 9) := by simp [World.cell?, show wr.heap[bi]? = _ from hil']; rfl
          have hi2 : wr.cell? ⟨bi, 2, none⟩ = some (.int .u64 9) := by simp [World.cell?, show wr.heap[bi]? = _ from hil']; rfl
          replace hil' := Lib.hid hil'
          go_wp2_with fail
          refine (Around_any x 100000 _ (by exact hx0.out) (by exact hx1.out) (by decide) (by decide)).mono ?_
          rintro e _ ⟨rfl, rfl⟩
          rw [hkq.out]
          have hidx : ∀ h : re < ([.int .i64 5, .int .i64 4, .int .i64 5] : List Value).length, ([.int .i64 5, .int .i64 4, .int .i64 5] : List Value)[re]'h = .int .i64 (nth [(5 : Int), 4, 5] re) := by
            intro h
            have : re = 0 ∨ re = 1 ∨ re = 2 := by omega
            rcases this with rfl | rfl | rfl <;> rfl
          replace hidx := Lib.hid hidx
          go_upto_region 22 with fail
          go_cut [13] from 83 to 98 (fun v T => ∃ bo : Nat, v = .pointer (some ⟨bo, 0, none⟩) ∧ OpAt T bo ⟨1 + r3, 20 + j, 11, ra, nth [(5 : Int), 4, 5] re, 0, 0, 0, qI, [], 0, 0⟩ none 0 ∧ wr.heap.size ≤ bo ∧ Below wr.heap.size wr T)
          case first =>
            obtain ⟨wd, hwd⟩ : ∃ wd, Hid (wr.drew = wd) := ⟨_, Lib.hid rfl⟩
            have hw0 : Below wr.heap.size wr wd := by rw [← hwd.out]; exact (Below.refl _ _).drew
            have hzw : wd.heap.size = wr.heap.size := by rw [← hwd.out]; rfl
            replace hi0 := (hw0.cell (cell_lt hi0)).trans hi0
            replace hi1 := (hw0.cell (cell_lt hi1)).trans hi1
            replace hi2 := (hw0.cell (cell_lt hi2)).trans hi2
            replace hzw := Lib.hid hzw
            have hb0 : Below wd.heap.size wd wd := Below.refl _ _
            refine wp_region_D (D := fun T => Below wd.heap.size wd T) (by kernel_rfl) ?_
            rw [hwd.out]
            change wpAnyD _ _ _ _ _ 18 _ _ _
            apply tkD 0 hb0 rfl (by kernel_rfl) (by kernel_rfl) (by kernel_rfl) (fun _ _ _ h => by first | exact h | exact absurd h.1 (fun h => by cases h)) (by kernel_rfl)
            · intro T hT
              go_simp
              try rfl
            try go_frame
            apply tkD 1 hb0 rfl (by kernel_rfl) (by kernel_rfl) (by kernel_rfl) (fun _ _ _ h => by first | exact h | exact absurd h.1 (fun h => by cases h)) (by kernel_rfl)
            · intro T hT
              go_simp
              try rfl
            try go_frame
            apply tkD 2 hb0 rfl (by kernel_rfl) (by kernel_rfl) (by kernel_rfl) (fun _ _ _ h => by first | exact h | exact absurd h.1 (fun h => by cases h)) (by kernel_rfl)
            · intro T hT
              go_simp
              try rfl
            try go_frame
            apply tkD 3 hb0 rfl (by kernel_rfl) (by kernel_rfl) (by kernel_rfl) (fun _ _ _ h => by first | exact h | exact absurd h.1 (fun h => by cases h)) (by kernel_rfl)
            · intro T hT
              go_simp
              try rfl
            try go_frame
            apply tkD 4 hb0 rfl (by kernel_rfl) (by kernel_rfl) (by kernel_rfl) (fun _ _ _ h => by first | exact h | exact absurd h.1 (fun h => by cases h)) (by kernel_rfl)
            · intro T hT
              go_simp
              try rfl
            try go_frame
            apply tkD 5 hb0 rfl (by kernel_rfl) (by kernel_rfl) (by kernel_rfl) (fun _ _ _ h => by first | exact h | exact absurd h.1 (fun h => by cases h)) (by kernel_rfl)
            · intro T hT
              go_simp
              try rfl
            try go_frame
            apply tkD 6 hb0 rfl (by kernel_rfl) (by kernel_rfl) (by kernel_rfl) (fun _ _ _ h => by first | exact h | exact absurd h.1 (fun h => by cases h)) (by kernel_rfl)
            · intro T hT
              go_simp
              try rfl
            try go_frame
            apply tkD 7 hb0 rfl (by kernel_rfl) (by kernel_rfl) (by kernel_rfl) (fun _ _ _ h => by first | exact h | exact absurd h.1 (fun h => by cases h)) (by kernel_rfl)
            · intro T hT
              go_simp
              try rfl
            try go_frame
            apply tkD 8 hb0 rfl (by kernel_rfl) (by kernel_rfl) (by kernel_rfl) (fun _ _ _ h => by first | exact h | exact absurd h.1 (fun h => by cases h)) (by kernel_rfl)
            · intro T hT
              have hT0 := (hT.cell (cell_lt hi0)).trans hi0
              have hT1 := (hT.cell (cell_lt hi1)).trans hi1
              have hT2 := (hT.cell (cell_lt hi2)).trans hi2
              go_simp
              try rfl
            try go_frame
            apply tkD 10 hb0 rfl (by kernel_rfl) (by kernel_rfl) (by kernel_rfl) (fun _ _ _ h => by first | exact h | exact absurd h.1 (fun h => by cases h)) (by kernel_rfl)
            · intro T hT
              go_simp
              try rfl
            try go_frame
            apply tkD 11 hb0 rfl (by kernel_rfl) (by kernel_rfl) (by kernel_rfl) (fun _ _ _ h => by first | exact h | exact absurd h.1 (fun h => by cases h)) (by kernel_rfl)
            · intro T hT
              go_simp
              try rfl
            try go_frame
            apply tkD 12 hb0 rfl (by kernel_rfl) (by kernel_rfl) (by kernel_rfl) (fun _ _ _ h => by first | exact h | exact absurd h.1 (fun h => by cases h)) (by kernel_rfl)
            · intro T hT
              go_simp
              try rfl
            try go_frame
            refine twoD 9 16 (by kernel_rfl) rfl rfl (by kernel_rfl) (by kernel_rfl) (fun K hK => ?_) (fun K hK => ?_)
            · go_simp
              have hS := UI.row wd [5, 4, 5] (by decide)
              obtain ⟨bS, oS, heS, _, hcS, _⟩ := hS.look (i := re) hre3
              injection heS with heS
              injection heS with heS1 heS2
              subst heS1; subst heS2
              rw [Nat.zero_add] at hcS
              have hb1 : Below wd.heap.size wd (wd.alloc (.cells #[.int .i64 5, .int .i64 4, .int .i64 5] 3)) := hb0.trans ((Below.lit wd _).mono hb0.size)
              refine hK _ _ ⟨hb1, ?_⟩
              clear hK K
              try go_frame
              clear hS
              apply tkD 13 hb1 rfl (by kernel_rfl) (by kernel_rfl) (by kernel_rfl) (fun _ _ _ h => by first | exact h | exact absurd h.1 (fun h => by cases h)) (by kernel_rfl)
              · intro T hT
                go_simp
                try rfl
              try go_frame
              refine twoD 14 16 (by kernel_rfl) rfl rfl (by kernel_rfl) (by kernel_rfl) (fun K hK => ?_) (fun K hK => ?_)
              · go_simp
                refine hK _ _ ⟨hb1, ?_⟩
                clear hK K
                try go_frame
                try rw [hidx.out]
                refine tkD 15 (v := .agg (opC ⟨1 + r3, 20 + j, 11, ra, nth [(5 : Int), 4, 5] re, 0, 0, 0, qI, [], 0, 0⟩ none 0)) hb1 rfl (by kernel_rfl) (by kernel_rfl) (by kernel_rfl) (fun _ _ _ h => by first | exact h | exact absurd h.1 (fun h => by cases h)) (by kernel_rfl) (fun T _ => run_buildOp rfl (by kernel_rfl)) ?_
                try go_frame
                refine oneD 16 (by kernel_rfl) rfl (by kernel_rfl) (fun K hK => ?_)
                refine wp_allocOp rfl ?_
                have hOA := OpAt.made (wd.alloc (.cells #[.int .i64 5, .int .i64 4, .int .i64 5] 3)) eZ none 0
                have hb2 : Below wd.heap.size wd ((wd.alloc (.cells #[.int .i64 5, .int .i64 4, .int .i64 5] 3)).alloc (.cells (opC eZ none 0) 42)) := hb1.trans ((Below.lit (wd.alloc (.cells #[.int .i64 5, .int .i64 4, .int .i64 5] 3)) _).mono hb1.size)
                have hlo : wd.heap.size ≤ (wd.alloc (.cells #[.int .i64 5, .int .i64 4, .int .i64 5] 3)).heap.size := hb1.size
                refine hK _ _ ⟨hb2, ?_⟩
                clear hK K
                try go_frame
                refine oneD 17 (by kernel_rfl) rfl (by kernel_rfl) (fun K hK => ?_)
                refine wp_storeOb _ _ rfl (n := ⟨1 + r3, 20 + j, 11, ra, nth [(5 : Int), 4, 5] re, 0, 0, 0, qI, [], 0, 0⟩) (gp := none) (gc := 0) rfl rfl hOA ?_
                have hbF := belowSetRow hb2 hlo (opC ⟨1 + r3, 20 + j, 11, ra, nth [(5 : Int), 4, 5] re, 0, 0, 0, qI, [], 0, 0⟩ none 0)
                have hOF := hOA.setRow (n := ⟨1 + r3, 20 + j, 11, ra, nth [(5 : Int), 4, 5] re, 0, 0, 0, qI, [], 0, 0⟩) (gp := none) (gc := 0)
                refine hK _ _ ⟨hbF, ?_⟩
                clear hK K
                try go_frame
                refine wpAnyD_done (by kernel_rfl) ?_ _
                go_wp2_with fail
                go_meet
                (try simp only [World.size_alloc] at hOF hlo hbF); exact ⟨_, rfl, hOF, Nat.le_trans hw0.size hlo, hw0.trans (hbF.mono hw0.size)⟩
              · refine wp_allocOp rfl ?_
                have hOA := OpAt.made (wd.alloc (.cells #[.int .i64 5, .int .i64 4, .int .i64 5] 3)) eZ none 0
                have hb2 : Below wd.heap.size wd ((wd.alloc (.cells #[.int .i64 5, .int .i64 4, .int .i64 5] 3)).alloc (.cells (opC eZ none 0) 42)) := hb1.trans ((Below.lit (wd.alloc (.cells #[.int .i64 5, .int .i64 4, .int .i64 5] 3)) _).mono hb1.size)
                have hlo : wd.heap.size ≤ (wd.alloc (.cells #[.int .i64 5, .int .i64 4, .int .i64 5] 3)).heap.size := hb1.size
                try simp only [World.size_alloc] at hOA hlo
                refine hK _ _ ⟨hb2, ?_⟩
                clear hK K
                try go_frame
                replace hcS := ((Below.lit (wd.alloc (.cells #[.int .i64 5, .int .i64 4, .int .i64 5] 3)) (.cells (opC eZ none 0) 42)).cell (cell_lt hcS)).trans hcS
                refine oneD 14 (by kernel_rfl) rfl (by kernel_rfl) (fun K hK => ?_)
                go_simp
                refine hK _ _ ⟨hb2, ?_⟩
                clear hK K
                try go_frame
                try rw [hidx.out]
                refine tkD 15 (v := .agg (opC ⟨1 + r3, 20 + j, 11, ra, nth [(5 : Int), 4, 5] re, 0, 0, 0, qI, [], 0, 0⟩ none 0)) hb2 rfl (by kernel_rfl) (by kernel_rfl) (by kernel_rfl) (fun _ _ _ h => by first | exact h | exact absurd h.1 (fun h => by cases h)) (by kernel_rfl) (fun T _ => run_buildOp rfl (by kernel_rfl)) ?_
                try go_frame
                refine oneD 17 (by kernel_rfl) rfl (by kernel_rfl) (fun K hK => ?_)
                refine wp_storeOb _ _ rfl (n := ⟨1 + r3, 20 + j, 11, ra, nth [(5 : Int), 4, 5] re, 0, 0, 0, qI, [], 0, 0⟩) (gp := none) (gc := 0) rfl rfl hOA ?_
                have hbF := belowSetRow hb2 hlo (opC ⟨1 + r3, 20 + j, 11, ra, nth [(5 : Int), 4, 5] re, 0, 0, 0, qI, [], 0, 0⟩ none 0)
                have hOF := hOA.setRow (n := ⟨1 + r3, 20 + j, 11, ra, nth [(5 : Int), 4, 5] re, 0, 0, 0, qI, [], 0, 0⟩) (gp := none) (gc := 0)
                refine hK _ _ ⟨hbF, ?_⟩
                clear hK K
                try go_frame
                refine wpAnyD_done (by kernel_rfl) ?_ _
                go_wp2_with fail
                go_meet
                (try simp only [World.size_alloc] at hOF hlo hbF); exact ⟨_, rfl, hOF, Nat.le_trans hw0.size hlo, hw0.trans (hbF.mono hw0.size)⟩
            · refine wp_allocOp rfl ?_
              have hOA := OpAt.made wd eZ none 0
              have hb1 : Below wd.heap.size wd (wd.alloc (.cells (opC eZ none 0) 42)) := hb0.trans ((Below.lit wd _).mono hb0.size)
              have hlo : wd.heap.size ≤ wd.heap.size := hb0.size
              try simp only [World.size_alloc] at hOA hlo
              refine hK _ _ ⟨hb1, ?_⟩
              clear hK K
              try go_frame
              refine oneD 9 (by kernel_rfl) rfl (by kernel_rfl) (fun K hK => ?_)
              go_simp
              have hS := UI.row (wd.alloc (.cells (opC eZ none 0) 42)) [5, 4, 5] (by decide)
              obtain ⟨bS, oS, heS, _, hcS, _⟩ := hS.look (i := re) hre3
              injection heS with heS
              injection heS with heS1 heS2
              subst heS1; subst heS2
              rw [Nat.zero_add] at hcS
              have hb2 : Below wd.heap.size wd ((wd.alloc (.cells (opC eZ none 0) 42)).alloc (.cells #[.int .i64 5, .int .i64 4, .int .i64 5] 3)) := hb1.trans ((Below.lit (wd.alloc (.cells (opC eZ none 0) 42)) _).mono hb1.size)
              refine hK _ _ ⟨hb2, ?_⟩
              clear hK K
              try go_frame
              clear hS
              apply tkD 13 hb2 rfl (by kernel_rfl) (by kernel_rfl) (by kernel_rfl) (fun _ _ _ h => by first | exact h | exact absurd h.1 (fun h => by cases h)) (by kernel_rfl)
              · intro T hT
                go_simp
                try rfl
              try go_frame
              replace hOA := hOA.below (Below.lit (wd.alloc (.cells (opC eZ none 0) 42)) (.cells #[.int .i64 5, .int .i64 4, .int .i64 5] 3)) (cell_lt hOA.cb)
              refine oneD 14 (by kernel_rfl) rfl (by kernel_rfl) (fun K hK => ?_)
              go_simp
              refine hK _ _ ⟨hb2, ?_⟩
              clear hK K
              try go_frame
              try rw [hidx.out]
              refine tkD 15 (v := .agg (opC ⟨1 + r3, 20 + j, 11, ra, nth [(5 : Int), 4, 5] re, 0, 0, 0, qI, [], 0, 0⟩ none 0)) hb2 rfl (by kernel_rfl) (by kernel_rfl) (by kernel_rfl) (fun _ _ _ h => by first | exact h | exact absurd h.1 (fun h => by cases h)) (by kernel_rfl) (fun T _ => run_buildOp rfl (by kernel_rfl)) ?_
              try go_frame
              refine oneD 17 (by kernel_rfl) rfl (by kernel_rfl) (fun K hK => ?_)
              refine wp_storeOb _ _ rfl (n := ⟨1 + r3, 20 + j, 11, ra, nth [(5 : Int), 4, 5] re, 0, 0, 0, qI, [], 0, 0⟩) (gp := none) (gc := 0) rfl rfl hOA ?_
              have hbF := belowSetRow hb2 hlo (opC ⟨1 + r3, 20 + j, 11, ra, nth [(5 : Int), 4, 5] re, 0, 0, 0, qI, [], 0, 0⟩ none 0)
              have hOF := hOA.setRow (n := ⟨1 + r3, 20 + j, 11, ra, nth [(5 : Int), 4, 5] re, 0, 0, 0, qI, [], 0, 0⟩) (gp := none) (gc := 0)
              refine hK _ _ ⟨hbF, ?_⟩
              clear hK K
              try go_frame
              refine wpAnyD_done (by kernel_rfl) ?_ _
              go_wp2_with fail
              go_meet
              (try simp only [World.size_alloc] at hOF hlo hbF); exact ⟨_, rfl, hOF, Nat.le_trans hw0.size hlo, hw0.trans (hbF.mono hw0.size)⟩
          case rest =>
            obtain ⟨bo, rfl, hOc, hbol, hbc⟩ := hcut
            obtain ⟨wv, rfl⟩ : ∃ wv, wv = wc := ⟨_, rfl⟩
            have hiv := hil'.out.below hbc
            have hj0 : wv.cell? ⟨bi, 0, none⟩ = some (.int .i64 2) := by simp [World.cell?, show wv.heap[bi]? = _ from hiv]; rfl
            have hj1 : wv.cell? ⟨bi, 1, none⟩ = some (.int .i64 9) := by simp [World.cell?, show wv.heap[bi]? = _ from hiv]; rfl
            have hj2 : wv.cell? ⟨bi, 2, none⟩ = some (.int .u64 9) := by simp [World.cell?, show wv.heap[bi]? = _ from hiv]; rfl
            replace hiv := Lib.hid hiv
            replace hbc := Lib.hid hbc
            replace hbol := Lib.hid hbol
            clear hi0 hi1 hi2
            go_upto_if 102 with fail
            go_cut [13] from 102 to 109 (fun v T => v = .pointer (some ⟨bo, 0, none⟩) ∧ OpAt T bo (rowO j kq) none 0 ∧ wv.grownBy T (some bo))
            case first =>
              clear qbv
              cases bv with
              | true =>
                have hrw : Hid (rowO j kq = ⟨2, 20 + j, 12, ra, 0, 0, 0, 0, qI, [], 0, 0⟩) := Lib.hid (by rw [hrow.out, if_pos rfl])
                go_wp2_with (first
                  | (refine wpL_build rfl 42 _ rfl (opC ⟨2, 20 + j, 12, ra, 0, 0, 0, 0, qI, [], 0, 0⟩ none 0) (by kernel_rfl) ?_; simp only [Act.put, List.setIfInBounds_toArray, List.set_cons_succ, List.set_cons_zero])
                  | (refine wpList_store_row rfl 42 _ _ rfl bo (opC ⟨2, 20 + j, 12, ra, 0, 0, 0, 0, qI, [], 0, 0⟩ none 0) rfl rfl 42 _ hOc (by kernel_rfl) rfl (opC_one _ _ _) ?_)
                  | fail)
                try go_frame
                go_meet
                rw [hrw.out]
                exact ⟨rfl, hOc.setRow, rfl, rfl, rfl, by simp [World.setRow], fun i _ hi => setRow_other wv bo i _ (fun e => hi (by rw [e]))⟩
              | false =>
                have hrw : Hid (rowO j kq = ⟨1 + r3, 20 + j, 11, ra, nth [(5 : Int), 4, 5] re, 0, 0, 0, qI, [], 0, 0⟩) := Lib.hid (by rw [hrow.out, if_neg (by decide)])
                go_wp2_with fail
                go_meet
                rw [hrw.out]
                exact ⟨rfl, hOc, rfl, rfl, rfl, Nat.le_refl _, fun _ _ _ => rfl⟩
            case rest =>
              obtain ⟨rfl, hOx, hgx2⟩ := hcut
              have hownx : OwnE opE wc wk.heap.size (.slice q j d) (rowL xs j) := by
                have h := (hown.out.below hbc.out).same (w' := wc) fun g hg => by
                    have h1 := hown.out.lt hg
                    exact hgx2.block g (Nat.lt_of_lt_of_le h1.2 hbc.out.size) (fun e => by injection e with e; have := hbol.out; omega)
                rwa [hll.out] at h
              have hbx : Below wk.heap.size wk wc := by
                have h1 := hbl.out.trans (hbc.out.mono hbl.out.size)
                exact h1.grown hgx2 h1.size (fun g e => by injection e with e; have := hbol.out; have := hbl.out.size; omega)
              have hzx := hbx.size
              have hlen : (rowL xs j).length ≤ 1000000 := by rw [hll.out]; omega
              obtain ⟨oj, hoj⟩ : ∃ oj, Hid (rowO j kq = oj) := ⟨_, Lib.hid rfl⟩
              rw [hoj.out] at hOx
              clear hj0 hj1 hj2 qbv
              go_wp2_with (first
                | (refine wpList_load_row rfl 42 _ rfl bo rfl 42 (opC oj none 0) (0, 0) _ hOx Tryd.underlying42 rfl (by kernel_rfl) ?_)
                | (refine Go.Great.wpList_buildSliceTo rfl 27 42 1 _ rfl wc.heap.size rfl _ rfl Tryd.underlying27 (opC oj none 0) (by kernel_rfl) ?_; simp only [Act.put, List.setIfInBounds_toArray, List.set_cons_succ, List.set_cons_zero])
                | (at_builtin; refine app_e opE rfl _ _ rfl (y := (oj, none, 0)) rfl hownx rfl rfl hlen hzx ?_; intro v9 w9 hown9 hg9)
                | fail)
              go_roundw
              case rel => exact ⟨j + 1, by omega, by omega, by go_num, by rw [rowL_succ, hx.out, hkq.out, hoj.out]; exact hown9, Lib.hid (hbx.grown hg9 hzx (fun g hg => (hown.out.lt (by rw [hll.out]; exact hg)).1))⟩
              case measure => simp [intOf]; omega
        · -- BEGIN3
          have hll := rowL_len xs j
          obtain ⟨q, d, rfl, hd, hRd, hfq, _, hoq⟩ := hown.u
          rw [hll]
          have hTj := hT.out.call hbl.out
          have hqo : Hid (∀ a, q = some a → a.block ∉ z1.foot ∧ a.block ∉ z2.foot) := Lib.hid (fun a ha => ⟨hT.out.a.high (hfq a ha), hT.out.b.high (hfq a ha)⟩)
          replace hll := Lib.hid hll
          replace hRd := Lib.hid hRd
          replace hTj := Lib.hid hTj
          clear hown hfq hoq
          go_upto_region 19 with fail
          go_cut [75] from 68 to 74 (fun v T => v = .bool false ∧ Hid (wr = T))
          case first =>
            by_cases hjn2 : j < n
            · have hj : j = 10 := by omega
              have t1 : decide ((j : Int) < (n : Int)) = true := decide_eq_true (by omega)
              have t2 : decide (j < n) = true := decide_eq_true hjn2
              have t3 : decide ((j : Int) < 10) = false := decide_eq_false (by omega)
              have t4 : decide (j < 10) = false := decide_eq_false (by omega)
              replace hj := Lib.hid hj
              go_wp2_with fail
              go_meet
              exact ⟨rfl, Lib.hid rfl⟩
            · have t1 : decide ((j : Int) < (n : Int)) = false := decide_eq_false (by omega)
              have t2 : decide (j < n) = false := decide_eq_false hjn2
              go_wp2_with fail
              go_meet
              exact ⟨rfl, Lib.hid rfl⟩
          case rest =>
            obtain ⟨rfl, hwT⟩ := hcut
            obtain rfl := hwT.out
            obtain ⟨ws, rfl⟩ : ∃ ws, ws = wr := ⟨_, rfl⟩
            have hms := rowOps_mem xs j (by omega)
            replace hms := Lib.hid hms
            replace hlt := Lib.hid hlt
            go_wp2_with fail
            go_loopw [14] (fun i wr => ∃ (k : Nat) (u1 u2 : Lay) (s1 s2 : RS), k ≤ j ∧ i = .int .i64 k ∧ TwoW w.heap.size r1 r2 w wr u1 u2 s1 s2 ∧ Hid (Kp2 ws wr z1 z2 u1 u2) ∧ Hid (∃ vo ob la, RowSt (fun x => x ∈ (rowOps xs j).take k) s1 vo ob la) ∧ Hid (∃ vo ob la, RowSt (fun x => x ∈ (rowOps xs j).drop (j - k)) s2 vo ob la) ∧ Hid (s1.Ok (9 + k) ∧ s2.Ok (9 + 2 * k))) (fun i _ => j - (intOf i).toNat)
            case atStart => exact ⟨0, z1, z2, sG 4, sG 4, by omega, rfl, hTj.out, Lib.hid (Kp2.refl _ _ _), Lib.hid ⟨_, _, _, row_start.congr (fun x => by simp)⟩, Lib.hid ⟨_, _, _, row_start.congr (fun x => by rw [Nat.sub_zero, List.drop_of_length_le (by rw [rowOps_len]; exact Nat.le_refl _)]; simp)⟩, Lib.hid ⟨sG_ok (by omega), sG_ok (by omega)⟩⟩
            case round =>
              obtain ⟨k, u1, u2, s1, s2, hk, rfl, hT3, hK3, hP1, hP2, hOk⟩ := hrel
              by_cases hkj : k < j
              · obtain ⟨m, hm⟩ : ∃ m : Nat, Hid (j = k + m + 1) := ⟨j - k - 1, Lib.hid (by omega)⟩
                obtain ⟨j1, hj1⟩ : ∃ j1 : Nat, Hid (j = j1 + 1) := ⟨j - 1, Lib.hid (by omega)⟩
                have a1 : ((j : Int) - 1) = (j1 : Int) := by have := hj1.out; omega
                have a2 : IntKind.i64.wrap (j1 : Int) = j1 := wrapS (by omega) (by have := hj1.out; omega)
                have a3 : ((j1 : Int) - (k : Int)) = (m : Int) := by have := hj1.out; have := hm.out; omega
                have a4 : IntKind.i64.wrap (m : Int) = m := wrapS (by omega) (by have := hm.out; omega)
                have a5 : IntKind.i64.wrap ((m : Int) + 50) = (m : Int) + 50 := wrapS (by omega) (by have := hm.out; omega)
                have t1 : decide ((k : Int) < (j : Int)) = true := decide_eq_true (by omega)
                have t2 : decide (k < j) = true := decide_eq_true hkj
                have hmj : m < j := by have := hm.out; omega
                have x1 : (0 : Int) ≤ (k : Int) := by omega
                have x2 : (k : Int) < (j : Int) := by omega
                have x3 : (0 : Int) ≤ (m : Int) := by omega
                have x4 : (m : Int) < (j : Int) := by omega
                have hkl : k < (rowL xs j).length := by rw [hll.out]; exact hkj
                have hml : m < (rowL xs j).length := by rw [hll.out]; exact hmj
                have hRd3 := hRd.out.kp2 hK3.out hqo.out
                obtain ⟨b3, f3, hqe, hb3l, hc30⟩ := hRd3.op hkl
                obtain ⟨b4, f4, hqe4, _, hc31⟩ := hRd3.op hml
                rw [hqe] at hqe4
                injection hqe4 with hqe4
                injection hqe4 with hqe41 hqe42
                subst hqe41; subst hqe42
                subst hqe
                have hko : k < (rowOps xs j).length := by rw [rowOps_len]; exact hkj
                have hmo : m < (rowOps xs j).length := by rw [rowOps_len]; exact hmj
                obtain ⟨ok, hok⟩ : ∃ ok, Hid ((rowOps xs j)[k] = ok) := ⟨_, Lib.hid rfl⟩
                obtain ⟨om, hom⟩ : ∃ om, Hid ((rowOps xs j)[m] = om) := ⟨_, Lib.hid rfl⟩
                replace hc30 : ∀ i u, (opC ok none 0)[i]? = some u → wr.cell? ⟨b3, f3 + k * 27 + i, none⟩ = some u := fun i u hu => hc30 i u (by rw [← hok.out] at hu; simpa [rowL] using hu)
                replace hc31 : ∀ i u, (opC om none 0)[i]? = some u → wr.cell? ⟨b3, f3 + m * 27 + i, none⟩ = some u := fun i u hu => hc31 i u (by rw [← hom.out] at hu; simpa [rowL] using hu)
                have hokm := Lib.hid (hms.out ok (hok.out ▸ List.getElem_mem hko))
                have homm := Lib.hid (hms.out om (hom.out ▸ List.getElem_mem hmo))
                obtain ⟨hOk1, hOk2⟩ := hOk.out
                have hqz3 := hqo.out _ rfl
                have hq3 := hK3.out.2 b3 (by obtain ⟨b0, f0', he0, hl0, _⟩ := hRd.out 0 (by rw [hll.out]; omega); injection he0 with he0; injection he0 with he0; rw [he0]; exact hl0) hqz3.1 hqz3.2
                have hq3l := hb3l
                replace hc31 := Lib.hid hc31
                replace hT3 := Lib.hid hT3
                replace hOk1 := Lib.hid hOk1
                replace hOk2 := Lib.hid hOk2
                replace hq3 := Lib.hid hq3
                replace hqz3 := Lib.hid hqz3
                replace hb3l := Lib.hid hb3l
                have hcell30 : ∀ T, (∃ z : GrIn wr, T = z.at_) → ∀ i u, (opC ok none 0)[i]? = some u → T.cell? ⟨b3, f3 + k * 27 + i, none⟩ = some u := fun T ⟨z, hz⟩ i u hu => by
                  rw [hz]
                  have h1 := hc30 i u hu
                  exact (z.gr.cell (p := ⟨b3, f3 + k * 27 + i, none⟩) (cell_lt h1)).trans h1
                replace hcell30 := Lib.hid hcell30
                go_wp2_with fail
                refine wp_region_gr_tail 11 (by kernel_rfl) (by kernel_rfl) ?_
                simp only [List.take_succ_cons, List.take_zero, List.drop_succ_cons, List.drop_zero]
                repeat (first
                  | (go_big_quiet_want; refine quiet_mid _ rfl rfl hcell30.out ?_; simp only [Act.put, List.setIfInBounds_toArray, List.set_cons_succ, List.set_cons_zero]; go_big_quiet_on)
                  | go_big_quiet_step ((go_at_call 14; rename_i z; refine (Name_any ok none 0 k _ hokm.out.1.hk (by omega)).mono ?_; rintro e w' ⟨rfl, hbz⟩; exact ⟨rfl, z.on hbz⟩)))
                refine wpQuiet_nil ?_
                rintro T ⟨z, rfl⟩
                have hTz := hT3.out.call z.gr
                have hUz : UI z.at_ none ok.gs.length ok.gs := by rw [hokm.out.2.2.1]; exact ⟨rfl, .nil, fun _ h => by cases h⟩
                go_wp2_with fail
                refine (Do_w hTz.a h0 ok none 0 (ok.name k) (9 + k) (by omega) hOk1.out hokm.out.1 hUz (fun h => absurd h hokm.out.2.2.2)).mono ?_
                rintro e wy ⟨rfl, hnx⟩
                obtain ⟨v1, hTy, hkA⟩ := hTz.doA hnx
                have hKA : Hid (Kp2 wr wy u1 u2 v1 u2) := Lib.hid ((Kp2.below z.gr u1 u2).trans hkA)
                have hky := hKA.out.2 b3 hb3l.out hq3.out.2.1 hq3.out.2.2
                replace hc31 : ∀ i u, (opC om none 0)[i]? = some u → wy.cell? ⟨b3, f3 + m * 27 + i, none⟩ = some u := fun i u hu => by
                  rw [← hc31.out i u hu]
                  simp only [World.cell?, hky.1]
                replace hky := Lib.hid hky
                have hc32 := Lib.hid hc31
                replace hTy := Lib.hid hTy
                have hcell31 : ∀ T, (∃ z : GrIn wy, T = z.at_) → ∀ i u, (opC om none 0)[i]? = some u → T.cell? ⟨b3, f3 + m * 27 + i, none⟩ = some u := fun T ⟨z, hz⟩ i u hu => by
                  rw [hz]
                  have h1 := hc31 i u hu
                  exact (z.gr.cell (p := ⟨b3, f3 + m * 27 + i, none⟩) (cell_lt h1)).trans h1
                replace hcell31 := Lib.hid hcell31
                go_wp2_with fail
                refine wp_region_gr_tail 11 (by kernel_rfl) (by kernel_rfl) ?_
                simp only [List.take_succ_cons, List.take_zero, List.drop_succ_cons, List.drop_zero]
                repeat (first
                  | (go_big_quiet_want; refine quiet_mid _ rfl rfl hcell31.out ?_; simp only [Act.put, List.setIfInBounds_toArray, List.set_cons_succ, List.set_cons_zero]; go_big_quiet_on)
                  | go_big_quiet_step ((go_at_call 14; rename_i z; refine (Name_any om none 0 m _ homm.out.1.hk (by omega)).mono ?_; rintro e w' ⟨rfl, hbz⟩; exact ⟨rfl, z.on hbz⟩)))
                refine wpQuiet_nil ?_
                rintro T ⟨z, rfl⟩
                have hTz := hTy.out.call z.gr
                have hUz : UI z.at_ none om.gs.length om.gs := by rw [homm.out.2.2.1]; exact ⟨rfl, .nil, fun _ h => by cases h⟩
                go_wp2_with fail
                refine (Do_w hTz.b h0 om none 0 (om.name m) (9 + 2 * k) (by omega) hOk2.out homm.out.1 hUz (fun h => absurd h homm.out.2.2.2)).mono ?_
                rintro e wz ⟨rfl, hnx⟩
                obtain ⟨v2, hTv, hkB⟩ := hTz.doB hnx
                have hKB : Hid (Kp2 wy wz v1 u2 v1 v2) := Lib.hid ((Kp2.below z.gr v1 u2).trans hkB)
                have hbly : b3 < wy.heap.size := Nat.lt_of_lt_of_le hb3l.out hKA.out.1
                have hkz := hKB.out.2 b3 hbly hky.out.2.1 hky.out.2.2
                replace hc32 : ∀ i u, (opC om none 0)[i]? = some u → wz.cell? ⟨b3, f3 + m * 27 + i, none⟩ = some u := fun i u hu => by
                  rw [← hc32.out i u hu]
                  simp only [World.cell?, hkz.1]
                replace hkz := Lib.hid hkz
                replace hTv := Lib.hid hTv
                have hOk3 : Hid ((s2.act om (om.name m)).Ok (9 + 2 * k + 1)) := Lib.hid (act_ok hOk2.out homm.out.1 _ (by omega) (fun h => absurd h homm.out.2.2.2))
                have hcell32 : ∀ T, (∃ z : GrIn wz, T = z.at_) → ∀ i u, (opC om none 0)[i]? = some u → T.cell? ⟨b3, f3 + m * 27 + i, none⟩ = some u := fun T ⟨z, hz⟩ i u hu => by
                  rw [hz]
                  have h1 := hc32 i u hu
                  exact (z.gr.cell (p := ⟨b3, f3 + m * 27 + i, none⟩) (cell_lt h1)).trans h1
                replace hcell32 := Lib.hid hcell32
                go_wp2_with fail
                refine wp_region_gr_tail 12 (by kernel_rfl) (by kernel_rfl) ?_
                simp only [List.take_succ_cons, List.take_zero, List.drop_succ_cons, List.drop_zero]
                repeat (first
                  | (go_big_quiet_want; refine quiet_mid _ rfl rfl hcell32.out ?_; simp only [Act.put, List.setIfInBounds_toArray, List.set_cons_succ, List.set_cons_zero]; go_big_quiet_on)
                  | go_big_quiet_step ((go_at_call 14; rename_i z; refine (Name_any om none 0 ((m : Int) + 50) _ homm.out.1.hk (by omega)).mono ?_; rintro e w' ⟨rfl, hbz⟩; exact ⟨rfl, z.on hbz⟩)))
                refine wpQuiet_nil ?_
                rintro T ⟨z, rfl⟩
                have hTz := hTv.out.call z.gr
                have hUz : UI z.at_ none om.gs.length om.gs := by rw [homm.out.2.2.1]; exact ⟨rfl, .nil, fun _ h => by cases h⟩
                go_wp2_with fail
                refine (Do_w hTz.b h0 om none 0 (om.name ((m : Int) + 50)) (9 + 2 * k + 1) (by omega) hOk3.out homm.out.1 hUz (fun h => absurd h homm.out.2.2.2)).mono ?_
                rintro e wu ⟨rfl, hnx⟩
                obtain ⟨v3, hTu, hkC⟩ := hTz.doB hnx
                have hKC : Hid (Kp2 wz wu v1 v2 v1 v3) := Lib.hid ((Kp2.below z.gr v1 v2).trans hkC)
                have hF1 : Hid ((s1.act ok (ok.name k)).Ok (9 + (k + 1)) ∧ ((s2.act om (om.name m)).act om (om.name ((m : Int) + 50))).Ok (9 + 2 * (k + 1))) := Lib.hid ⟨act_ok hOk1.out hokm.out.1 _ (by omega) (fun h => absurd h hokm.out.2.2.2), act_ok hOk3.out homm.out.1 _ (by omega) (fun h => absurd h homm.out.2.2.2)⟩
                have hF2 : Hid (∃ vo ob la, RowSt (fun x => x ∈ (rowOps xs j).take (k + 1)) (s1.act ok (ok.name k)) vo ob la) := Lib.hid (by
                  obtain ⟨_, _, _, h⟩ := hP1.out
                  obtain ⟨vo, ob, la, h2⟩ := row_step h hokm.out.2.1 (ok.name k)
                  refine ⟨vo, ob, la, h2.congr fun x => ?_⟩
                  rw [List.take_succ_eq_append_getElem hko, List.mem_append, List.mem_singleton, hok.out])
                have hF3 : Hid (∃ vo ob la, RowSt (fun x => x ∈ (rowOps xs j).drop (j - (k + 1))) ((s2.act om (om.name m)).act om (om.name ((m : Int) + 50))) vo ob la) := Lib.hid (by
                  obtain ⟨_, _, _, h⟩ := hP2.out
                  obtain ⟨_, _, _, h2⟩ := row_step h homm.out.2.1 (om.name m)
                  obtain ⟨vo, ob, la, h3⟩ := row_step h2 homm.out.2.1 (om.name ((m : Int) + 50))
                  refine ⟨vo, ob, la, h3.congr fun x => ?_⟩
                  have e1 : j - (k + 1) = m := by have := hm.out; omega
                  have e2 : j - k = m + 1 := by have := hm.out; omega
                  rw [e1, e2, List.drop_eq_getElem_cons hmo, List.mem_cons, hom.out]
                  constructor
                  · rintro ((h | h) | h)
                    · exact .inr h
                    · exact .inl h
                    · exact .inl h
                  · rintro (h | h)
                    · exact .inr h
                    · exact .inl (.inl h))
                go_wp2_with fail
                go_roundw
                case rel => exact ⟨k + 1, v1, v3, _, _, by omega, by go_num, hTu, Lib.hid (hK3.out.trans (hKA.out.trans (hKB.out.trans hKC.out))), hF2, hF3, hF1⟩
                case measure => simp [intOf]; omega
              · have hkj2 : k = j := by omega
                have hPa : ∃ vo ob la, RowSt (fun x => x ∈ rowOps xs j) s1 vo ob la := by
                  obtain ⟨vo, ob, la, h⟩ := hP1.out
                  refine ⟨vo, ob, la, h.congr fun x => ?_⟩
                  rw [hkj2, List.take_of_length_le (by rw [rowOps_len]; exact Nat.le_refl _)]
                have hPb : ∃ vo ob la, RowSt (fun x => x ∈ rowOps xs j) s2 vo ob la := by
                  obtain ⟨vo, ob, la, h⟩ := hP2.out
                  refine ⟨vo, ob, la, h.congr fun x => ?_⟩
                  rw [hkj2, Nat.sub_self, List.drop_zero]
                obtain ⟨_, _, _, hPa⟩ := hPa
                obtain ⟨_, _, _, hPb⟩ := hPb
                obtain ⟨hsame, hdue⟩ := row_same hPa hPb
                have hd1 := Due_any wr u1 s1 2 5 (9 + k) (by omega) hT3.a.roll hOk.out.1 (by unfold i64ok; omega)
                rw [hT3.a.hr] at hd1
                obtain ⟨dx, hdx⟩ : ∃ dx, Hid ((s1.due 2 5).1 = dx) := ⟨_, Lib.hid rfl⟩
                obtain ⟨de, hde⟩ : ∃ de, Hid ((s1.due 2 5).2 = de) := ⟨_, Lib.hid rfl⟩
                rw [hdx.out, hde.out] at hd1
                have hdx2 : Hid ((s2.due 2 5).1 = dx) := Lib.hid (by rw [← hdue]; exact hdx.out)
                have hde2 : Hid ((s2.due 2 5).2 = de) := Lib.hid (by rw [← hdue]; exact hde.out)
                replace hd1 := Lib.hid hd1
                replace hsame := Lib.hid hsame
                replace hdue := Lib.hid hdue
                replace hT3 := Lib.hid hT3
                replace hPa := Lib.hid hPa
                replace hPb := Lib.hid hPb
                replace hkj2 := Lib.hid hkj2
                have t1 : decide ((k : Int) < (j : Int)) = false := decide_eq_false (by omega)
                have t2 : decide (k < j) = false := decide_eq_false hkj
                go_wp2_with fail
                refine hd1.out.mono ?_
                rintro e wp ⟨rfl, hbp⟩
                have hTp := hT3.out.call hbp
                have hd2 := Due_any wp u2 s2 2 5 (9 + 2 * k) (by omega) hTp.b.roll hOk.out.2 (by unfold i64ok; omega)
                rw [hTp.b.hr, hdx2.out, hde2.out] at hd2
                replace hd2 := Lib.hid hd2
                replace hTp := Lib.hid hTp
                go_wp2_with fail
                refine hd2.out.mono ?_
                rintro e wq ⟨rfl, hbq2⟩
                have hTq := hTp.out.call hbq2
                have hsm := Same_any wq u1 u2 s1 s2 (9 + k) (9 + 2 * k) hTq.a.roll hTq.b.roll hOk.out.1 hOk.out.2
                rw [hTq.a.hr, hTq.b.hr, hsame.out] at hsm
                replace hsm := Lib.hid hsm
                replace hTq := Lib.hid hTq
                go_wp2_with fail
                refine hsm.out.mono ?_
                rintro e wr2 ⟨rfl, hbr2⟩
                have hTr := hTq.out.call hbr2
                go_wp2_with fail
                refine (lives_any _ hTr.a.asks).mono ?_
                rintro e wl2 ⟨rfl, hbl2⟩
                go_wp2_with fail
                go_ret
                exact ⟨rfl, hTr.a.below.trans (hbl2.mono hTr.a.hB)⟩
end Go.Proofs.YtkolilbebkkpdaaDoor

