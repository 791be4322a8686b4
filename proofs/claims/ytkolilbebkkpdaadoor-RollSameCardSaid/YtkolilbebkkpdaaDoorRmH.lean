/-
  An operation made of numbers: the walk.
  The operations that numbers make: the walk.
  A roll behind some operations: the walk of made.
  What lies beside a roll of one's own, kept over steps of the roll.
-/
import Derived.Test.YtkolilbebkkpdaaDoorRmG
import Derived.BigRegion
import Derived.Test.YtkolilbebkkpdaaDoorRmF
namespace Go.Proofs.YtkolilbebkkpdaaDoor
open Go.RowKit Go.Maps Go.BigFrame
attribute [local go_sem] in_gr

def kL (xs : List Int) : List Int := [kN xs 0, kN xs 1, kN xs 2, kN xs 3]
theorem kL_take {xs : List Int} {j : Nat} (hj : j < 4) : (kL xs).take (j + 1) = (kL xs).take j ++ [kN xs j] := by
 have : j = 0 ∨ j = 1 ∨ j = 2 ∨ j = 3 := by omega
 rcases this with rfl | rfl | rfl | rfl <;> rfl
set_option maxRecDepth 100000 in
set_option maxHeartbeats 40000000 in
theorem Op_any (w : World) (p : Option Addr) (n : Nat) (xs : List Int) (c : Nat) (hU : UI w p n xs) (q : Option Addr) (l : List (OpI × Option Addr × Nat)) (d : Nat) (hR : RdE opE w q l) (hl : l.length ≤ 1000) (hok : ∀ x ∈ l, x.1.Ok) :
  Calls Tryd.prog 22 #[.slice p n c, .slice q l.length d] w fun e w' => ∃ gp gc, e = .returned (.agg (opC (opN xs (l.map Prod.fst)) gp gc)) ∧ UI w' gp (opN xs (l.map Prod.fst)).gs.length (opN xs (l.map Prod.fst)).gs ∧ (∀ a, gp = some a → w.heap.size ≤ a.block ∧ a.block < w'.heap.size) ∧ Below w.heap.size w w' := by
 have hX := Lib.hid hU.len
 have hb0 := Below.lit w (.cells (opC eZ none 0) 42)
 have hZ0 := OpAt.made w eZ none 0
 obtain ⟨W0, hW0, hZ0⟩ := nameW (p := fun W => OpAt W w.heap.size eZ none 0) hZ0
 rw [hW0.out] at hb0
 have hz0 : w.heap.size < W0.heap.size := cell_lt hZ0.cb
 go_enter Tryd.func22, Tryd.ntmps22
 go_upto_region 1 with (first
  | (rw [hW0.out])
  | (refine wpL_alloc rfl rfl ?_; simp only [Act.put, List.setIfInBounds_toArray, List.set_cons_succ, List.set_cons_zero])
  | fail)
 go_wp2_with fail
 go_loopw [5, 6] (fun v i wr => ∃ j : Nat, j ≤ 4 ∧ i = .int .i64 j ∧ OwnI wr W0.heap.size v j ((kL xs).take j) ∧ Below W0.heap.size W0 wr) (fun _ i _ => 4 - (intOf i).toNat)
 case atStart => exact ⟨0, by omega, rfl, OwnI.nil _ _, Below.refl _ _⟩
 case round =>
  obtain ⟨j, hj, rfl, hown, hb⟩ := hrel
  by_cases hlt : j < 4
  ·have hix1 : (0 : Int) ≤ (j : Int) := by omega
   have hj4 : (j : Int) < 4 := by omega
   have hst := kL_take (xs := xs) hlt
   replace hst := Lib.hid hst
   have hzb := hb.size
   by_cases hjn : j < n
   ·have hkn : Hid (kN xs j = around (nth xs j) 1000000) := Lib.hid (by unfold kN; rw [if_pos (by rw [hX.out]; exact hjn)])
    obtain ⟨b, off, rfl, _, hc, hx0, hx1⟩ := ((hU.below hb0).below hb).look hjn
    have hix2 : (j : Int) < (n : Int) := by omega
    have hbd := kN_bd xs j
    obtain ⟨kj, hkj⟩ : ∃ kj, Hid (kN xs j = kj) := ⟨_, Lib.hid rfl⟩
    rw [hkj.out] at hbd
    obtain ⟨hbd0, hbd1⟩ := hbd
    go_wp2_with fail
    refine (Around_any (nth xs j) 1000000 _ hx0 hx1 (by decide) (by decide)).mono ?_
    rintro e _ ⟨rfl, rfl⟩
    rw [← hkn.out, hkj.out]
    go_wp2_with (first
     | (at_builtin; refine app_i rfl _ _ rfl hown rfl rfl ⟨by omega, by omega⟩ (by omega) hzb ?_; intro v5 W5 hown5 hb5)
     | fail)
    go_roundw
    case rel => exact ⟨j + 1, by omega, by go_num, by rw [hst.out, hkj.out]; exact hown5, hb.trans hb5⟩
    case measure => simp [intOf]; omega
   ·have hkn : Hid (kN xs j = 0) := Lib.hid (by unfold kN; rw [if_neg (by rw [hX.out]; exact hjn)])
    go_wp2_with (first
     | (at_builtin; refine app_i rfl _ _ rfl hown rfl rfl ⟨by omega, by omega⟩ (by omega) hzb ?_; intro v5 W5 hown5 hb5)
     | fail)
    go_roundw
    case rel => exact ⟨j + 1, by omega, by go_num, by rw [hst.out, hkn.out]; exact hown5, hb.trans hb5⟩
    case measure => simp [intOf]; omega
  ·have hj4 : j = 4 := by omega
   subst hj4
   replace hown : OwnI wr W0.heap.size u5 4 (kL xs) := hown
   obtain ⟨p5, c5, rfl, hc5, hU5, _⟩ := hown.u
   have hX4 : xs.length = xs.length := rfl
   have hb1 := hb.trans (Below.refl _ _)
   have b0 := kN_bd xs 0
   have b1 := kN_bd xs 1
   have b2 := kN_bd xs 2
   have b3 := kN_bd xs 3
   have hK0 := kindK_cases (kN xs 0) b0.1
   obtain ⟨b, off, rfl, _, c0, _⟩ := hU5.look (i := 0) (by decide)
   obtain ⟨b', off', he, _, c1, _⟩ := hU5.look (i := 1) (by decide)
   injection he with he; injection he with he1 he2; subst he1; subst he2
   obtain ⟨b', off', he, _, c2, _⟩ := hU5.look (i := 2) (by decide)
   injection he with he; injection he with he1 he2; subst he1; subst he2
   obtain ⟨b', off', he, _, c3, _⟩ := hU5.look (i := 3) (by decide)
   injection he with he; injection he with he1 he2; subst he1; subst he2
   obtain ⟨k0, hk0⟩ : ∃ k, Hid (kN xs 0 = k) := ⟨_, Lib.hid rfl⟩
   obtain ⟨k1, hk1⟩ : ∃ k, Hid (kN xs 1 = k) := ⟨_, Lib.hid rfl⟩
   obtain ⟨k2, hk2⟩ : ∃ k, Hid (kN xs 2 = k) := ⟨_, Lib.hid rfl⟩
   obtain ⟨k3, hk3⟩ : ∃ k, Hid (kN xs 3 = k) := ⟨_, Lib.hid rfl⟩
   rw [hk0.out] at b0 hK0
   rw [hk1.out] at b1
   rw [hk2.out] at b2
   rw [hk3.out] at b3
   replace c0 : wr.cell? ⟨b, off, none⟩ = some (.int .i64 k0) := by rw [← hk0.out]; exact c0
   replace c1 : wr.cell? ⟨b, off + 1, none⟩ = some (.int .i64 k1) := by rw [← hk1.out]; exact c1
   replace c2 : wr.cell? ⟨b, off + 2, none⟩ = some (.int .i64 k2) := by rw [← hk2.out]; exact c2
   replace c3 : wr.cell? ⟨b, off + 3, none⟩ = some (.int .i64 k3) := by rw [← hk3.out]; exact c3
   obtain ⟨b00, b01⟩ := b0
   obtain ⟨b10, b11⟩ := b1
   obtain ⟨b20, b21⟩ := b2
   obtain ⟨b30, b31⟩ := b3
   obtain ⟨K, hKd⟩ : ∃ K, Hid (kindK k0 = K) := ⟨_, Lib.hid rfl⟩
   rw [hKd.out] at hK0
   replace hK0 := Lib.hid hK0
   obtain ⟨r1, hr1⟩ : ∃ r, Hid (k1 % 7 = r) := ⟨_, Lib.hid rfl⟩
   have er1 : Int.tmod k1 7 = r1 := by rw [Int.tmod_eq_emod_of_nonneg b10]; exact hr1.out
   have r10 : 0 ≤ r1 := by have := hr1.out; omega
   have r17 : r1 < 7 := by have := hr1.out; omega
   obtain ⟨d0, hd0⟩ : ∃ r, Hid (k0 / 16 = r) := ⟨_, Lib.hid rfl⟩
   have ed0 : Int.tdiv k0 16 = d0 := by rw [Int.tdiv_eq_ediv_of_nonneg b00]; exact hd0.out
   have d00 : 0 ≤ d0 := by have := hd0.out; omega
   have d01 : d0 < 1000000 := by have := hd0.out; omega
   have wd0 : IntKind.i64.wrap d0 = d0 := wrapS (by omega) (by omega)
   obtain ⟨r0, hr0⟩ : ∃ r, Hid (d0 % 3 = r) := ⟨_, Lib.hid rfl⟩
   have er0 : Int.tmod d0 3 = r0 := by rw [Int.tmod_eq_emod_of_nonneg d00]; exact hr0.out
   have r00 : 0 ≤ r0 := by have := hr0.out; omega
   have r03 : r0 < 3 := by have := hr0.out; omega
   obtain ⟨m, hm⟩ : ∃ m, Hid (l.length = m) := ⟨_, Lib.hid rfl⟩
   have hm1 : (m : Int) ≤ 1000 := by have := hm.out; omega
   have hm0 : (0 : Int) ≤ (m : Int) := by omega
   have wr1 : IntKind.i64.wrap (1 + r1) = 1 + r1 := wrapS (by omega) (by omega)
   have wr2 : IntKind.i64.wrap (1 + (m : Int)) = 1 + m := wrapS (by omega) (by omega)
   have wr3 : IntKind.i64.wrap (2 * (m : Int)) = 2 * m := wrapS (by omega) (by omega)
   have wr4 : IntKind.i64.wrap (2 * (m : Int) + r0) = 2 * m + r0 := wrapS (by omega) (by omega)
   obtain ⟨q0, hq0⟩ : ∃ q : Nat, (k0 % 16).toNat = q := ⟨_, rfl⟩
   have hq1 : Int.tmod k0 16 = (q0 : Int) := by rw [Int.tmod_eq_emod_of_nonneg b00]; omega
   have hq16 : (q0 : Int) < 16 := by omega
   have hqn : q0 < 16 := by omega
   have hUk : UI (wr.alloc (.cells #[.int .i64 2, .int .i64 2, .int .i64 3, .int .i64 5, .int .i64 9, .int .i64 11, .int .i64 11, .int .i64 13, .int .i64 12, .int .i64 10, .int .i64 6, .int .i64 8, .int .i64 4, .int .i64 7, .int .i64 1, .int .i64 9] 3)) (some ⟨wr.heap.size, 0, none⟩) 16 kindsL := UI.row wr kindsL (by decide)
   have hbk := Below.lit wr (.cells #[.int .i64 2, .int .i64 2, .int .i64 3, .int .i64 5, .int .i64 9, .int .i64 11, .int .i64 11, .int .i64 13, .int .i64 12, .int .i64 10, .int .i64 6, .int .i64 8, .int .i64 4, .int .i64 7, .int .i64 1, .int .i64 9] 3)
   obtain ⟨Wk, hWk, hUk⟩ := nameW (p := fun W => UI W (some ⟨wr.heap.size, 0, none⟩) 16 kindsL) hUk
   rw [hWk.out] at hbk
   obtain ⟨b', off', he, _, ck, _⟩ := hUk.look (i := q0) (by omega)
   injection he with he; injection he with he1 he2; subst he1; subst he2
   replace ck : Wk.cell? ⟨wr.heap.size, q0, none⟩ = some (.int .i64 K) := by rw [← hKd.out]; unfold kindK; rw [hq0]; rw [Nat.zero_add] at ck; exact ck
   have g0 := (hbk.cell (p := ⟨b, off, none⟩) (cell_lt c0)).trans c0
   have g1 := (hbk.cell (p := ⟨b, off + 1, none⟩) (cell_lt c1)).trans c1
   have g2 := (hbk.cell (p := ⟨b, off + 2, none⟩) (cell_lt c2)).trans c2
   have g3 := (hbk.cell (p := ⟨b, off + 3, none⟩) (cell_lt c3)).trans c3
   obtain ⟨bk, hbkn⟩ : ∃ bk, Hid (wr.heap.size = bk) := ⟨_, Lib.hid rfl⟩
   go_upto_region 10 with (first | (rw [hWk.out]) | fail)
   rw [hbkn.out] at ck ⊢
   (try rw [hm.out])
   obtain ⟨wd, hwd⟩ : ∃ wd, Hid (Wk.drew = wd) := ⟨_, Lib.hid rfl⟩
   obtain ⟨o0, ho0⟩ : ∃ o, Hid ((⟨1 + r1, 1 + m, K, 2 * m + r0, 0, 0, 0, 0, ⟨0, 0, 0⟩, [], 0, 0⟩ : OpI) = o) := ⟨_, Lib.hid rfl⟩
   apply wp_post_eq (R := fun T => T = wd.alloc (.cells (opC ⟨1 + r1, 1 + m, K, 2 * m + r0, 0, 0, 0, 0, ⟨0, 0, 0⟩, [], 0, 0⟩ none 0) 42))
   ·refine wp_region_D (D := fun T => T.cell? ⟨b, off, none⟩ = some (.int .i64 k0) ∧ T.cell? ⟨b, off + 1, none⟩ = some (.int .i64 k1) ∧ T.cell? ⟨b, off + 2, none⟩ = some (.int .i64 k2) ∧ T.cell? ⟨b, off + 3, none⟩ = some (.int .i64 k3) ∧ T.cell? ⟨bk, q0, none⟩ = some (.int .i64 K)) (by kernel_rfl) ?_
    rw [hwd.out]
    change wpAnyD _ _ _ _ _ 27 _ _ _
    have hD : wd.cell? ⟨b, off, none⟩ = some (.int .i64 k0) ∧ wd.cell? ⟨b, off + 1, none⟩ = some (.int .i64 k1) ∧ wd.cell? ⟨b, off + 2, none⟩ = some (.int .i64 k2) ∧ wd.cell? ⟨b, off + 3, none⟩ = some (.int .i64 k3) ∧ wd.cell? ⟨bk, q0, none⟩ = some (.int .i64 K) := by rw [← hwd.out]; exact ⟨g0, g1, g2, g3, ck⟩
    apply wpAnyD_take (i := 0) hD rfl (by kernel_rfl) (by kernel_rfl) (by kernel_rfl) (fun _ _ _ h => by cases h.1) rfl
    ·intro T hT
     obtain ⟨f0, f1, f2, f3, f4⟩ := hT
     go_simp
     try rfl
    try simp only [Act.put, List.setIfInBounds_toArray, List.set_cons_succ, List.set_cons_zero, List.getElem_toArray, List.getElem_cons_zero]
    apply wpAnyD_take (i := 1) hD rfl (by kernel_rfl) (by kernel_rfl) (by kernel_rfl) (fun _ _ _ h => by cases h.1) rfl
    ·intro T hT
     obtain ⟨f0, f1, f2, f3, f4⟩ := hT
     go_simp
     try rfl
    try simp only [Act.put, List.setIfInBounds_toArray, List.set_cons_succ, List.set_cons_zero, List.getElem_toArray, List.getElem_cons_succ, List.getElem_cons_zero]
    apply wpAnyD_take (i := 2) hD rfl (by kernel_rfl) (by kernel_rfl) (by kernel_rfl) (fun _ _ _ h => by cases h.1) rfl
    ·intro T hT
     obtain ⟨f0, f1, f2, f3, f4⟩ := hT
     go_simp
     try rfl
    try simp only [Act.put, List.setIfInBounds_toArray, List.set_cons_succ, List.set_cons_zero, List.getElem_toArray, List.getElem_cons_succ, List.getElem_cons_zero]
    apply wpAnyD_take (i := 3) hD rfl (by kernel_rfl) (by kernel_rfl) (by kernel_rfl) (fun _ _ _ h => by cases h.1) rfl
    ·intro T hT
     obtain ⟨f0, f1, f2, f3, f4⟩ := hT
     go_simp
     try rfl
    try simp only [Act.put, List.setIfInBounds_toArray, List.set_cons_succ, List.set_cons_zero, List.getElem_toArray, List.getElem_cons_succ, List.getElem_cons_zero]
    apply wpAnyD_take (i := 4) hD rfl (by kernel_rfl) (by kernel_rfl) (by kernel_rfl) (fun _ _ _ h => by cases h.1) rfl
    ·intro T hT
     obtain ⟨f0, f1, f2, f3, f4⟩ := hT
     go_simp
     try rfl
    try simp only [Act.put, List.setIfInBounds_toArray, List.set_cons_succ, List.set_cons_zero, List.getElem_toArray, List.getElem_cons_succ, List.getElem_cons_zero]
    apply wpAnyD_take (i := 5) hD rfl (by kernel_rfl) (by kernel_rfl) (by kernel_rfl) (fun _ _ _ h => by cases h.1) rfl
    ·intro T hT
     obtain ⟨f0, f1, f2, f3, f4⟩ := hT
     go_simp
     try rfl
    try simp only [Act.put, List.setIfInBounds_toArray, List.set_cons_succ, List.set_cons_zero, List.getElem_toArray, List.getElem_cons_succ, List.getElem_cons_zero]
    apply wpAnyD_take (i := 6) hD rfl (by kernel_rfl) (by kernel_rfl) (by kernel_rfl) (fun _ _ _ h => by cases h.1) rfl
    ·intro T hT
     obtain ⟨f0, f1, f2, f3, f4⟩ := hT
     go_simp
     try rfl
    try simp only [Act.put, List.setIfInBounds_toArray, List.set_cons_succ, List.set_cons_zero, List.getElem_toArray, List.getElem_cons_succ, List.getElem_cons_zero]
    apply wpAnyD_take (i := 7) hD rfl (by kernel_rfl) (by kernel_rfl) (by kernel_rfl) (fun _ _ _ h => by cases h.1) rfl
    ·intro T hT
     obtain ⟨f0, f1, f2, f3, f4⟩ := hT
     go_simp
     try rfl
    try simp only [Act.put, List.setIfInBounds_toArray, List.set_cons_succ, List.set_cons_zero, List.getElem_toArray, List.getElem_cons_succ, List.getElem_cons_zero]
    apply wpAnyD_take (i := 8) hD rfl (by kernel_rfl) (by kernel_rfl) (by kernel_rfl) (fun _ _ _ h => by cases h.1) rfl
    ·intro T hT
     obtain ⟨f0, f1, f2, f3, f4⟩ := hT
     go_simp
     try rfl
    try simp only [Act.put, List.setIfInBounds_toArray, List.set_cons_succ, List.set_cons_zero, List.getElem_toArray, List.getElem_cons_succ, List.getElem_cons_zero]
    apply wpAnyD_take (i := 9) hD rfl (by kernel_rfl) (by kernel_rfl) (by kernel_rfl) (fun _ _ _ h => by cases h.1) rfl
    ·intro T hT
     obtain ⟨f0, f1, f2, f3, f4⟩ := hT
     go_simp
     try rfl
    try simp only [Act.put, List.setIfInBounds_toArray, List.set_cons_succ, List.set_cons_zero, List.getElem_toArray, List.getElem_cons_succ, List.getElem_cons_zero]
    apply wpAnyD_take (i := 10) hD rfl (by kernel_rfl) (by kernel_rfl) (by kernel_rfl) (fun _ _ _ h => by cases h.1) rfl
    ·intro T hT
     obtain ⟨f0, f1, f2, f3, f4⟩ := hT
     go_simp
     try rfl
    try simp only [Act.put, List.setIfInBounds_toArray, List.set_cons_succ, List.set_cons_zero, List.getElem_toArray, List.getElem_cons_succ, List.getElem_cons_zero]
    apply wpAnyD_take (i := 11) hD rfl (by kernel_rfl) (by kernel_rfl) (by kernel_rfl) (fun _ _ _ h => by cases h.1) rfl
    ·intro T hT
     obtain ⟨f0, f1, f2, f3, f4⟩ := hT
     go_simp
     try rfl
    try simp only [Act.put, List.setIfInBounds_toArray, List.set_cons_succ, List.set_cons_zero, List.getElem_toArray, List.getElem_cons_succ, List.getElem_cons_zero]
    apply wpAnyD_take (i := 12) hD rfl (by kernel_rfl) (by kernel_rfl) (by kernel_rfl) (fun _ _ _ h => by cases h.1) rfl
    ·intro T hT
     obtain ⟨f0, f1, f2, f3, f4⟩ := hT
     go_simp
     try rfl
    try simp only [Act.put, List.setIfInBounds_toArray, List.set_cons_succ, List.set_cons_zero, List.getElem_toArray, List.getElem_cons_succ, List.getElem_cons_zero]
    apply wpAnyD_take (i := 13) hD rfl (by kernel_rfl) (by kernel_rfl) (by kernel_rfl) (fun _ _ _ h => by cases h.1) rfl
    ·intro T hT
     obtain ⟨f0, f1, f2, f3, f4⟩ := hT
     go_simp
     try rfl
    try simp only [Act.put, List.setIfInBounds_toArray, List.set_cons_succ, List.set_cons_zero, List.getElem_toArray, List.getElem_cons_succ, List.getElem_cons_zero]
    apply wpAnyD_take (i := 14) hD rfl (by kernel_rfl) (by kernel_rfl) (by kernel_rfl) (fun _ _ _ h => by cases h.1) rfl
    ·intro T hT
     obtain ⟨f0, f1, f2, f3, f4⟩ := hT
     go_simp
     try rfl
    try simp only [Act.put, List.setIfInBounds_toArray, List.set_cons_succ, List.set_cons_zero, List.getElem_toArray, List.getElem_cons_succ, List.getElem_cons_zero]
    apply wpAnyD_take (i := 15) hD rfl (by kernel_rfl) (by kernel_rfl) (by kernel_rfl) (fun _ _ _ h => by cases h.1) rfl
    ·intro T hT
     obtain ⟨f0, f1, f2, f3, f4⟩ := hT
     go_simp
     try rfl
    try simp only [Act.put, List.setIfInBounds_toArray, List.set_cons_succ, List.set_cons_zero, List.getElem_toArray, List.getElem_cons_succ, List.getElem_cons_zero]
    apply wpAnyD_take (i := 16) hD rfl (by kernel_rfl) (by kernel_rfl) (by kernel_rfl) (fun _ _ _ h => by cases h.1) rfl
    ·intro T hT
     obtain ⟨f0, f1, f2, f3, f4⟩ := hT
     go_simp
     try rfl
    try simp only [Act.put, List.setIfInBounds_toArray, List.set_cons_succ, List.set_cons_zero, List.getElem_toArray, List.getElem_cons_succ, List.getElem_cons_zero]
    apply wpAnyD_take (i := 17) hD rfl (by kernel_rfl) (by kernel_rfl) (by kernel_rfl) (fun _ _ _ h => by cases h.1) rfl
    ·intro T hT
     obtain ⟨f0, f1, f2, f3, f4⟩ := hT
     go_simp
     try rfl
    try simp only [Act.put, List.setIfInBounds_toArray, List.set_cons_succ, List.set_cons_zero, List.getElem_toArray, List.getElem_cons_succ, List.getElem_cons_zero]
    apply wpAnyD_take (i := 18) hD rfl (by kernel_rfl) (by kernel_rfl) (by kernel_rfl) (fun _ _ _ h => by cases h.1) rfl
    ·intro T hT
     obtain ⟨f0, f1, f2, f3, f4⟩ := hT
     go_simp
     try rfl
    try simp only [Act.put, List.setIfInBounds_toArray, List.set_cons_succ, List.set_cons_zero, List.getElem_toArray, List.getElem_cons_succ, List.getElem_cons_zero]
    apply wpAnyD_take (i := 19) hD rfl (by kernel_rfl) (by kernel_rfl) (by kernel_rfl) (fun _ _ _ h => by cases h.1) rfl
    ·intro T hT
     obtain ⟨f0, f1, f2, f3, f4⟩ := hT
     go_simp
     try rfl
    try simp only [Act.put, List.setIfInBounds_toArray, List.set_cons_succ, List.set_cons_zero, List.getElem_toArray, List.getElem_cons_succ, List.getElem_cons_zero]
    apply wpAnyD_take (i := 20) hD rfl (by kernel_rfl) (by kernel_rfl) (by kernel_rfl) (fun _ _ _ h => by cases h.1) rfl
    ·intro T hT
     obtain ⟨f0, f1, f2, f3, f4⟩ := hT
     go_simp
     try rfl
    try simp only [Act.put, List.setIfInBounds_toArray, List.set_cons_succ, List.set_cons_zero, List.getElem_toArray, List.getElem_cons_succ, List.getElem_cons_zero]
    apply wpAnyD_take (i := 21) hD rfl (by kernel_rfl) (by kernel_rfl) (by kernel_rfl) (fun _ _ _ h => by cases h.1) rfl
    ·intro T hT
     obtain ⟨f0, f1, f2, f3, f4⟩ := hT
     go_simp
     try rfl
    try simp only [Act.put, List.setIfInBounds_toArray, List.set_cons_succ, List.set_cons_zero, List.getElem_toArray, List.getElem_cons_succ, List.getElem_cons_zero]
    apply wpAnyD_take (i := 22) hD rfl (by kernel_rfl) (by kernel_rfl) (by kernel_rfl) (fun _ _ _ h => by cases h.1) rfl
    ·intro T hT
     obtain ⟨f0, f1, f2, f3, f4⟩ := hT
     go_simp
     try rfl
    try simp only [Act.put, List.setIfInBounds_toArray, List.set_cons_succ, List.set_cons_zero, List.getElem_toArray, List.getElem_cons_succ, List.getElem_cons_zero]
    apply wpAnyD_take (i := 23) hD rfl (by kernel_rfl) (by kernel_rfl) (by kernel_rfl) (fun _ _ _ h => by cases h.1) rfl
    ·intro T hT
     obtain ⟨f0, f1, f2, f3, f4⟩ := hT
     go_simp
     try rfl
    try simp only [Act.put, List.setIfInBounds_toArray, List.set_cons_succ, List.set_cons_zero, List.getElem_toArray, List.getElem_cons_succ, List.getElem_cons_zero]
    refine wpAnyD_take (i := 24) (v := .agg (opC ⟨1 + r1, 1 + m, K, 2 * m + r0, 0, 0, 0, 0, ⟨0, 0, 0⟩, [], 0, 0⟩ none 0)) hD rfl (by kernel_rfl) (by kernel_rfl) (by kernel_rfl) (fun _ _ _ h => by cases h.1) rfl (fun T _ => run_buildOp rfl (by kernel_rfl)) ?_
    try simp only [Act.put, List.setIfInBounds_toArray, List.set_cons_succ, List.set_cons_zero, List.getElem_toArray, List.getElem_cons_succ, List.getElem_cons_zero]
    refine wpAnyD_one (i := 25) (by kernel_rfl) rfl rfl (fun K' hK => ?_)
    refine wp_allocOp rfl ?_
    have hbz := Below.lit wd (.cells (opC eZ none 0) 42)
    refine hK _ _ ⟨⟨(hbz.cell (p := ⟨b, off, none⟩) (cell_lt hD.1)).trans hD.1, (hbz.cell (p := ⟨b, off + 1, none⟩) (cell_lt hD.2.1)).trans hD.2.1, (hbz.cell (p := ⟨b, off + 2, none⟩) (cell_lt hD.2.2.1)).trans hD.2.2.1, (hbz.cell (p := ⟨b, off + 3, none⟩) (cell_lt hD.2.2.2.1)).trans hD.2.2.2.1, (hbz.cell (p := ⟨bk, q0, none⟩) (cell_lt hD.2.2.2.2)).trans hD.2.2.2.2⟩, ?_⟩
    clear hK K'
    try simp only [Act.put, List.setIfInBounds_toArray, List.set_cons_succ, List.set_cons_zero, List.getElem_toArray, List.getElem_cons_succ, List.getElem_cons_zero]
    refine wpAnyD_one (i := 26) (by kernel_rfl) rfl rfl (fun K' hK => ?_)
    refine wp_storeOp _ _ rfl (gp := none) (gc := 0) rfl rfl ?_
    have hbz := Below.lit wd (.cells (opC ⟨1 + r1, 1 + m, K, 2 * m + r0, 0, 0, 0, 0, ⟨0, 0, 0⟩, [], 0, 0⟩ none 0) 42)
    refine hK _ _ ⟨⟨(hbz.cell (p := ⟨b, off, none⟩) (cell_lt hD.1)).trans hD.1, (hbz.cell (p := ⟨b, off + 1, none⟩) (cell_lt hD.2.1)).trans hD.2.1, (hbz.cell (p := ⟨b, off + 2, none⟩) (cell_lt hD.2.2.1)).trans hD.2.2.1, (hbz.cell (p := ⟨b, off + 3, none⟩) (cell_lt hD.2.2.2.1)).trans hD.2.2.2.1, (hbz.cell (p := ⟨bk, q0, none⟩) (cell_lt hD.2.2.2.2)).trans hD.2.2.2.2⟩, ?_⟩
    clear hK
    try simp only [Act.put, List.getElem_toArray, List.getElem_cons_succ, List.getElem_cons_zero]
    exact wpAnyD_done (by kernel_rfl) ⟨rfl, rfl, rfl⟩ _
   rintro T rfl
   have hbz := Below.lit wd (.cells (opC ⟨1 + r1, 1 + m, K, 2 * m + r0, 0, 0, 0, 0, ⟨0, 0, 0⟩, [], 0, 0⟩ none 0) 42)
   have hOo := OpAt.made wd ⟨1 + r1, 1 + m, K, 2 * m + r0, 0, 0, 0, 0, ⟨0, 0, 0⟩, [], 0, 0⟩ none 0
   have hbd : Below Wk.heap.size Wk wd := by rw [← hwd.out]; exact (Below.refl _ _).drew
   have hbx := (hbk.trans (hbd.mono hbk.size)).trans (hbz.mono (Nat.le_trans hbk.size hbd.size))
   have hbno : b ≠ wd.heap.size := by have := cell_lt c0; have := hbk.size; have := hbd.size; simp only at *; omega
   obtain ⟨bo, hbo⟩ : ∃ bo, Hid (wd.heap.size = bo) := ⟨_, Lib.hid rfl⟩
   obtain ⟨wo, hwo, hOo⟩ := nameW (p := fun W => OpAt W wd.heap.size ⟨1 + r1, 1 + m, K, 2 * m + r0, 0, 0, 0, 0, ⟨0, 0, 0⟩, [], 0, 0⟩ none 0) hOo
   have hbo1 : W0.heap.size ≤ bo := by rw [← hbo.out]; exact Nat.le_trans hb.size (Nat.le_trans hbk.size hbd.size)
   rw [hbo.out] at hOo
   rw [hwo.out] at hbx
   rw [hwo.out]
   rw [hbo.out]
   have e0 := (hbx.cell (p := ⟨b, off, none⟩) (cell_lt c0)).trans c0
   have e1 := (hbx.cell (p := ⟨b, off + 1, none⟩) (cell_lt c1)).trans c1
   have e2 := (hbx.cell (p := ⟨b, off + 2, none⟩) (cell_lt c2)).trans c2
   have e3 := (hbx.cell (p := ⟨b, off + 3, none⟩) (cell_lt c3)).trans c3
   have hbW : Below W0.heap.size W0 wo := hb.trans (hbx.mono hb.size)
   have hRo : RdE opE wo q l := (hR.below hb0).below hbW
   have hzo := hbW.size
   clear c0 c1 c2 c3 g0 g1 g2 g3 hbx hbz hbd hbk hUk ck hWk hU5 hown hq1 hq16 hqn wr1 wr2 wr3 wr4 er1 ed0 er0 wd0
   change Exit.then _ _ _ _ wo
   go_wp2_with fail
   go_loopw [10, 11] (fun v i wr2 => ∃ j : Nat, j ≤ m ∧ i = .int .i64 j ∧ OwnE idE wr2 wo.heap.size v (gN (l.map Prod.fst) j) ∧ Below wo.heap.size wo wr2) (fun _ i _ => m - (intOf i).toNat)
   case atStart => exact ⟨0, Nat.zero_le _, rfl, OwnE.nil _ _, Below.refl _ _⟩
   case round =>
    obtain ⟨j, hj, rfl, hog, hbg⟩ := hrel
    by_cases hlt : j < m
    ·have hjl : j < l.length := by rw [hm.out]; exact hlt
     obtain ⟨bq, oq, rfl, hbql, hcq⟩ := (hRo.below hbg).op hjl
     obtain ⟨x, hx⟩ : ∃ x, Hid (l[j] = x) := ⟨_, Lib.hid rfl⟩
     rw [hx.out] at hcq
     have hxok := hok x (hx.out ▸ List.getElem_mem hjl)
     have hxk : wr.cell? ⟨bq, oq + j * 27 + 2, none⟩ = some (.int .i64 x.1.k) := hcq 2 _ rfl
     have hix1 : (0 : Int) ≤ (j : Int) := by omega
     have hix2 : (j : Int) < (m : Int) := by omega
     have hgl := gN_len (l.map Prod.fst) j
     have hxd : (l.map Prod.fst).getD j opZ = x.1 := by
      rw [List.getD_eq_getElem?_getD, List.getElem?_map, List.getElem?_eq_getElem hjl, hx.out]; rfl
     have hgs : gN (l.map Prod.fst) (j + 1) = gN (l.map Prod.fst) j ++ (if x.1.k = 9 then [x.1.name j] else []) := by
      show gN _ j ++ _ = _
      rw [hxd]
     replace hgs := Lib.hid hgs
     replace hcq := Lib.hid hcq
     replace hxok := Lib.hid hxok
     obtain ⟨kx, hkx⟩ : ∃ kx, Hid (x.1.k = kx) := ⟨_, Lib.hid rfl⟩
     rw [hkx.out] at hxk
     by_cases h9 : kx = 9
     ·subst h9
      have t9 : ((9 : Int) == 9) = true := rfl
      have hgs2 : Hid (gN (l.map Prod.fst) (j + 1) = gN (l.map Prod.fst) j ++ [⟨x.1.b, j + 1, 9⟩]) := Lib.hid (by rw [hgs.out, hkx.out, if_pos rfl]; show _ ++ [(⟨x.1.b, (j : Int) + 1, x.1.k⟩ : Idn)] = _; rw [hkx.out])
      have hzg := hbg.size
      go_wp2_with (first | (refine wpL_loadO rfl _ rfl bq (oq + j * 27) rfl x.1 x.2.1 x.2.2 hcq.out ?_) | fail)
      refine (Name_w (b := x.1.b) (s := (j : Int) + 1) (u := 9) x.1 x.2.1 x.2.2 j _ hxok.out.hk (by omega) rfl rfl hkx.out).mono ?_
      rintro e w4 ⟨rfl, hb4⟩
      have hog4 := hog.below hb4
      have hz4 : wo.heap.size ≤ w4.heap.size := Nat.le_trans hzg hb4.size
      go_wp2_with (first
       | (at_builtin; refine app_e idE rfl _ _ rfl (y := ⟨x.1.b, (j : Int) + 1, 9⟩) rfl hog4 rfl rfl (by omega) hz4 ?_; intro v5 w5 hog5 hg5)
       | fail)
      have hb5 : Below wo.heap.size wo w5 := by
       have h1 := hbg.trans (hb4.mono hzg)
       exact h1.grown hg5 hz4 (fun g hg => (hog4.lt hg).1)
      go_roundw
      case rel => exact ⟨j + 1, by omega, by go_num, by rw [hgs2.out]; exact hog5, hb5⟩
      case measure => simp [intOf]; omega
     ·have t9 : (kx == 9) = false := beq_eq_false_iff_ne.2 h9
      have hgs2 : Hid (gN (l.map Prod.fst) (j + 1) = gN (l.map Prod.fst) j) := Lib.hid (by rw [hgs.out, hkx.out, if_neg h9, List.append_nil])
      go_wp2_with fail
      go_roundw
      case rel => exact ⟨j + 1, by omega, by go_num, by rw [hgs2.out]; exact hog, hbg⟩
      case measure => simp [intOf]; omega
    ·have hjm : j = m := by omega
     obtain ⟨G, hG⟩ : ∃ G, Hid (gN (l.map Prod.fst) (l.map Prod.fst).length = G) := ⟨_, Lib.hid rfl⟩
     have hjG : gN (l.map Prod.fst) j = G := by rw [← hG.out, List.length_map, hjm, ← hm.out]
     rw [hjG] at hog
     have hGl : G.length ≤ 1000 := by rw [← hG.out]; have := gN_len (l.map Prod.fst) (l.map Prod.fst).length; rw [List.length_map] at this ⊢; omega
     obtain ⟨pg, cg, rfl, hcg, hRg, _, _, _⟩ := hog.u
     have x0 := (hbg.cell (p := ⟨b, off, none⟩) (cell_lt e0)).trans e0
     have x1 := (hbg.cell (p := ⟨b, off + 1, none⟩) (cell_lt e1)).trans e1
     have x2 := (hbg.cell (p := ⟨b, off + 2, none⟩) (cell_lt e2)).trans e2
     have x3 := (hbg.cell (p := ⟨b, off + 3, none⟩) (cell_lt e3)).trans e3
     have hO2 := hOo.below hbg (cell_lt hOo.cb)
     have hbW2 : Below W0.heap.size W0 wr := hbW.trans (hbg.mono hzo)
     clear e0 e1 e2 e3 hOo hRo hR hU hog hcg
     obtain ⟨s1, hs1⟩ : ∃ r, Hid (k3 % 7 = r) := ⟨_, Lib.hid rfl⟩
     have es1 : Int.tmod k3 7 = s1 := by rw [Int.tmod_eq_emod_of_nonneg b30]; exact hs1.out
     have s10 : 0 ≤ s1 := by have := hs1.out; omega
     have s17 : s1 < 7 := by have := hs1.out; omega
     obtain ⟨dv, hdv⟩ : ∃ r, Hid (k3 / 7 = r) := ⟨_, Lib.hid rfl⟩
     have edv : Int.tdiv k3 7 = dv := by rw [Int.tdiv_eq_ediv_of_nonneg b30]; exact hdv.out
     have dv0 : 0 ≤ dv := by have := hdv.out; omega
     have dv1 : dv < 1000000 := by have := hdv.out; omega
     have wdv : IntKind.i64.wrap dv = dv := wrapS (by omega) (by omega)
     obtain ⟨s2, hs2⟩ : ∃ r, Hid (dv % 4 = r) := ⟨_, Lib.hid rfl⟩
     have es2 : Int.tmod dv 4 = s2 := by rw [Int.tmod_eq_emod_of_nonneg dv0]; exact hs2.out
     have s20 : 0 ≤ s2 := by have := hs2.out; omega
     have s24 : s2 < 4 := by have := hs2.out; omega
     have ws1 : IntKind.i64.wrap (1 + s1) = 1 + s1 := wrapS (by omega) (by omega)
     have ws2 : IntKind.i64.wrap (1 + s2) = 1 + s2 := wrapS (by omega) (by omega)
     go_upto_region 17 with fail
     obtain ⟨we, hwe⟩ : ∃ we, Hid (wr.drew = we) := ⟨_, Lib.hid rfl⟩
     have hbe : Below wr.heap.size wr we := by rw [← hwe.out]; exact (Below.refl _ _).drew
     apply wp_post_eq (R := fun T => T = we.alloc (.cells #[.int .i64 (1 + s1), .int .i64 (1 + s2), .int .u64 0] 34))
     ·refine wp_region_D (D := fun T => T.cell? ⟨b, off, none⟩ = some (.int .i64 k0) ∧ T.cell? ⟨b, off + 1, none⟩ = some (.int .i64 k1) ∧ T.cell? ⟨b, off + 2, none⟩ = some (.int .i64 k2) ∧ T.cell? ⟨b, off + 3, none⟩ = some (.int .i64 k3)) (by kernel_rfl) ?_
      rw [hwe.out]
      change wpAnyD _ _ _ _ _ 14 _ _ _
      have hD : we.cell? ⟨b, off, none⟩ = some (.int .i64 k0) ∧ we.cell? ⟨b, off + 1, none⟩ = some (.int .i64 k1) ∧ we.cell? ⟨b, off + 2, none⟩ = some (.int .i64 k2) ∧ we.cell? ⟨b, off + 3, none⟩ = some (.int .i64 k3) := by rw [← hwe.out]; exact ⟨x0, x1, x2, x3⟩
      apply wpAnyD_take (i := 0) hD rfl (by kernel_rfl) (by kernel_rfl) (by kernel_rfl) (fun _ _ _ h => by cases h.1) rfl
      ·intro T hT
       obtain ⟨f0, f1, f2, f3⟩ := hT
       go_simp
       try rfl
      try simp only [Act.put, List.setIfInBounds_toArray, List.set_cons_succ, List.set_cons_zero, List.getElem_toArray, List.getElem_cons_zero]
      apply wpAnyD_take (i := 1) hD rfl (by kernel_rfl) (by kernel_rfl) (by kernel_rfl) (fun _ _ _ h => by cases h.1) rfl
      ·intro T hT
       obtain ⟨f0, f1, f2, f3⟩ := hT
       go_simp
       try rfl
      try simp only [Act.put, List.setIfInBounds_toArray, List.set_cons_succ, List.set_cons_zero, List.getElem_toArray, List.getElem_cons_succ, List.getElem_cons_zero]
      apply wpAnyD_take (i := 2) hD rfl (by kernel_rfl) (by kernel_rfl) (by kernel_rfl) (fun _ _ _ h => by cases h.1) rfl
      ·intro T hT
       obtain ⟨f0, f1, f2, f3⟩ := hT
       go_simp
       try rfl
      try simp only [Act.put, List.setIfInBounds_toArray, List.set_cons_succ, List.set_cons_zero, List.getElem_toArray, List.getElem_cons_succ, List.getElem_cons_zero]
      apply wpAnyD_take (i := 3) hD rfl (by kernel_rfl) (by kernel_rfl) (by kernel_rfl) (fun _ _ _ h => by cases h.1) rfl
      ·intro T hT
       obtain ⟨f0, f1, f2, f3⟩ := hT
       go_simp
       try rfl
      try simp only [Act.put, List.setIfInBounds_toArray, List.set_cons_succ, List.set_cons_zero, List.getElem_toArray, List.getElem_cons_succ, List.getElem_cons_zero]
      apply wpAnyD_take (i := 4) hD rfl (by kernel_rfl) (by kernel_rfl) (by kernel_rfl) (fun _ _ _ h => by cases h.1) rfl
      ·intro T hT
       obtain ⟨f0, f1, f2, f3⟩ := hT
       go_simp
       try rfl
      try simp only [Act.put, List.setIfInBounds_toArray, List.set_cons_succ, List.set_cons_zero, List.getElem_toArray, List.getElem_cons_succ, List.getElem_cons_zero]
      apply wpAnyD_take (i := 5) hD rfl (by kernel_rfl) (by kernel_rfl) (by kernel_rfl) (fun _ _ _ h => by cases h.1) rfl
      ·intro T hT
       obtain ⟨f0, f1, f2, f3⟩ := hT
       go_simp
       try rfl
      try simp only [Act.put, List.setIfInBounds_toArray, List.set_cons_succ, List.set_cons_zero, List.getElem_toArray, List.getElem_cons_succ, List.getElem_cons_zero]
      apply wpAnyD_take (i := 6) hD rfl (by kernel_rfl) (by kernel_rfl) (by kernel_rfl) (fun _ _ _ h => by cases h.1) rfl
      ·intro T hT
       obtain ⟨f0, f1, f2, f3⟩ := hT
       go_simp
       try rfl
      try simp only [Act.put, List.setIfInBounds_toArray, List.set_cons_succ, List.set_cons_zero, List.getElem_toArray, List.getElem_cons_succ, List.getElem_cons_zero]
      apply wpAnyD_take (i := 7) hD rfl (by kernel_rfl) (by kernel_rfl) (by kernel_rfl) (fun _ _ _ h => by cases h.1) rfl
      ·intro T hT
       obtain ⟨f0, f1, f2, f3⟩ := hT
       go_simp
       try rfl
      try simp only [Act.put, List.setIfInBounds_toArray, List.set_cons_succ, List.set_cons_zero, List.getElem_toArray, List.getElem_cons_succ, List.getElem_cons_zero]
      apply wpAnyD_take (i := 8) hD rfl (by kernel_rfl) (by kernel_rfl) (by kernel_rfl) (fun _ _ _ h => by cases h.1) rfl
      ·intro T hT
       obtain ⟨f0, f1, f2, f3⟩ := hT
       go_simp
       try rfl
      try simp only [Act.put, List.setIfInBounds_toArray, List.set_cons_succ, List.set_cons_zero, List.getElem_toArray, List.getElem_cons_succ, List.getElem_cons_zero]
      apply wpAnyD_take (i := 9) hD rfl (by kernel_rfl) (by kernel_rfl) (by kernel_rfl) (fun _ _ _ h => by cases h.1) rfl
      ·intro T hT
       obtain ⟨f0, f1, f2, f3⟩ := hT
       go_simp
       try rfl
      try simp only [Act.put, List.setIfInBounds_toArray, List.set_cons_succ, List.set_cons_zero, List.getElem_toArray, List.getElem_cons_succ, List.getElem_cons_zero]
      apply wpAnyD_take (i := 10) hD rfl (by kernel_rfl) (by kernel_rfl) (by kernel_rfl) (fun _ _ _ h => by cases h.1) rfl
      ·intro T hT
       obtain ⟨f0, f1, f2, f3⟩ := hT
       go_simp
       try rfl
      try simp only [Act.put, List.setIfInBounds_toArray, List.set_cons_succ, List.set_cons_zero, List.getElem_toArray, List.getElem_cons_succ, List.getElem_cons_zero]
      refine wpAnyD_take (i := 11) (v := .agg #[.int .i64 (1 + s1), .int .i64 (1 + s2), .int .u64 0]) hD rfl (by kernel_rfl) (by kernel_rfl) (by kernel_rfl) (fun _ _ _ h => by cases h.1) rfl (fun T _ => run_buildOp rfl (by kernel_rfl)) ?_
      try simp only [Act.put, List.setIfInBounds_toArray, List.set_cons_succ, List.set_cons_zero, List.getElem_toArray, List.getElem_cons_succ, List.getElem_cons_zero]
      refine wpAnyD_one (i := 12) (by kernel_rfl) rfl rfl (fun K' hK => ?_)
      refine wp_allocId rfl ?_
      have hbz := Below.lit we (.cells #[.int .i64 0, .int .i64 0, .int .u64 0] 34)
      refine hK _ _ ⟨⟨(hbz.cell (p := ⟨b, off, none⟩) (cell_lt hD.1)).trans hD.1, (hbz.cell (p := ⟨b, off + 1, none⟩) (cell_lt hD.2.1)).trans hD.2.1, (hbz.cell (p := ⟨b, off + 2, none⟩) (cell_lt hD.2.2.1)).trans hD.2.2.1, (hbz.cell (p := ⟨b, off + 3, none⟩) (cell_lt hD.2.2.2)).trans hD.2.2.2⟩, ?_⟩
      clear hK K'
      try simp only [Act.put, List.setIfInBounds_toArray, List.set_cons_succ, List.set_cons_zero, List.getElem_toArray, List.getElem_cons_succ, List.getElem_cons_zero]
      refine wpAnyD_one (i := 13) (by kernel_rfl) rfl rfl (fun K' hK => ?_)
      refine wp_storeId _ _ rfl (i := ⟨1 + s1, 1 + s2, 0⟩) rfl rfl ?_
      have hbz := Below.lit we (.cells #[.int .i64 (1 + s1), .int .i64 (1 + s2), .int .u64 0] 34)
      refine hK _ _ ⟨⟨(hbz.cell (p := ⟨b, off, none⟩) (cell_lt hD.1)).trans hD.1, (hbz.cell (p := ⟨b, off + 1, none⟩) (cell_lt hD.2.1)).trans hD.2.1, (hbz.cell (p := ⟨b, off + 2, none⟩) (cell_lt hD.2.2.1)).trans hD.2.2.1, (hbz.cell (p := ⟨b, off + 3, none⟩) (cell_lt hD.2.2.2)).trans hD.2.2.2⟩, ?_⟩
      clear hK
      try simp only [Act.put, List.getElem_toArray, List.getElem_cons_succ, List.getElem_cons_zero]
      exact wpAnyD_done (by kernel_rfl) ⟨rfl, rfl, rfl⟩ _
     rintro T rfl
     have hI17 : IdAt (we.alloc (.cells #[.int .i64 (1 + s1), .int .i64 (1 + s2), .int .u64 0] 34)) we.heap.size ⟨1 + s1, 1 + s2, 0⟩ := IdAt.made we ⟨1 + s1, 1 + s2, 0⟩
     have hb17 := Below.lit we (.cells #[.int .i64 (1 + s1), .int .i64 (1 + s2), .int .u64 0] 34)
     obtain ⟨bf, hbf⟩ : ∃ bf, Hid (we.heap.size = bf) := ⟨_, Lib.hid rfl⟩
     obtain ⟨wf, hwf, hI17⟩ := nameW (p := fun W => IdAt W we.heap.size ⟨1 + s1, 1 + s2, 0⟩) hI17
     rw [hbf.out] at hI17
     rw [hwf.out] at hb17
     rw [hwf.out, hbf.out]
     have hbwf : Below wr.heap.size wr wf := hbe.trans (hb17.mono hbe.size)
     have hbf1 : wr.heap.size ≤ bf := by rw [← hbf.out]; exact hbe.size
     have hbob : bo < wr.heap.size := cell_lt hO2.cb
     have hbfo : bf ≠ bo := by omega
     have hbbf0 : ¬ b = bf := by have := cell_lt x1; simp only at this; omega
     have hbb : b ≠ bo := by rw [← hbo.out]; exact hbno
     have hb0o : w.heap.size < bo := by omega
     have hOf := hO2.below hbwf hbob
     have hRf := hRg.below hbwf
     have hSf : OpSt w b off k1 k2 k3 bf ⟨1 + s1, 1 + s2, 0⟩ wf := ⟨(hbwf.cell (p := ⟨b, _, none⟩) (cell_lt x1)).trans x1, (hbwf.cell (p := ⟨b, _, none⟩) (cell_lt x2)).trans x2, (hbwf.cell (p := ⟨b, _, none⟩) (cell_lt x3)).trans x3, hI17, (hZ0.below hbW2 hz0).below hbwf (Nat.lt_of_lt_of_le hz0 hbW2.size), (hb0.trans (hbW2.mono (Nat.le_of_lt hz0))).trans (hbwf.mono (Nat.le_trans (Nat.le_of_lt hz0) hbW2.size))⟩
     have y3 := hSf.c3
     have hop : opN xs (l.map Prod.fst) = opK K (1 + r1) (1 + m) (2 * m + r0) k1 k2 k3 (ofK k3 G) := by
      unfold opN
      rw [hk0.out, hk1.out, hk2.out, hk3.out, hKd.out, hG.out, List.length_map, hm.out, hr1.out, hd0.out, hr0.out]
     have hof0 : G.length = 0 → ofK k3 G = ⟨1 + s1, 1 + s2, 0⟩ := fun h => by
      unfold ofK
      rw [if_pos h, hs1.out, hdv.out, hs2.out]
     replace hop := Lib.hid hop
     replace hof0 := Lib.hid hof0
     replace hOf := Lib.hid hOf
     replace hSf := Lib.hid hSf
     clear x0 x1 x2 x3 hO2 hRg hbe hb17 hbwf hbW2 es1 edv es2 ws1 ws2 wdv hbW hbg hjG
     change Exit.then _ _ _ _ wf
     go_upto_if 91 with fail
     go_cut [12] from 92 to 100 (fun v wx => v = .pointer (some ⟨bf, 0, none⟩) ∧ OpSt w b off k1 k2 k3 bf (ofK k3 G) wx ∧ OpAt wx bo ⟨1 + r1, 1 + m, K, 2 * m + r0, 0, 0, 0, 0, ⟨0, 0, 0⟩, [], 0, 0⟩ none 0)
     case first =>
      by_cases hG0 : G.length = 0
      ·have hz : decide ((G.length : Int) > 0) = false := decide_eq_false (by omega)
       go_wp2_with fail
       go_meet
       exact ⟨rfl, by rw [hof0.out hG0]; exact hSf.out, hOf.out⟩
      ·obtain ⟨qg, hqg⟩ : ∃ q : Nat, (k3 % G.length).toNat = q := ⟨_, rfl⟩
       have hm1 := Int.emod_nonneg k3 (b := (G.length : Int)) (by omega)
       have hm2 := Int.emod_lt_of_pos k3 (b := (G.length : Int)) (by omega)
       have hqG : qg < G.length := by omega
       have eqg : Int.tmod k3 (G.length : Int) = (qg : Int) := by rw [Int.tmod_eq_emod_of_nonneg b30]; omega
       have hqi : (qg : Int) < (G.length : Int) := by omega
       have hqi0 : (0 : Int) ≤ (qg : Int) := by omega
       have hzz : ((G.length : Int) == 0) = false := beq_eq_false_iff_ne.2 (by omega)
       have hzn : (G.length : Int) ≠ 0 := by omega
       have hzp : decide ((G.length : Int) > 0) = true := decide_eq_true (by omega)
       have hzp2 : decide (0 < G.length) = true := decide_eq_true (by omega)
       obtain ⟨bg, og, rfl, _, hcg⟩ := hRf qg hqG
       obtain ⟨gi, hgi⟩ : ∃ gi, Hid (G[qg] = gi) := ⟨_, Lib.hid rfl⟩
       rw [hgi.out] at hcg
       have hof1 : ofK k3 G = gi := by
        unfold ofK
        rw [if_neg hG0, hqg, List.getD_eq_getElem?_getD, List.getElem?_eq_getElem hqG, ← hgi.out]; rfl
       have hbbf : b ≠ bf := by have := cell_lt hSf.out.c1; have := hSf.out.hb.size; intro e; exact hbbf0 e
       have hS19 := hSf.out.setName gi hbbf (by omega)
       have hO19 := hOf.out.block ((grown_row wf bf #[.int .i64 gi.b, .int .i64 gi.s, .int .u64 gi.u]).block bo (cell_lt hOf.out.cb) (fun e => by injection e with e; exact hbfo e.symm))
       obtain ⟨W19, hW19, hO19⟩ := nameW (p := fun W => OpAt W bo ⟨1 + r1, 1 + m, K, 2 * m + r0, 0, 0, 0, 0, ⟨0, 0, 0⟩, [], 0, 0⟩ none 0) hO19
       rw [hW19.out] at hS19
       have hIf := hSf.out.f
       replace hcg := Lib.hid hcg
       replace hS19 := Lib.hid hS19
       replace hO19 := Lib.hid hO19
       replace hof1 := Lib.hid hof1
       clear hqg hm1 hm2 hG0
       go_wp2_with (first
        | (refine wpL_loadI rfl _ rfl bg (og + qg * 3) rfl gi hcg.out ?_)
        | (refine wpList_store_row rfl 34 _ _ rfl bf #[.int .i64 gi.b, .int .i64 gi.s, .int .u64 gi.u] rfl rfl 34 _ hIf (by kernel_rfl) rfl (by simp [Value.oneCell']) ?_)
        | (rw [hW19.out])
        | fail)
       go_meet
       exact ⟨rfl, by rw [hof1.out]; exact hS19.out, hO19.out⟩
     case rest =>
      obtain ⟨rfl, hS, hO⟩ := hcut
      obtain ⟨of, hofd⟩ : ∃ of, Hid (ofK k3 G = of) := ⟨_, Lib.hid rfl⟩
      rw [hofd.out] at hS
      clear hOf hSf hof0 hRf hI17 hOo y3
      rcases hK0.out with rfl | rfl | rfl | rfl | rfl | rfl | rfl | rfl | rfl | rfl | rfl | rfl | rfl
      ·have hO0 : OpAt wc bo ⟨1 + r1, 1 + m, 1, 2 * m + r0, 0, 0, 0, 0, ⟨0, 0, 0⟩, [], 0, 0⟩ none 0 := hO
       have hS0 := hS
       have y1_0 := hS0.c1
       have y2_0 := hS0.c2
       have y3_0 := hS0.c3
       have ck_0 : wc.cell? ⟨bo, 2, none⟩ = some (.int .i64 1) := hO0.ck
       obtain ⟨u1, hu1⟩ : ∃ r, Hid (k2 % 5 = r) := ⟨_, Lib.hid rfl⟩
       have eu1 : Int.tmod k2 5 = u1 := by rw [Int.tmod_eq_emod_of_nonneg b20]; exact hu1.out
       have lu1 : 0 ≤ u1 := by have := hu1.out; omega
       have gu1 : u1 < 5 := by have := hu1.out; omega
       have fr_0 := hO0.free 20
       have fc_0 : wc.cell? ⟨bo, 20, none⟩ = some (.int .i64 (0)) := hO0.cn
       have hO1 := hO0.setI 20 (.int .i64 (u1)) ⟨1 + r1, 1 + m, 1, 2 * m + r0, 0, 0, 0, 0, ⟨0, 0, 0⟩, [], u1, 0⟩ none 0 rfl
       have hS1 := hS0.grown (grown_cell wc bo 20 (.int .i64 (u1))) hbb hbfo hb0o
       obtain ⟨W1_, hW1_, hO1⟩ := nameW (p := fun W => OpAt W bo ⟨1 + r1, 1 + m, 1, 2 * m + r0, 0, 0, 0, 0, ⟨0, 0, 0⟩, [], u1, 0⟩ none 0) hO1
       rw [hW1_.out] at hS1
       have y1_1 := hS1.c1
       have y2_1 := hS1.c2
       have y3_1 := hS1.c3
       have ck_1 : W1_.cell? ⟨bo, 2, none⟩ = some (.int .i64 1) := hO1.ck
       have hzF := hS1.z
       have hOe := hzF.setAll ⟨1 + r1, 1 + m, 1, 2 * m + r0, 0, 0, 0, 0, ⟨0, 0, 0⟩, [], u1, 0⟩ none 0
       obtain ⟨We, hWe, hOe⟩ := nameW (p := fun W => OpAt W w.heap.size ⟨1 + r1, 1 + m, 1, 2 * m + r0, 0, 0, 0, 0, ⟨0, 0, 0⟩, [], u1, 0⟩ none 0) hOe
       have hbe : Below w.heap.size w We := by rw [← hWe.out]; exact hS1.hb.grown (grown_row W1_ w.heap.size _) hS1.hb.size (fun g e => by injection e with e; omega)
       have hof : Hid (opN xs (l.map Prod.fst) = ⟨1 + r1, 1 + m, 1, 2 * m + r0, 0, 0, 0, 0, ⟨0, 0, 0⟩, [], u1, 0⟩) := Lib.hid (by rw [hop.out, ← hu1.out, hofd.out]; rfl)
       go_upto_region 51 with (first
        | (rw [hW1_.out])
        | fail)
       refine wp_region_lit ?_
       refine wpList_load_row rfl 42 _ rfl bo rfl 42 (opC ⟨1 + r1, 1 + m, 1, 2 * m + r0, 0, 0, 0, 0, ⟨0, 0, 0⟩, [], u1, 0⟩ none 0) (0, 0) _ hO1 Tryd.underlying42 rfl (by kernel_rfl) ?_
       simp only [Act.put, List.setIfInBounds_toArray, List.set_cons_succ, List.set_cons_zero]
       refine wpList_store_row rfl 42 _ _ rfl w.heap.size (opC ⟨1 + r1, 1 + m, 1, 2 * m + r0, 0, 0, 0, 0, ⟨0, 0, 0⟩, [], u1, 0⟩ none 0) rfl rfl 42 _ hzF (by kernel_rfl) rfl (opC_one _ _ _) ?_
       simp only [Act.put]
       rw [hWe.out]
       refine wpList_nil ?_
       apply_assumption
       refine wp_ret ?_
       refine bodyPost_ret (v := .agg (opC ⟨1 + r1, 1 + m, 1, 2 * m + r0, 0, 0, 0, 0, ⟨0, 0, 0⟩, [], u1, 0⟩ none 0)) ?_ rfl ?_
       ·exact results_cell_row rfl _ _ w.heap.size 42 _ (0, 0) _ rfl hOe Tryd.underlying42 rfl (by kernel_rfl)
       ·refine ⟨none, 0, ?_, ?_, fun _ h => (by cases h), hbe⟩
        ·rw [hof.out]
        ·rw [hof.out]; exact ⟨rfl, .nil, fun _ h => (by cases h)⟩
      ·have hO0 : OpAt wc bo ⟨1 + r1, 1 + m, 2, 2 * m + r0, 0, 0, 0, 0, ⟨0, 0, 0⟩, [], 0, 0⟩ none 0 := hO
       have hS0 := hS
       have y1_0 := hS0.c1
       have y2_0 := hS0.c2
       have y3_0 := hS0.c3
       have ck_0 : wc.cell? ⟨bo, 2, none⟩ = some (.int .i64 2) := hO0.ck
       obtain ⟨u1, hu1⟩ : ∃ r, Hid (k2 % 8 = r) := ⟨_, Lib.hid rfl⟩
       have eu1 : Int.tmod k2 8 = u1 := by rw [Int.tmod_eq_emod_of_nonneg b20]; exact hu1.out
       have lu1 : 0 ≤ u1 := by have := hu1.out; omega
       have gu1 : u1 < 8 := by have := hu1.out; omega
       obtain ⟨u2, hu2⟩ : ∃ r, Hid (k3 % 3 = r) := ⟨_, Lib.hid rfl⟩
       have eu2 : Int.tmod k3 3 = u2 := by rw [Int.tmod_eq_emod_of_nonneg b30]; exact hu2.out
       have lu2 : 0 ≤ u2 := by have := hu2.out; omega
       have gu2 : u2 < 3 := by have := hu2.out; omega
       have fr_0 := hO0.free 5
       have fc_0 : wc.cell? ⟨bo, 5, none⟩ = some (.int .i64 (0)) := hO0.cd
       have hO1 := hO0.setI 5 (.int .i64 (1 + u1)) ⟨1 + r1, 1 + m, 2, 2 * m + r0, 1 + u1, 0, 0, 0, ⟨0, 0, 0⟩, [], 0, 0⟩ none 0 rfl
       have hS1 := hS0.grown (grown_cell wc bo 5 (.int .i64 (1 + u1))) hbb hbfo hb0o
       obtain ⟨W1_, hW1_, hO1⟩ := nameW (p := fun W => OpAt W bo ⟨1 + r1, 1 + m, 2, 2 * m + r0, 1 + u1, 0, 0, 0, ⟨0, 0, 0⟩, [], 0, 0⟩ none 0) hO1
       rw [hW1_.out] at hS1
       have y1_1 := hS1.c1
       have y2_1 := hS1.c2
       have y3_1 := hS1.c3
       have ck_1 : W1_.cell? ⟨bo, 2, none⟩ = some (.int .i64 2) := hO1.ck
       have fr_1 := hO1.free 8
       have fc_1 : W1_.cell? ⟨bo, 8, none⟩ = some (.int .i64 (0)) := hO1.cr
       have hO2 := hO1.setI 8 (.int .i64 (1 + u2)) ⟨1 + r1, 1 + m, 2, 2 * m + r0, 1 + u1, 0, 0, 1 + u2, ⟨0, 0, 0⟩, [], 0, 0⟩ none 0 rfl
       have hS2 := hS1.grown (grown_cell W1_ bo 8 (.int .i64 (1 + u2))) hbb hbfo hb0o
       obtain ⟨W2_, hW2_, hO2⟩ := nameW (p := fun W => OpAt W bo ⟨1 + r1, 1 + m, 2, 2 * m + r0, 1 + u1, 0, 0, 1 + u2, ⟨0, 0, 0⟩, [], 0, 0⟩ none 0) hO2
       rw [hW2_.out] at hS2
       have y1_2 := hS2.c1
       have y2_2 := hS2.c2
       have y3_2 := hS2.c3
       have ck_2 : W2_.cell? ⟨bo, 2, none⟩ = some (.int .i64 2) := hO2.ck
       have hzF := hS2.z
       have hOe := hzF.setAll ⟨1 + r1, 1 + m, 2, 2 * m + r0, 1 + u1, 0, 0, 1 + u2, ⟨0, 0, 0⟩, [], 0, 0⟩ none 0
       obtain ⟨We, hWe, hOe⟩ := nameW (p := fun W => OpAt W w.heap.size ⟨1 + r1, 1 + m, 2, 2 * m + r0, 1 + u1, 0, 0, 1 + u2, ⟨0, 0, 0⟩, [], 0, 0⟩ none 0) hOe
       have hbe : Below w.heap.size w We := by rw [← hWe.out]; exact hS2.hb.grown (grown_row W2_ w.heap.size _) hS2.hb.size (fun g e => by injection e with e; omega)
       have hof : Hid (opN xs (l.map Prod.fst) = ⟨1 + r1, 1 + m, 2, 2 * m + r0, 1 + u1, 0, 0, 1 + u2, ⟨0, 0, 0⟩, [], 0, 0⟩) := Lib.hid (by rw [hop.out, ← hu1.out, ← hu2.out, hofd.out]; rfl)
       go_upto_region 51 with (first
        | (rw [hW1_.out])
        | (rw [hW2_.out])
        | fail)
       refine wp_region_lit ?_
       refine wpList_load_row rfl 42 _ rfl bo rfl 42 (opC ⟨1 + r1, 1 + m, 2, 2 * m + r0, 1 + u1, 0, 0, 1 + u2, ⟨0, 0, 0⟩, [], 0, 0⟩ none 0) (0, 0) _ hO2 Tryd.underlying42 rfl (by kernel_rfl) ?_
       simp only [Act.put, List.setIfInBounds_toArray, List.set_cons_succ, List.set_cons_zero]
       refine wpList_store_row rfl 42 _ _ rfl w.heap.size (opC ⟨1 + r1, 1 + m, 2, 2 * m + r0, 1 + u1, 0, 0, 1 + u2, ⟨0, 0, 0⟩, [], 0, 0⟩ none 0) rfl rfl 42 _ hzF (by kernel_rfl) rfl (opC_one _ _ _) ?_
       simp only [Act.put]
       rw [hWe.out]
       refine wpList_nil ?_
       apply_assumption
       refine wp_ret ?_
       refine bodyPost_ret (v := .agg (opC ⟨1 + r1, 1 + m, 2, 2 * m + r0, 1 + u1, 0, 0, 1 + u2, ⟨0, 0, 0⟩, [], 0, 0⟩ none 0)) ?_ rfl ?_
       ·exact results_cell_row rfl _ _ w.heap.size 42 _ (0, 0) _ rfl hOe Tryd.underlying42 rfl (by kernel_rfl)
       ·refine ⟨none, 0, ?_, ?_, fun _ h => (by cases h), hbe⟩
        ·rw [hof.out]
        ·rw [hof.out]; exact ⟨rfl, .nil, fun _ h => (by cases h)⟩
      ·obtain ⟨u1, hu1⟩ : ∃ r, Hid (k2 % 9 = r) := ⟨_, Lib.hid rfl⟩
       have eu1 : Int.tmod k2 9 = u1 := by rw [Int.tmod_eq_emod_of_nonneg b20]; exact hu1.out
       have lu1 : 0 ≤ u1 := by have := hu1.out; omega
       have gu1 : u1 < 9 := by have := hu1.out; omega
       obtain ⟨u2, hu2⟩ : ∃ r, Hid (k3 % 4 = r) := ⟨_, Lib.hid rfl⟩
       have eu2 : Int.tmod k3 4 = u2 := by rw [Int.tmod_eq_emod_of_nonneg b30]; exact hu2.out
       have lu2 : 0 ≤ u2 := by have := hu2.out; omega
       have gu2 : u2 < 4 := by have := hu2.out; omega
       by_cases h8 : u1 = 8
       ·subst h8
        have hO0 : OpAt wc bo ⟨1 + r1, 1 + m, 3, 2 * m + r0, 0, 0, 0, 0, ⟨0, 0, 0⟩, [], 0, 0⟩ none 0 := hO
        have hS0 := hS
        have y1_0 := hS0.c1
        have y2_0 := hS0.c2
        have y3_0 := hS0.c3
        have ck_0 : wc.cell? ⟨bo, 2, none⟩ = some (.int .i64 3) := hO0.ck
        have fr_0 := hO0.free 5
        have fc_0 : wc.cell? ⟨bo, 5, none⟩ = some (.int .i64 (0)) := hO0.cd
        have hO1 := hO0.setI 5 (.int .i64 (8)) ⟨1 + r1, 1 + m, 3, 2 * m + r0, 8, 0, 0, 0, ⟨0, 0, 0⟩, [], 0, 0⟩ none 0 rfl
        have hS1 := hS0.grown (grown_cell wc bo 5 (.int .i64 (8))) hbb hbfo hb0o
        obtain ⟨W1_, hW1_, hO1⟩ := nameW (p := fun W => OpAt W bo ⟨1 + r1, 1 + m, 3, 2 * m + r0, 8, 0, 0, 0, ⟨0, 0, 0⟩, [], 0, 0⟩ none 0) hO1
        rw [hW1_.out] at hS1
        have y1_1 := hS1.c1
        have y2_1 := hS1.c2
        have y3_1 := hS1.c3
        have ck_1 : W1_.cell? ⟨bo, 2, none⟩ = some (.int .i64 3) := hO1.ck
        have fs_1 : W1_.cell? ⟨bo, 5, none⟩ = some (.int .i64 (8)) := hO1.cd
        have fr_1 := hO1.free 5
        have fc_1 : W1_.cell? ⟨bo, 5, none⟩ = some (.int .i64 (8)) := hO1.cd
        have hO2 := hO1.setI 5 (.int .i64 (0)) ⟨1 + r1, 1 + m, 3, 2 * m + r0, 0, 0, 0, 0, ⟨0, 0, 0⟩, [], 0, 0⟩ none 0 rfl
        have hS2 := hS1.grown (grown_cell W1_ bo 5 (.int .i64 (0))) hbb hbfo hb0o
        obtain ⟨W2_, hW2_, hO2⟩ := nameW (p := fun W => OpAt W bo ⟨1 + r1, 1 + m, 3, 2 * m + r0, 0, 0, 0, 0, ⟨0, 0, 0⟩, [], 0, 0⟩ none 0) hO2
        rw [hW2_.out] at hS2
        have y1_2 := hS2.c1
        have y2_2 := hS2.c2
        have y3_2 := hS2.c3
        have ck_2 : W2_.cell? ⟨bo, 2, none⟩ = some (.int .i64 3) := hO2.ck
        have fs_2 : W2_.cell? ⟨bo, 5, none⟩ = some (.int .i64 (0)) := hO2.cd
        have fr_2 := hO2.free 7
        have fc_2 : W2_.cell? ⟨bo, 7, none⟩ = some (.int .i64 (0)) := hO2.cm
        have hO3 := hO2.setI 7 (.int .i64 (1 + u2)) ⟨1 + r1, 1 + m, 3, 2 * m + r0, 0, 0, 1 + u2, 0, ⟨0, 0, 0⟩, [], 0, 0⟩ none 0 rfl
        have hS3 := hS2.grown (grown_cell W2_ bo 7 (.int .i64 (1 + u2))) hbb hbfo hb0o
        obtain ⟨W3_, hW3_, hO3⟩ := nameW (p := fun W => OpAt W bo ⟨1 + r1, 1 + m, 3, 2 * m + r0, 0, 0, 1 + u2, 0, ⟨0, 0, 0⟩, [], 0, 0⟩ none 0) hO3
        rw [hW3_.out] at hS3
        have y1_3 := hS3.c1
        have y2_3 := hS3.c2
        have y3_3 := hS3.c3
        have ck_3 : W3_.cell? ⟨bo, 2, none⟩ = some (.int .i64 3) := hO3.ck
        have hzF := hS3.z
        have hOe := hzF.setAll ⟨1 + r1, 1 + m, 3, 2 * m + r0, 0, 0, 1 + u2, 0, ⟨0, 0, 0⟩, [], 0, 0⟩ none 0
        obtain ⟨We, hWe, hOe⟩ := nameW (p := fun W => OpAt W w.heap.size ⟨1 + r1, 1 + m, 3, 2 * m + r0, 0, 0, 1 + u2, 0, ⟨0, 0, 0⟩, [], 0, 0⟩ none 0) hOe
        have hbe : Below w.heap.size w We := by rw [← hWe.out]; exact hS3.hb.grown (grown_row W3_ w.heap.size _) hS3.hb.size (fun g e => by injection e with e; omega)
        have hof : Hid (opN xs (l.map Prod.fst) = ⟨1 + r1, 1 + m, 3, 2 * m + r0, 0, 0, 1 + u2, 0, ⟨0, 0, 0⟩, [], 0, 0⟩) := Lib.hid (by rw [hop.out]; unfold opK remD; rw [hu1.out, hu2.out]; rfl)
        go_upto_region 51 with (first
         | (rw [hW1_.out])
         | (rw [hW2_.out])
         | (rw [hW3_.out])
         | fail)
        refine wp_region_lit ?_
        refine wpList_load_row rfl 42 _ rfl bo rfl 42 (opC ⟨1 + r1, 1 + m, 3, 2 * m + r0, 0, 0, 1 + u2, 0, ⟨0, 0, 0⟩, [], 0, 0⟩ none 0) (0, 0) _ hO3 Tryd.underlying42 rfl (by kernel_rfl) ?_
        simp only [Act.put, List.setIfInBounds_toArray, List.set_cons_succ, List.set_cons_zero]
        refine wpList_store_row rfl 42 _ _ rfl w.heap.size (opC ⟨1 + r1, 1 + m, 3, 2 * m + r0, 0, 0, 1 + u2, 0, ⟨0, 0, 0⟩, [], 0, 0⟩ none 0) rfl rfl 42 _ hzF (by kernel_rfl) rfl (opC_one _ _ _) ?_
        simp only [Act.put]
        rw [hWe.out]
        refine wpList_nil ?_
        apply_assumption
        refine wp_ret ?_
        refine bodyPost_ret (v := .agg (opC ⟨1 + r1, 1 + m, 3, 2 * m + r0, 0, 0, 1 + u2, 0, ⟨0, 0, 0⟩, [], 0, 0⟩ none 0)) ?_ rfl ?_
        ·exact results_cell_row rfl _ _ w.heap.size 42 _ (0, 0) _ rfl hOe Tryd.underlying42 rfl (by kernel_rfl)
        ·refine ⟨none, 0, ?_, ?_, fun _ h => (by cases h), hbe⟩
         ·rw [hof.out]
         ·rw [hof.out]; exact ⟨rfl, .nil, fun _ h => (by cases h)⟩
       ·by_cases h0 : u1 = 0
        ·subst h0
         have hO0 : OpAt wc bo ⟨1 + r1, 1 + m, 3, 2 * m + r0, 0, 0, 0, 0, ⟨0, 0, 0⟩, [], 0, 0⟩ none 0 := hO
         have hS0 := hS
         have y1_0 := hS0.c1
         have y2_0 := hS0.c2
         have y3_0 := hS0.c3
         have ck_0 : wc.cell? ⟨bo, 2, none⟩ = some (.int .i64 3) := hO0.ck
         have fr_0 := hO0.free 5
         have fc_0 : wc.cell? ⟨bo, 5, none⟩ = some (.int .i64 (0)) := hO0.cd
         have hO1 := hO0.setI 5 (.int .i64 (0)) ⟨1 + r1, 1 + m, 3, 2 * m + r0, 0, 0, 0, 0, ⟨0, 0, 0⟩, [], 0, 0⟩ none 0 rfl
         have hS1 := hS0.grown (grown_cell wc bo 5 (.int .i64 (0))) hbb hbfo hb0o
         obtain ⟨W1_, hW1_, hO1⟩ := nameW (p := fun W => OpAt W bo ⟨1 + r1, 1 + m, 3, 2 * m + r0, 0, 0, 0, 0, ⟨0, 0, 0⟩, [], 0, 0⟩ none 0) hO1
         rw [hW1_.out] at hS1
         have y1_1 := hS1.c1
         have y2_1 := hS1.c2
         have y3_1 := hS1.c3
         have ck_1 : W1_.cell? ⟨bo, 2, none⟩ = some (.int .i64 3) := hO1.ck
         have fs_1 : W1_.cell? ⟨bo, 5, none⟩ = some (.int .i64 (0)) := hO1.cd
         have fr_1 := hO1.free 7
         have fc_1 : W1_.cell? ⟨bo, 7, none⟩ = some (.int .i64 (0)) := hO1.cm
         have hO2 := hO1.setI 7 (.int .i64 (1 + u2)) ⟨1 + r1, 1 + m, 3, 2 * m + r0, 0, 0, 1 + u2, 0, ⟨0, 0, 0⟩, [], 0, 0⟩ none 0 rfl
         have hS2 := hS1.grown (grown_cell W1_ bo 7 (.int .i64 (1 + u2))) hbb hbfo hb0o
         obtain ⟨W2_, hW2_, hO2⟩ := nameW (p := fun W => OpAt W bo ⟨1 + r1, 1 + m, 3, 2 * m + r0, 0, 0, 1 + u2, 0, ⟨0, 0, 0⟩, [], 0, 0⟩ none 0) hO2
         rw [hW2_.out] at hS2
         have y1_2 := hS2.c1
         have y2_2 := hS2.c2
         have y3_2 := hS2.c3
         have ck_2 : W2_.cell? ⟨bo, 2, none⟩ = some (.int .i64 3) := hO2.ck
         have hzF := hS2.z
         have hOe := hzF.setAll ⟨1 + r1, 1 + m, 3, 2 * m + r0, 0, 0, 1 + u2, 0, ⟨0, 0, 0⟩, [], 0, 0⟩ none 0
         obtain ⟨We, hWe, hOe⟩ := nameW (p := fun W => OpAt W w.heap.size ⟨1 + r1, 1 + m, 3, 2 * m + r0, 0, 0, 1 + u2, 0, ⟨0, 0, 0⟩, [], 0, 0⟩ none 0) hOe
         have hbe : Below w.heap.size w We := by rw [← hWe.out]; exact hS2.hb.grown (grown_row W2_ w.heap.size _) hS2.hb.size (fun g e => by injection e with e; omega)
         have hof : Hid (opN xs (l.map Prod.fst) = ⟨1 + r1, 1 + m, 3, 2 * m + r0, 0, 0, 1 + u2, 0, ⟨0, 0, 0⟩, [], 0, 0⟩) := Lib.hid (by rw [hop.out]; unfold opK remD; rw [hu1.out, hu2.out]; rfl)
         go_upto_region 51 with (first
          | (rw [hW1_.out])
          | (rw [hW2_.out])
          | fail)
         refine wp_region_lit ?_
         refine wpList_load_row rfl 42 _ rfl bo rfl 42 (opC ⟨1 + r1, 1 + m, 3, 2 * m + r0, 0, 0, 1 + u2, 0, ⟨0, 0, 0⟩, [], 0, 0⟩ none 0) (0, 0) _ hO2 Tryd.underlying42 rfl (by kernel_rfl) ?_
         simp only [Act.put, List.setIfInBounds_toArray, List.set_cons_succ, List.set_cons_zero]
         refine wpList_store_row rfl 42 _ _ rfl w.heap.size (opC ⟨1 + r1, 1 + m, 3, 2 * m + r0, 0, 0, 1 + u2, 0, ⟨0, 0, 0⟩, [], 0, 0⟩ none 0) rfl rfl 42 _ hzF (by kernel_rfl) rfl (opC_one _ _ _) ?_
         simp only [Act.put]
         rw [hWe.out]
         refine wpList_nil ?_
         apply_assumption
         refine wp_ret ?_
         refine bodyPost_ret (v := .agg (opC ⟨1 + r1, 1 + m, 3, 2 * m + r0, 0, 0, 1 + u2, 0, ⟨0, 0, 0⟩, [], 0, 0⟩ none 0)) ?_ rfl ?_
         ·exact results_cell_row rfl _ _ w.heap.size 42 _ (0, 0) _ rfl hOe Tryd.underlying42 rfl (by kernel_rfl)
         ·refine ⟨none, 0, ?_, ?_, fun _ h => (by cases h), hbe⟩
          ·rw [hof.out]
          ·rw [hof.out]; exact ⟨rfl, .nil, fun _ h => (by cases h)⟩
        ·skip
         have t8 : (u1 == 8) = false := beq_eq_false_iff_ne.2 h8
         have t0 : (u1 == 0) = false := beq_eq_false_iff_ne.2 h0
         have hO0 : OpAt wc bo ⟨1 + r1, 1 + m, 3, 2 * m + r0, 0, 0, 0, 0, ⟨0, 0, 0⟩, [], 0, 0⟩ none 0 := hO
         have hS0 := hS
         have y1_0 := hS0.c1
         have y2_0 := hS0.c2
         have y3_0 := hS0.c3
         have ck_0 : wc.cell? ⟨bo, 2, none⟩ = some (.int .i64 3) := hO0.ck
         have fr_0 := hO0.free 5
         have fc_0 : wc.cell? ⟨bo, 5, none⟩ = some (.int .i64 (0)) := hO0.cd
         have hO1 := hO0.setI 5 (.int .i64 (u1)) ⟨1 + r1, 1 + m, 3, 2 * m + r0, u1, 0, 0, 0, ⟨0, 0, 0⟩, [], 0, 0⟩ none 0 rfl
         have hS1 := hS0.grown (grown_cell wc bo 5 (.int .i64 (u1))) hbb hbfo hb0o
         obtain ⟨W1_, hW1_, hO1⟩ := nameW (p := fun W => OpAt W bo ⟨1 + r1, 1 + m, 3, 2 * m + r0, u1, 0, 0, 0, ⟨0, 0, 0⟩, [], 0, 0⟩ none 0) hO1
         rw [hW1_.out] at hS1
         have y1_1 := hS1.c1
         have y2_1 := hS1.c2
         have y3_1 := hS1.c3
         have ck_1 : W1_.cell? ⟨bo, 2, none⟩ = some (.int .i64 3) := hO1.ck
         have fs_1 : W1_.cell? ⟨bo, 5, none⟩ = some (.int .i64 (u1)) := hO1.cd
         have hzF := hS1.z
         have hOe := hzF.setAll ⟨1 + r1, 1 + m, 3, 2 * m + r0, u1, 0, 0, 0, ⟨0, 0, 0⟩, [], 0, 0⟩ none 0
         obtain ⟨We, hWe, hOe⟩ := nameW (p := fun W => OpAt W w.heap.size ⟨1 + r1, 1 + m, 3, 2 * m + r0, u1, 0, 0, 0, ⟨0, 0, 0⟩, [], 0, 0⟩ none 0) hOe
         have hbe : Below w.heap.size w We := by rw [← hWe.out]; exact hS1.hb.grown (grown_row W1_ w.heap.size _) hS1.hb.size (fun g e => by injection e with e; omega)
         have hof : Hid (opN xs (l.map Prod.fst) = ⟨1 + r1, 1 + m, 3, 2 * m + r0, u1, 0, 0, 0, ⟨0, 0, 0⟩, [], 0, 0⟩) := Lib.hid (by rw [hop.out]; unfold opK remD; rw [hu1.out, hu2.out]; simp [h8, h0])
         clear h8 h0
         go_upto_region 51 with (first
          | (rw [hW1_.out])
          | fail)
         refine wp_region_lit ?_
         refine wpList_load_row rfl 42 _ rfl bo rfl 42 (opC ⟨1 + r1, 1 + m, 3, 2 * m + r0, u1, 0, 0, 0, ⟨0, 0, 0⟩, [], 0, 0⟩ none 0) (0, 0) _ hO1 Tryd.underlying42 rfl (by kernel_rfl) ?_
         simp only [Act.put, List.setIfInBounds_toArray, List.set_cons_succ, List.set_cons_zero]
         refine wpList_store_row rfl 42 _ _ rfl w.heap.size (opC ⟨1 + r1, 1 + m, 3, 2 * m + r0, u1, 0, 0, 0, ⟨0, 0, 0⟩, [], 0, 0⟩ none 0) rfl rfl 42 _ hzF (by kernel_rfl) rfl (opC_one _ _ _) ?_
         simp only [Act.put]
         rw [hWe.out]
         refine wpList_nil ?_
         apply_assumption
         refine wp_ret ?_
         refine bodyPost_ret (v := .agg (opC ⟨1 + r1, 1 + m, 3, 2 * m + r0, u1, 0, 0, 0, ⟨0, 0, 0⟩, [], 0, 0⟩ none 0)) ?_ rfl ?_
         ·exact results_cell_row rfl _ _ w.heap.size 42 _ (0, 0) _ rfl hOe Tryd.underlying42 rfl (by kernel_rfl)
         ·refine ⟨none, 0, ?_, ?_, fun _ h => (by cases h), hbe⟩
          ·rw [hof.out]
          ·rw [hof.out]; exact ⟨rfl, .nil, fun _ h => (by cases h)⟩
      ·have hO0 : OpAt wc bo ⟨1 + r1, 1 + m, 4, 2 * m + r0, 0, 0, 0, 0, ⟨0, 0, 0⟩, [], 0, 0⟩ none 0 := hO
       have hS0 := hS
       have y1_0 := hS0.c1
       have y2_0 := hS0.c2
       have y3_0 := hS0.c3
       have ck_0 : wc.cell? ⟨bo, 2, none⟩ = some (.int .i64 4) := hO0.ck
       have hzF := hS0.z
       have hOe := hzF.setAll ⟨1 + r1, 1 + m, 4, 2 * m + r0, 0, 0, 0, 0, ⟨0, 0, 0⟩, [], 0, 0⟩ none 0
       obtain ⟨We, hWe, hOe⟩ := nameW (p := fun W => OpAt W w.heap.size ⟨1 + r1, 1 + m, 4, 2 * m + r0, 0, 0, 0, 0, ⟨0, 0, 0⟩, [], 0, 0⟩ none 0) hOe
       have hbe : Below w.heap.size w We := by rw [← hWe.out]; exact hS0.hb.grown (grown_row wc w.heap.size _) hS0.hb.size (fun g e => by injection e with e; omega)
       have hof : Hid (opN xs (l.map Prod.fst) = ⟨1 + r1, 1 + m, 4, 2 * m + r0, 0, 0, 0, 0, ⟨0, 0, 0⟩, [], 0, 0⟩) := Lib.hid (by rw [hop.out, hofd.out]; rfl)
       go_upto_region 51 with fail
       refine wp_region_lit ?_
       refine wpList_load_row rfl 42 _ rfl bo rfl 42 (opC ⟨1 + r1, 1 + m, 4, 2 * m + r0, 0, 0, 0, 0, ⟨0, 0, 0⟩, [], 0, 0⟩ none 0) (0, 0) _ hO0 Tryd.underlying42 rfl (by kernel_rfl) ?_
       simp only [Act.put, List.setIfInBounds_toArray, List.set_cons_succ, List.set_cons_zero]
       refine wpList_store_row rfl 42 _ _ rfl w.heap.size (opC ⟨1 + r1, 1 + m, 4, 2 * m + r0, 0, 0, 0, 0, ⟨0, 0, 0⟩, [], 0, 0⟩ none 0) rfl rfl 42 _ hzF (by kernel_rfl) rfl (opC_one _ _ _) ?_
       simp only [Act.put]
       rw [hWe.out]
       refine wpList_nil ?_
       apply_assumption
       refine wp_ret ?_
       refine bodyPost_ret (v := .agg (opC ⟨1 + r1, 1 + m, 4, 2 * m + r0, 0, 0, 0, 0, ⟨0, 0, 0⟩, [], 0, 0⟩ none 0)) ?_ rfl ?_
       ·exact results_cell_row rfl _ _ w.heap.size 42 _ (0, 0) _ rfl hOe Tryd.underlying42 rfl (by kernel_rfl)
       ·refine ⟨none, 0, ?_, ?_, fun _ h => (by cases h), hbe⟩
        ·rw [hof.out]
        ·rw [hof.out]; exact ⟨rfl, .nil, fun _ h => (by cases h)⟩
      ·have hO0 : OpAt wc bo ⟨1 + r1, 1 + m, 5, 2 * m + r0, 0, 0, 0, 0, ⟨0, 0, 0⟩, [], 0, 0⟩ none 0 := hO
       have hS0 := hS
       have y1_0 := hS0.c1
       have y2_0 := hS0.c2
       have y3_0 := hS0.c3
       have ck_0 : wc.cell? ⟨bo, 2, none⟩ = some (.int .i64 5) := hO0.ck
       obtain ⟨u1, hu1⟩ : ∃ r, Hid (k2 % 5 = r) := ⟨_, Lib.hid rfl⟩
       have eu1 : Int.tmod k2 5 = u1 := by rw [Int.tmod_eq_emod_of_nonneg b20]; exact hu1.out
       have lu1 : 0 ≤ u1 := by have := hu1.out; omega
       have gu1 : u1 < 5 := by have := hu1.out; omega
       obtain ⟨u2, hu2⟩ : ∃ r, Hid (k3 % 3 = r) := ⟨_, Lib.hid rfl⟩
       have eu2 : Int.tmod k3 3 = u2 := by rw [Int.tmod_eq_emod_of_nonneg b30]; exact hu2.out
       have lu2 : 0 ≤ u2 := by have := hu2.out; omega
       have gu2 : u2 < 3 := by have := hu2.out; omega
       have fr_0 := hO0.free 7
       have fc_0 : wc.cell? ⟨bo, 7, none⟩ = some (.int .i64 (0)) := hO0.cm
       have hO1 := hO0.setI 7 (.int .i64 (1 + u1)) ⟨1 + r1, 1 + m, 5, 2 * m + r0, 0, 0, 1 + u1, 0, ⟨0, 0, 0⟩, [], 0, 0⟩ none 0 rfl
       have hS1 := hS0.grown (grown_cell wc bo 7 (.int .i64 (1 + u1))) hbb hbfo hb0o
       obtain ⟨W1_, hW1_, hO1⟩ := nameW (p := fun W => OpAt W bo ⟨1 + r1, 1 + m, 5, 2 * m + r0, 0, 0, 1 + u1, 0, ⟨0, 0, 0⟩, [], 0, 0⟩ none 0) hO1
       rw [hW1_.out] at hS1
       have y1_1 := hS1.c1
       have y2_1 := hS1.c2
       have y3_1 := hS1.c3
       have ck_1 : W1_.cell? ⟨bo, 2, none⟩ = some (.int .i64 5) := hO1.ck
       have fr_1 := hO1.free 8
       have fc_1 : W1_.cell? ⟨bo, 8, none⟩ = some (.int .i64 (0)) := hO1.cr
       have hO2 := hO1.setI 8 (.int .i64 (1 + u2)) ⟨1 + r1, 1 + m, 5, 2 * m + r0, 0, 0, 1 + u1, 1 + u2, ⟨0, 0, 0⟩, [], 0, 0⟩ none 0 rfl
       have hS2 := hS1.grown (grown_cell W1_ bo 8 (.int .i64 (1 + u2))) hbb hbfo hb0o
       obtain ⟨W2_, hW2_, hO2⟩ := nameW (p := fun W => OpAt W bo ⟨1 + r1, 1 + m, 5, 2 * m + r0, 0, 0, 1 + u1, 1 + u2, ⟨0, 0, 0⟩, [], 0, 0⟩ none 0) hO2
       rw [hW2_.out] at hS2
       have y1_2 := hS2.c1
       have y2_2 := hS2.c2
       have y3_2 := hS2.c3
       have ck_2 : W2_.cell? ⟨bo, 2, none⟩ = some (.int .i64 5) := hO2.ck
       have hzF := hS2.z
       have hOe := hzF.setAll ⟨1 + r1, 1 + m, 5, 2 * m + r0, 0, 0, 1 + u1, 1 + u2, ⟨0, 0, 0⟩, [], 0, 0⟩ none 0
       obtain ⟨We, hWe, hOe⟩ := nameW (p := fun W => OpAt W w.heap.size ⟨1 + r1, 1 + m, 5, 2 * m + r0, 0, 0, 1 + u1, 1 + u2, ⟨0, 0, 0⟩, [], 0, 0⟩ none 0) hOe
       have hbe : Below w.heap.size w We := by rw [← hWe.out]; exact hS2.hb.grown (grown_row W2_ w.heap.size _) hS2.hb.size (fun g e => by injection e with e; omega)
       have hof : Hid (opN xs (l.map Prod.fst) = ⟨1 + r1, 1 + m, 5, 2 * m + r0, 0, 0, 1 + u1, 1 + u2, ⟨0, 0, 0⟩, [], 0, 0⟩) := Lib.hid (by rw [hop.out, ← hu1.out, ← hu2.out, hofd.out]; rfl)
       go_upto_region 51 with (first
        | (rw [hW1_.out])
        | (rw [hW2_.out])
        | fail)
       refine wp_region_lit ?_
       refine wpList_load_row rfl 42 _ rfl bo rfl 42 (opC ⟨1 + r1, 1 + m, 5, 2 * m + r0, 0, 0, 1 + u1, 1 + u2, ⟨0, 0, 0⟩, [], 0, 0⟩ none 0) (0, 0) _ hO2 Tryd.underlying42 rfl (by kernel_rfl) ?_
       simp only [Act.put, List.setIfInBounds_toArray, List.set_cons_succ, List.set_cons_zero]
       refine wpList_store_row rfl 42 _ _ rfl w.heap.size (opC ⟨1 + r1, 1 + m, 5, 2 * m + r0, 0, 0, 1 + u1, 1 + u2, ⟨0, 0, 0⟩, [], 0, 0⟩ none 0) rfl rfl 42 _ hzF (by kernel_rfl) rfl (opC_one _ _ _) ?_
       simp only [Act.put]
       rw [hWe.out]
       refine wpList_nil ?_
       apply_assumption
       refine wp_ret ?_
       refine bodyPost_ret (v := .agg (opC ⟨1 + r1, 1 + m, 5, 2 * m + r0, 0, 0, 1 + u1, 1 + u2, ⟨0, 0, 0⟩, [], 0, 0⟩ none 0)) ?_ rfl ?_
       ·exact results_cell_row rfl _ _ w.heap.size 42 _ (0, 0) _ rfl hOe Tryd.underlying42 rfl (by kernel_rfl)
       ·refine ⟨none, 0, ?_, ?_, fun _ h => (by cases h), hbe⟩
        ·rw [hof.out]
        ·rw [hof.out]; exact ⟨rfl, .nil, fun _ h => (by cases h)⟩
      ·have hO0 : OpAt wc bo ⟨1 + r1, 1 + m, 6, 2 * m + r0, 0, 0, 0, 0, ⟨0, 0, 0⟩, [], 0, 0⟩ none 0 := hO
       have hS0 := hS
       have y1_0 := hS0.c1
       have y2_0 := hS0.c2
       have y3_0 := hS0.c3
       have ck_0 : wc.cell? ⟨bo, 2, none⟩ = some (.int .i64 6) := hO0.ck
       have hzF := hS0.z
       have hOe := hzF.setAll ⟨1 + r1, 1 + m, 6, 2 * m + r0, 0, 0, 0, 0, ⟨0, 0, 0⟩, [], 0, 0⟩ none 0
       obtain ⟨We, hWe, hOe⟩ := nameW (p := fun W => OpAt W w.heap.size ⟨1 + r1, 1 + m, 6, 2 * m + r0, 0, 0, 0, 0, ⟨0, 0, 0⟩, [], 0, 0⟩ none 0) hOe
       have hbe : Below w.heap.size w We := by rw [← hWe.out]; exact hS0.hb.grown (grown_row wc w.heap.size _) hS0.hb.size (fun g e => by injection e with e; omega)
       have hof : Hid (opN xs (l.map Prod.fst) = ⟨1 + r1, 1 + m, 6, 2 * m + r0, 0, 0, 0, 0, ⟨0, 0, 0⟩, [], 0, 0⟩) := Lib.hid (by rw [hop.out, hofd.out]; rfl)
       go_upto_region 51 with fail
       refine wp_region_lit ?_
       refine wpList_load_row rfl 42 _ rfl bo rfl 42 (opC ⟨1 + r1, 1 + m, 6, 2 * m + r0, 0, 0, 0, 0, ⟨0, 0, 0⟩, [], 0, 0⟩ none 0) (0, 0) _ hO0 Tryd.underlying42 rfl (by kernel_rfl) ?_
       simp only [Act.put, List.setIfInBounds_toArray, List.set_cons_succ, List.set_cons_zero]
       refine wpList_store_row rfl 42 _ _ rfl w.heap.size (opC ⟨1 + r1, 1 + m, 6, 2 * m + r0, 0, 0, 0, 0, ⟨0, 0, 0⟩, [], 0, 0⟩ none 0) rfl rfl 42 _ hzF (by kernel_rfl) rfl (opC_one _ _ _) ?_
       simp only [Act.put]
       rw [hWe.out]
       refine wpList_nil ?_
       apply_assumption
       refine wp_ret ?_
       refine bodyPost_ret (v := .agg (opC ⟨1 + r1, 1 + m, 6, 2 * m + r0, 0, 0, 0, 0, ⟨0, 0, 0⟩, [], 0, 0⟩ none 0)) ?_ rfl ?_
       ·exact results_cell_row rfl _ _ w.heap.size 42 _ (0, 0) _ rfl hOe Tryd.underlying42 rfl (by kernel_rfl)
       ·refine ⟨none, 0, ?_, ?_, fun _ h => (by cases h), hbe⟩
        ·rw [hof.out]
        ·rw [hof.out]; exact ⟨rfl, .nil, fun _ h => (by cases h)⟩
      ·have hO0 : OpAt wc bo ⟨1 + r1, 1 + m, 7, 2 * m + r0, 0, 0, 0, 0, ⟨0, 0, 0⟩, [], 0, 0⟩ none 0 := hO
       have hS0 := hS
       have y1_0 := hS0.c1
       have y2_0 := hS0.c2
       have y3_0 := hS0.c3
       have ck_0 : wc.cell? ⟨bo, 2, none⟩ = some (.int .i64 7) := hO0.ck
       have hth_0 := hO0.there 16 3 (by omega)
       have hO1 := hO0.setF of
       have hS1 := hS0.grown (grown_cells wc bo [.int .i64 of.b, .int .i64 of.s, .int .u64 of.u] 16) hbb hbfo hb0o
       obtain ⟨W1_, hW1_, hO1⟩ := nameW (p := fun W => OpAt W bo ⟨1 + r1, 1 + m, 7, 2 * m + r0, 0, 0, 0, 0, of, [], 0, 0⟩ none 0) hO1
       rw [hW1_.out] at hS1
       have hf_0 := hS0.f
       have y1_1 := hS1.c1
       have y2_1 := hS1.c2
       have y3_1 := hS1.c3
       have ck_1 : W1_.cell? ⟨bo, 2, none⟩ = some (.int .i64 7) := hO1.ck
       have hzF := hS1.z
       have hOe := hzF.setAll ⟨1 + r1, 1 + m, 7, 2 * m + r0, 0, 0, 0, 0, of, [], 0, 0⟩ none 0
       obtain ⟨We, hWe, hOe⟩ := nameW (p := fun W => OpAt W w.heap.size ⟨1 + r1, 1 + m, 7, 2 * m + r0, 0, 0, 0, 0, of, [], 0, 0⟩ none 0) hOe
       have hbe : Below w.heap.size w We := by rw [← hWe.out]; exact hS1.hb.grown (grown_row W1_ w.heap.size _) hS1.hb.size (fun g e => by injection e with e; omega)
       have hof : Hid (opN xs (l.map Prod.fst) = ⟨1 + r1, 1 + m, 7, 2 * m + r0, 0, 0, 0, 0, of, [], 0, 0⟩) := Lib.hid (by rw [hop.out, hofd.out]; rfl)
       go_upto_region 50 with fail
       go_upto_region 51 with (first
        | (refine wpList_load_row rfl 34 _ rfl bf rfl 34 #[.int .i64 of.b, .int .i64 of.s, .int .u64 of.u] (0, 0) _ hf_0 Tryd.underlying34 rfl (by kernel_rfl) ?_)
        | (refine wpList_store_mid rfl 34 _ _ rfl bo 16 #[.int .i64 of.b, .int .i64 of.s, .int .u64 of.u] rfl rfl hth_0 (by kernel_rfl) (by simp [Value.oneCell']) ?_)
        | (rw [hW1_.out])
        | fail)
       go_upto_region 51 with fail
       refine wp_region_lit ?_
       refine wpList_load_row rfl 42 _ rfl bo rfl 42 (opC ⟨1 + r1, 1 + m, 7, 2 * m + r0, 0, 0, 0, 0, of, [], 0, 0⟩ none 0) (0, 0) _ hO1 Tryd.underlying42 rfl (by kernel_rfl) ?_
       simp only [Act.put, List.setIfInBounds_toArray, List.set_cons_succ, List.set_cons_zero]
       refine wpList_store_row rfl 42 _ _ rfl w.heap.size (opC ⟨1 + r1, 1 + m, 7, 2 * m + r0, 0, 0, 0, 0, of, [], 0, 0⟩ none 0) rfl rfl 42 _ hzF (by kernel_rfl) rfl (opC_one _ _ _) ?_
       simp only [Act.put]
       rw [hWe.out]
       refine wpList_nil ?_
       apply_assumption
       refine wp_ret ?_
       refine bodyPost_ret (v := .agg (opC ⟨1 + r1, 1 + m, 7, 2 * m + r0, 0, 0, 0, 0, of, [], 0, 0⟩ none 0)) ?_ rfl ?_
       ·exact results_cell_row rfl _ _ w.heap.size 42 _ (0, 0) _ rfl hOe Tryd.underlying42 rfl (by kernel_rfl)
       ·refine ⟨none, 0, ?_, ?_, fun _ h => (by cases h), hbe⟩
        ·rw [hof.out]
        ·rw [hof.out]; exact ⟨rfl, .nil, fun _ h => (by cases h)⟩
      ·have hO0 : OpAt wc bo ⟨1 + r1, 1 + m, 8, 2 * m + r0, 0, 0, 0, 0, ⟨0, 0, 0⟩, [], 0, 0⟩ none 0 := hO
       have hS0 := hS
       have y1_0 := hS0.c1
       have y2_0 := hS0.c2
       have y3_0 := hS0.c3
       have ck_0 : wc.cell? ⟨bo, 2, none⟩ = some (.int .i64 8) := hO0.ck
       have hth_0 := hO0.there 16 3 (by omega)
       have hO1 := hO0.setF of
       have hS1 := hS0.grown (grown_cells wc bo [.int .i64 of.b, .int .i64 of.s, .int .u64 of.u] 16) hbb hbfo hb0o
       obtain ⟨W1_, hW1_, hO1⟩ := nameW (p := fun W => OpAt W bo ⟨1 + r1, 1 + m, 8, 2 * m + r0, 0, 0, 0, 0, of, [], 0, 0⟩ none 0) hO1
       rw [hW1_.out] at hS1
       have hf_0 := hS0.f
       have y1_1 := hS1.c1
       have y2_1 := hS1.c2
       have y3_1 := hS1.c3
       have ck_1 : W1_.cell? ⟨bo, 2, none⟩ = some (.int .i64 8) := hO1.ck
       have hzF := hS1.z
       have hOe := hzF.setAll ⟨1 + r1, 1 + m, 8, 2 * m + r0, 0, 0, 0, 0, of, [], 0, 0⟩ none 0
       obtain ⟨We, hWe, hOe⟩ := nameW (p := fun W => OpAt W w.heap.size ⟨1 + r1, 1 + m, 8, 2 * m + r0, 0, 0, 0, 0, of, [], 0, 0⟩ none 0) hOe
       have hbe : Below w.heap.size w We := by rw [← hWe.out]; exact hS1.hb.grown (grown_row W1_ w.heap.size _) hS1.hb.size (fun g e => by injection e with e; omega)
       have hof : Hid (opN xs (l.map Prod.fst) = ⟨1 + r1, 1 + m, 8, 2 * m + r0, 0, 0, 0, 0, of, [], 0, 0⟩) := Lib.hid (by rw [hop.out, hofd.out]; rfl)
       go_upto_region 50 with fail
       go_upto_region 51 with (first
        | (refine wpList_load_row rfl 34 _ rfl bf rfl 34 #[.int .i64 of.b, .int .i64 of.s, .int .u64 of.u] (0, 0) _ hf_0 Tryd.underlying34 rfl (by kernel_rfl) ?_)
        | (refine wpList_store_mid rfl 34 _ _ rfl bo 16 #[.int .i64 of.b, .int .i64 of.s, .int .u64 of.u] rfl rfl hth_0 (by kernel_rfl) (by simp [Value.oneCell']) ?_)
        | (rw [hW1_.out])
        | fail)
       go_upto_region 51 with fail
       refine wp_region_lit ?_
       refine wpList_load_row rfl 42 _ rfl bo rfl 42 (opC ⟨1 + r1, 1 + m, 8, 2 * m + r0, 0, 0, 0, 0, of, [], 0, 0⟩ none 0) (0, 0) _ hO1 Tryd.underlying42 rfl (by kernel_rfl) ?_
       simp only [Act.put, List.setIfInBounds_toArray, List.set_cons_succ, List.set_cons_zero]
       refine wpList_store_row rfl 42 _ _ rfl w.heap.size (opC ⟨1 + r1, 1 + m, 8, 2 * m + r0, 0, 0, 0, 0, of, [], 0, 0⟩ none 0) rfl rfl 42 _ hzF (by kernel_rfl) rfl (opC_one _ _ _) ?_
       simp only [Act.put]
       rw [hWe.out]
       refine wpList_nil ?_
       apply_assumption
       refine wp_ret ?_
       refine bodyPost_ret (v := .agg (opC ⟨1 + r1, 1 + m, 8, 2 * m + r0, 0, 0, 0, 0, of, [], 0, 0⟩ none 0)) ?_ rfl ?_
       ·exact results_cell_row rfl _ _ w.heap.size 42 _ (0, 0) _ rfl hOe Tryd.underlying42 rfl (by kernel_rfl)
       ·refine ⟨none, 0, ?_, ?_, fun _ h => (by cases h), hbe⟩
        ·rw [hof.out]
        ·rw [hof.out]; exact ⟨rfl, .nil, fun _ h => (by cases h)⟩
      ·have hO0 : OpAt wc bo ⟨1 + r1, 1 + m, 9, 2 * m + r0, 0, 0, 0, 0, ⟨0, 0, 0⟩, [], 0, 0⟩ none 0 := hO
       have hS0 := hS
       have y1_0 := hS0.c1
       have y2_0 := hS0.c2
       have y3_0 := hS0.c3
       have ck_0 : wc.cell? ⟨bo, 2, none⟩ = some (.int .i64 9) := hO0.ck
       obtain ⟨q5, hq5⟩ : ∃ q : Nat, (k2 % 5).toNat = q := ⟨_, rfl⟩
       have eq5 : Int.tmod k2 5 = (q5 : Int) := by rw [Int.tmod_eq_emod_of_nonneg b20]; omega
       have q55 : q5 < 5 := by omega
       have q5i : (q5 : Int) < 5 := by omega
       have q50 : (0 : Int) ≤ (q5 : Int) := by omega
       obtain ⟨w6, hw6, hR6⟩ := nameW (p := fun W => Rows6 wc W) (Rows6.made wc)
       obtain ⟨gb, hgc, hUg, hgb1, hgb2⟩ := hR6.at q55
       have hrow := rowK_cases k2 b20
       have hRe : rowsG.getD q5 [] = rowK k2 := by unfold rowK; rw [hq5]
       rw [hRe] at hgc hUg
       obtain ⟨R, hRd⟩ : ∃ R, Hid (rowK k2 = R) := ⟨_, Lib.hid rfl⟩
       rw [hRd.out] at hgc hUg hrow
       have hRl : 1 ≤ R.length ∧ R.length ≤ 3 := by rcases hrow with h | h | h | h | h <;> rw [h] <;> decide
       obtain ⟨hRl1, hRl2⟩ := hRl
       have hbow : bo < wc.heap.size := cell_lt hO.cb
       have hgbo : gb ≠ bo := by omega
       have hOw := hO.below hR6.hb hbow
       have hSw := hS.below hR6.hb
       have wy2 := hSw.c2
       have wfr := hOw.free 19
       have wfc : w6.cell? ⟨bo, 19, none⟩ = some (.slice none 0 0) := hOw.cgs
       have hOx := hOw.setI 19 (.slice (some ⟨gb, 0, none⟩) R.length R.length) ⟨1 + r1, 1 + m, 9, 2 * m + r0, 0, 0, 0, 0, ⟨0, 0, 0⟩, R, 0, 0⟩ (some ⟨gb, 0, none⟩) R.length rfl
       have hSx := hSw.grown (grown_cell w6 bo 19 (.slice (some ⟨gb, 0, none⟩) R.length R.length)) hbb hbfo hb0o
       have hlx := Nat.lt_of_lt_of_le hgb2 (grown_cell w6 bo 19 (.slice (some ⟨gb, 0, none⟩) R.length R.length)).size
       have hUx := hUg.block ((grown_cell w6 bo 19 (.slice (some ⟨gb, 0, none⟩) R.length R.length)).block gb hgb2 (fun e => hgbo (by injection e)))
       obtain ⟨wx, hwx, hOx⟩ := nameW (p := fun W => OpAt W bo ⟨1 + r1, 1 + m, 9, 2 * m + r0, 0, 0, 0, 0, ⟨0, 0, 0⟩, R, 0, 0⟩ (some ⟨gb, 0, none⟩) R.length) hOx
       rw [hwx.out] at hSx hlx hUx
       replace hrow := Lib.hid hrow
       replace hUg := Lib.hid hUg
       go_upto_region 37 with (first | (rw [hw6.out]) | (rw [hwx.out]) | fail)
       have hbq : Below wx.heap.size wx wx.drew := (Below.refl _ _).drew
       have hOq := hOx.below hbq (cell_lt hOx.cb)
       have hSq := hSx.below hbq
       have hUq := hUx.below hbq
       have hlq : gb < wx.drew.heap.size := hlx
       obtain ⟨wq, hwq⟩ : ∃ wq, Hid (wx.drew = wq) := ⟨_, Lib.hid rfl⟩
       rw [hwq.out] at hOq hSq hUq hlq
       obtain ⟨u9, hu9⟩ : ∃ u, Hid (k3 % (R.length : Int) = u) := ⟨_, Lib.hid rfl⟩
       have hm1 := Int.emod_nonneg k3 (b := (R.length : Int)) (by omega)
       have hm2 := Int.emod_lt_of_pos k3 (b := (R.length : Int)) (by omega)
       rw [hu9.out] at hm1 hm2
       have eu9 : Int.tmod k3 (R.length : Int) = u9 := by rw [Int.tmod_eq_emod_of_nonneg b30]; exact hu9.out
       have wu9 : IntKind.i64.wrap (1 + u9) = 1 + u9 := wrapS (by omega) (by omega)
       have hzz : ((R.length : Int) == 0) = false := beq_eq_false_iff_ne.2 (by omega)
       have hzn : (R.length : Int) ≠ 0 := by omega
       have hOs := hOq.setI 20 (.int .i64 (1 + u9)) ⟨1 + r1, 1 + m, 9, 2 * m + r0, 0, 0, 0, 0, ⟨0, 0, 0⟩, R, 1 + u9, 0⟩ (some ⟨gb, 0, none⟩) R.length rfl
       have hSs := hSq.grown (grown_cell wq bo 20 (.int .i64 (1 + u9))) hbb hbfo hb0o
       have hls := Nat.lt_of_lt_of_le hlq (grown_cell wq bo 20 (.int .i64 (1 + u9))).size
       have hUs := hUq.block ((grown_cell wq bo 20 (.int .i64 (1 + u9))).block gb hlq (fun e => hgbo (by injection e)))
       have z3 : wq.cell? ⟨b, off + 3, none⟩ = some (.int .i64 k3) := hSq.c3
       have z19 : wq.cell? ⟨bo, 19, none⟩ = some (.slice (some ⟨gb, 0, none⟩) R.length R.length) := hOq.cgs
       have z20 : wq.cell? ⟨bo, 20, none⟩ = some (.int .i64 0) := hOq.cn
       have z20f := hOq.free 20
       have hRn : ¬ R = [] := fun h => by rw [h] at hRl1; exact absurd hRl1 (by decide)
       obtain ⟨ws, hws, hOs⟩ := nameW (p := fun W => OpAt W bo ⟨1 + r1, 1 + m, 9, 2 * m + r0, 0, 0, 0, 0, ⟨0, 0, 0⟩, R, 1 + u9, 0⟩ (some ⟨gb, 0, none⟩) R.length) hOs
       rw [hws.out] at hSs hls hUs
       apply wp_post_eq (R := fun T => T = ws)
       ·refine wp_region_D (D := fun T => T.cell? ⟨b, off + 3, none⟩ = some (.int .i64 k3) ∧ T.cell? ⟨bo, 19, none⟩ = some (.slice (some ⟨gb, 0, none⟩) R.length R.length)) (by kernel_rfl) ?_
        rw [hwq.out]
        change wpAnyD _ _ _ _ _ 10 _ _ _
        apply wpAnyD_take (i := 0) ⟨z3, z19⟩ rfl (by kernel_rfl) (by kernel_rfl) (by kernel_rfl) (fun _ _ _ h => by cases h.1) rfl
        ·intro T hT
         obtain ⟨f3, f19⟩ := hT
         go_simp
         try rfl
        try simp only [Act.put, List.setIfInBounds_toArray, List.set_cons_succ, List.set_cons_zero, List.getElem_toArray, List.getElem_cons_zero]
        apply wpAnyD_take (i := 1) ⟨z3, z19⟩ rfl (by kernel_rfl) (by kernel_rfl) (by kernel_rfl) (fun _ _ _ h => by cases h.1) rfl
        ·intro T hT
         obtain ⟨f3, f19⟩ := hT
         go_simp
         try rfl
        try simp only [Act.put, List.setIfInBounds_toArray, List.set_cons_succ, List.set_cons_zero, List.getElem_toArray, List.getElem_cons_succ, List.getElem_cons_zero]
        apply wpAnyD_take (i := 2) ⟨z3, z19⟩ rfl (by kernel_rfl) (by kernel_rfl) (by kernel_rfl) (fun _ _ _ h => by cases h.1) rfl
        ·intro T hT
         obtain ⟨f3, f19⟩ := hT
         go_simp
         try rfl
        try simp only [Act.put, List.setIfInBounds_toArray, List.set_cons_succ, List.set_cons_zero, List.getElem_toArray, List.getElem_cons_succ, List.getElem_cons_zero]
        apply wpAnyD_take (i := 3) ⟨z3, z19⟩ rfl (by kernel_rfl) (by kernel_rfl) (by kernel_rfl) (fun _ _ _ h => by cases h.1) rfl
        ·intro T hT
         obtain ⟨f3, f19⟩ := hT
         go_simp
         try rfl
        try simp only [Act.put, List.setIfInBounds_toArray, List.set_cons_succ, List.set_cons_zero, List.getElem_toArray, List.getElem_cons_succ, List.getElem_cons_zero]
        apply wpAnyD_take (i := 4) ⟨z3, z19⟩ rfl (by kernel_rfl) (by kernel_rfl) (by kernel_rfl) (fun _ _ _ h => by cases h.1) rfl
        ·intro T hT
         obtain ⟨f3, f19⟩ := hT
         go_simp
         try rfl
        try simp only [Act.put, List.setIfInBounds_toArray, List.set_cons_succ, List.set_cons_zero, List.getElem_toArray, List.getElem_cons_succ, List.getElem_cons_zero]
        apply wpAnyD_take (i := 5) ⟨z3, z19⟩ rfl (by kernel_rfl) (by kernel_rfl) (by kernel_rfl) (fun _ _ _ h => by cases h.1) rfl
        ·intro T hT
         obtain ⟨f3, f19⟩ := hT
         go_simp
         try rfl
        try simp only [Act.put, List.setIfInBounds_toArray, List.set_cons_succ, List.set_cons_zero, List.getElem_toArray, List.getElem_cons_succ, List.getElem_cons_zero]
        apply wpAnyD_take (i := 6) ⟨z3, z19⟩ rfl (by kernel_rfl) (by kernel_rfl) (by kernel_rfl) (fun _ _ _ h => by cases h.1) rfl
        ·intro T hT
         obtain ⟨f3, f19⟩ := hT
         go_simp
         try rfl
        try simp only [Act.put, List.setIfInBounds_toArray, List.set_cons_succ, List.set_cons_zero, List.getElem_toArray, List.getElem_cons_succ, List.getElem_cons_zero]
        apply wpAnyD_take (i := 7) ⟨z3, z19⟩ rfl (by kernel_rfl) (by kernel_rfl) (by kernel_rfl) (fun _ _ _ h => by cases h.1) rfl
        ·intro T hT
         obtain ⟨f3, f19⟩ := hT
         go_simp
         try rfl
        try simp only [Act.put, List.setIfInBounds_toArray, List.set_cons_succ, List.set_cons_zero, List.getElem_toArray, List.getElem_cons_succ, List.getElem_cons_zero]
        apply wpAnyD_take (i := 8) ⟨z3, z19⟩ rfl (by kernel_rfl) (by kernel_rfl) (by kernel_rfl) (fun _ _ _ h => by cases h.1) rfl
        ·intro T hT
         obtain ⟨f3, f19⟩ := hT
         go_simp
         try rfl
        try simp only [Act.put, List.setIfInBounds_toArray, List.set_cons_succ, List.set_cons_zero, List.getElem_toArray, List.getElem_cons_succ, List.getElem_cons_zero]
        refine wpAnyD_one (i := 9) (by kernel_rfl) rfl rfl (fun K' hK => ?_)
        go_simp
        (try rw [hws.out])
        refine hK _ _ ⟨⟨hSs.c3, hOs.cgs⟩, ?_⟩
        clear hK K'
        try simp only [Act.put, List.setIfInBounds_toArray, List.set_cons_succ, List.set_cons_zero, List.getElem_toArray, List.getElem_cons_succ, List.getElem_cons_zero]
        exact wpAnyD_done (by kernel_rfl) ⟨rfl, rfl, rfl⟩ _
       intro T hT
       rw [hT]
       clear hT T
       change Exit.then _ _ _ _ ws
       clear z3 z19 z20 z20f hRn hOq hSq hUq hOx hSx hUx hOw hSw wy2 wfr wfc hgc hzz hzn eu9 wu9
       obtain ⟨u5, hu5⟩ : ∃ r, Hid (k3 / 3 = r) := ⟨_, Lib.hid rfl⟩
       have eu5 : Int.tdiv k3 3 = u5 := by rw [Int.tdiv_eq_ediv_of_nonneg b30]; exact hu5.out
       have lu5 : 0 ≤ u5 := by have := hu5.out; omega
       have gu5 : u5 < 1000000 := by have := hu5.out; omega
       have wu5 : IntKind.i64.wrap u5 = u5 := wrapS (by omega) (by omega)
       obtain ⟨u6, hu6⟩ : ∃ r, Hid (u5 % 4 = r) := ⟨_, Lib.hid rfl⟩
       have eu6 : Int.tmod u5 4 = u6 := by rw [Int.tmod_eq_emod_of_nonneg lu5]; exact hu6.out
       have lu6 : 0 ≤ u6 := by have := hu6.out; omega
       have gu6 : u6 < 4 := by have := hu6.out; omega
       have hO1 := hOs
       have hS1 := hSs
       have hl1 := hls
       have hUg1 := hUs
       have y1_1 := hS1.c1
       have y2_1 := hS1.c2
       have y3_1 := hS1.c3
       have ck_1 : ws.cell? ⟨bo, 2, none⟩ = some (.int .i64 9) := hO1.ck
       have fr_1 := hO1.free 21
       have fc_1 : ws.cell? ⟨bo, 21, none⟩ = some (.int .i64 (0)) := hO1.ct
       have hO2 := hO1.setI 21 (.int .i64 (u6)) ⟨1 + r1, 1 + m, 9, 2 * m + r0, 0, 0, 0, 0, ⟨0, 0, 0⟩, R, 1 + u9, u6⟩ (some ⟨gb, 0, none⟩) R.length rfl
       have hS2 := hS1.grown (grown_cell ws bo 21 (.int .i64 (u6))) hbb hbfo hb0o
       have hl2 := Nat.lt_of_lt_of_le hl1 (grown_cell ws bo 21 (.int .i64 (u6))).size
       have hUg2 := hUg1.block ((grown_cell ws bo 21 (.int .i64 (u6))).block gb hl1 (fun e => hgbo (by injection e)))
       obtain ⟨W2_, hW2_, hO2⟩ := nameW (p := fun W => OpAt W bo ⟨1 + r1, 1 + m, 9, 2 * m + r0, 0, 0, 0, 0, ⟨0, 0, 0⟩, R, 1 + u9, u6⟩ (some ⟨gb, 0, none⟩) R.length) hO2
       rw [hW2_.out] at hS2 hl2 hUg2
       have y1_2 := hS2.c1
       have y2_2 := hS2.c2
       have y3_2 := hS2.c3
       have ck_2 : W2_.cell? ⟨bo, 2, none⟩ = some (.int .i64 9) := hO2.ck
       have hzF := hS2.z
       have hOe := hzF.setAll ⟨1 + r1, 1 + m, 9, 2 * m + r0, 0, 0, 0, 0, ⟨0, 0, 0⟩, R, 1 + u9, u6⟩ (some ⟨gb, 0, none⟩) R.length
       obtain ⟨We, hWe, hOe⟩ := nameW (p := fun W => OpAt W w.heap.size ⟨1 + r1, 1 + m, 9, 2 * m + r0, 0, 0, 0, 0, ⟨0, 0, 0⟩, R, 1 + u9, u6⟩ (some ⟨gb, 0, none⟩) R.length) hOe
       have hbe : Below w.heap.size w We := by rw [← hWe.out]; exact hS2.hb.grown (grown_row W2_ w.heap.size _) hS2.hb.size (fun g e => by injection e with e; omega)
       have hof : Hid (opN xs (l.map Prod.fst) = ⟨1 + r1, 1 + m, 9, 2 * m + r0, 0, 0, 0, 0, ⟨0, 0, 0⟩, R, 1 + u9, u6⟩) := Lib.hid (by rw [hop.out]; unfold opK; rw [hRd.out, hu9.out, hu5.out, hu6.out]; rfl)
       have hgw : gb ≠ w.heap.size := by omega
       have hUe := hUg2.block ((grown_row W2_ w.heap.size (opC ⟨1 + r1, 1 + m, 9, 2 * m + r0, 0, 0, 0, 0, ⟨0, 0, 0⟩, R, 1 + u9, u6⟩ (some ⟨gb, 0, none⟩) R.length)).block gb hl2 (fun e => hgw (by injection e)))
       have hle := Nat.lt_of_lt_of_le hl2 (grown_row W2_ w.heap.size (opC ⟨1 + r1, 1 + m, 9, 2 * m + r0, 0, 0, 0, 0, ⟨0, 0, 0⟩, R, 1 + u9, u6⟩ (some ⟨gb, 0, none⟩) R.length)).size
       rw [hWe.out] at hUe hle
       replace hUe := Lib.hid hUe
       go_upto_region 51 with (first
        | (rw [hW2_.out])
        | fail)
       refine wp_region_lit ?_
       refine wpList_load_row rfl 42 _ rfl bo rfl 42 (opC ⟨1 + r1, 1 + m, 9, 2 * m + r0, 0, 0, 0, 0, ⟨0, 0, 0⟩, R, 1 + u9, u6⟩ (some ⟨gb, 0, none⟩) R.length) (0, 0) _ hO2 Tryd.underlying42 rfl (by kernel_rfl) ?_
       simp only [Act.put, List.setIfInBounds_toArray, List.set_cons_succ, List.set_cons_zero]
       refine wpList_store_row rfl 42 _ _ rfl w.heap.size (opC ⟨1 + r1, 1 + m, 9, 2 * m + r0, 0, 0, 0, 0, ⟨0, 0, 0⟩, R, 1 + u9, u6⟩ (some ⟨gb, 0, none⟩) R.length) rfl rfl 42 _ hzF (by kernel_rfl) rfl (opC_one _ _ _) ?_
       simp only [Act.put]
       rw [hWe.out]
       refine wpList_nil ?_
       apply_assumption
       refine wp_ret ?_
       refine bodyPost_ret (v := .agg (opC ⟨1 + r1, 1 + m, 9, 2 * m + r0, 0, 0, 0, 0, ⟨0, 0, 0⟩, R, 1 + u9, u6⟩ (some ⟨gb, 0, none⟩) R.length)) ?_ rfl ?_
       ·exact results_cell_row rfl _ _ w.heap.size 42 _ (0, 0) _ rfl hOe Tryd.underlying42 rfl (by kernel_rfl)
       ·refine ⟨(some ⟨gb, 0, none⟩), R.length, ?_, ?_, fun a h => by injection h with h; subst h; exact ⟨by show w.heap.size ≤ gb; omega, hle⟩, hbe⟩
        ·rw [hof.out]
        ·rw [hof.out]; exact hUe.out
      ·have hO0 : OpAt wc bo ⟨1 + r1, 1 + m, 10, 2 * m + r0, 0, 0, 0, 0, ⟨0, 0, 0⟩, [], 0, 0⟩ none 0 := hO
       have hS0 := hS
       have y1_0 := hS0.c1
       have y2_0 := hS0.c2
       have y3_0 := hS0.c3
       have ck_0 : wc.cell? ⟨bo, 2, none⟩ = some (.int .i64 10) := hO0.ck
       have hth_0 := hO0.there 16 3 (by omega)
       have hO1 := hO0.setF of
       have hS1 := hS0.grown (grown_cells wc bo [.int .i64 of.b, .int .i64 of.s, .int .u64 of.u] 16) hbb hbfo hb0o
       obtain ⟨W1_, hW1_, hO1⟩ := nameW (p := fun W => OpAt W bo ⟨1 + r1, 1 + m, 10, 2 * m + r0, 0, 0, 0, 0, of, [], 0, 0⟩ none 0) hO1
       rw [hW1_.out] at hS1
       have hf_0 := hS0.f
       have y1_1 := hS1.c1
       have y2_1 := hS1.c2
       have y3_1 := hS1.c3
       have ck_1 : W1_.cell? ⟨bo, 2, none⟩ = some (.int .i64 10) := hO1.ck
       have hzF := hS1.z
       have hOe := hzF.setAll ⟨1 + r1, 1 + m, 10, 2 * m + r0, 0, 0, 0, 0, of, [], 0, 0⟩ none 0
       obtain ⟨We, hWe, hOe⟩ := nameW (p := fun W => OpAt W w.heap.size ⟨1 + r1, 1 + m, 10, 2 * m + r0, 0, 0, 0, 0, of, [], 0, 0⟩ none 0) hOe
       have hbe : Below w.heap.size w We := by rw [← hWe.out]; exact hS1.hb.grown (grown_row W1_ w.heap.size _) hS1.hb.size (fun g e => by injection e with e; omega)
       have hof : Hid (opN xs (l.map Prod.fst) = ⟨1 + r1, 1 + m, 10, 2 * m + r0, 0, 0, 0, 0, of, [], 0, 0⟩) := Lib.hid (by rw [hop.out, hofd.out]; rfl)
       go_upto_region 50 with fail
       go_upto_region 51 with (first
        | (refine wpList_load_row rfl 34 _ rfl bf rfl 34 #[.int .i64 of.b, .int .i64 of.s, .int .u64 of.u] (0, 0) _ hf_0 Tryd.underlying34 rfl (by kernel_rfl) ?_)
        | (refine wpList_store_mid rfl 34 _ _ rfl bo 16 #[.int .i64 of.b, .int .i64 of.s, .int .u64 of.u] rfl rfl hth_0 (by kernel_rfl) (by simp [Value.oneCell']) ?_)
        | (rw [hW1_.out])
        | fail)
       go_upto_region 51 with fail
       refine wp_region_lit ?_
       refine wpList_load_row rfl 42 _ rfl bo rfl 42 (opC ⟨1 + r1, 1 + m, 10, 2 * m + r0, 0, 0, 0, 0, of, [], 0, 0⟩ none 0) (0, 0) _ hO1 Tryd.underlying42 rfl (by kernel_rfl) ?_
       simp only [Act.put, List.setIfInBounds_toArray, List.set_cons_succ, List.set_cons_zero]
       refine wpList_store_row rfl 42 _ _ rfl w.heap.size (opC ⟨1 + r1, 1 + m, 10, 2 * m + r0, 0, 0, 0, 0, of, [], 0, 0⟩ none 0) rfl rfl 42 _ hzF (by kernel_rfl) rfl (opC_one _ _ _) ?_
       simp only [Act.put]
       rw [hWe.out]
       refine wpList_nil ?_
       apply_assumption
       refine wp_ret ?_
       refine bodyPost_ret (v := .agg (opC ⟨1 + r1, 1 + m, 10, 2 * m + r0, 0, 0, 0, 0, of, [], 0, 0⟩ none 0)) ?_ rfl ?_
       ·exact results_cell_row rfl _ _ w.heap.size 42 _ (0, 0) _ rfl hOe Tryd.underlying42 rfl (by kernel_rfl)
       ·refine ⟨none, 0, ?_, ?_, fun _ h => (by cases h), hbe⟩
        ·rw [hof.out]
        ·rw [hof.out]; exact ⟨rfl, .nil, fun _ h => (by cases h)⟩
      ·have hO0 : OpAt wc bo ⟨1 + r1, 1 + m, 11, 2 * m + r0, 0, 0, 0, 0, ⟨0, 0, 0⟩, [], 0, 0⟩ none 0 := hO
       have hS0 := hS
       have y1_0 := hS0.c1
       have y2_0 := hS0.c2
       have y3_0 := hS0.c3
       have ck_0 : wc.cell? ⟨bo, 2, none⟩ = some (.int .i64 11) := hO0.ck
       obtain ⟨u1, hu1⟩ : ∃ r, Hid (k1 % 3 = r) := ⟨_, Lib.hid rfl⟩
       have eu1 : Int.tmod k1 3 = u1 := by rw [Int.tmod_eq_emod_of_nonneg b10]; exact hu1.out
       have lu1 : 0 ≤ u1 := by have := hu1.out; omega
       have gu1 : u1 < 3 := by have := hu1.out; omega
       obtain ⟨u5, hu5⟩ : ∃ r, Hid (k2 / 5 = r) := ⟨_, Lib.hid rfl⟩
       have eu5 : Int.tdiv k2 5 = u5 := by rw [Int.tdiv_eq_ediv_of_nonneg b20]; exact hu5.out
       have lu5 : 0 ≤ u5 := by have := hu5.out; omega
       have gu5 : u5 < 1000000 := by have := hu5.out; omega
       have wu5 : IntKind.i64.wrap u5 = u5 := wrapS (by omega) (by omega)
       obtain ⟨u6, hu6⟩ : ∃ r, Hid (u5 % 7 = r) := ⟨_, Lib.hid rfl⟩
       have eu6 : Int.tmod u5 7 = u6 := by rw [Int.tmod_eq_emod_of_nonneg lu5]; exact hu6.out
       have lu6 : 0 ≤ u6 := by have := hu6.out; omega
       have gu6 : u6 < 7 := by have := hu6.out; omega
       have wu1 : IntKind.i64.wrap (1 + u1) = 1 + u1 := wrapS (by omega) (by omega)
       have wu6 : IntKind.i64.wrap (1 + u6) = 1 + u6 := wrapS (by omega) (by omega)
       obtain ⟨q5, hq5⟩ : ∃ q : Nat, (k2 % 5).toNat = q := ⟨_, rfl⟩
       have eq5 : Int.tmod k2 5 = (q5 : Int) := by rw [Int.tmod_eq_emod_of_nonneg b20]; omega
       have q55 : q5 < 5 := by omega
       have q5i : (q5 : Int) < 5 := by omega
       have q50 : (0 : Int) ≤ (q5 : Int) := by omega
       obtain ⟨dv5, hdv5⟩ : ∃ d, Hid (devK k2 = d) := ⟨_, Lib.hid rfl⟩
       have hdn : nth [4, 5, 7, 4, 1 + u6] q5 = dv5 := by rw [← hdv5.out]; unfold devK; rw [hu5.out, hu6.out, hq5]; rfl
       have hdb := devK_bd k2 b20
       rw [hdv5.out] at hdb
       replace hdn := Lib.hid hdn
       have hth_0 := hO0.there 16 3 (by omega)
       have hO1 := hO0.setF of
       have hS1 := hS0.grown (grown_cells wc bo [.int .i64 of.b, .int .i64 of.s, .int .u64 of.u] 16) hbb hbfo hb0o
       obtain ⟨W1_, hW1_, hO1⟩ := nameW (p := fun W => OpAt W bo ⟨1 + r1, 1 + m, 11, 2 * m + r0, 0, 0, 0, 0, of, [], 0, 0⟩ none 0) hO1
       rw [hW1_.out] at hS1
       have hf_0 := hS0.f
       have y1_1 := hS1.c1
       have y2_1 := hS1.c2
       have y3_1 := hS1.c3
       have ck_1 : W1_.cell? ⟨bo, 2, none⟩ = some (.int .i64 11) := hO1.ck
       have fr_1 := hO1.free 0
       have fc_1 : W1_.cell? ⟨bo, 0, none⟩ = some (.int .i64 (1 + r1)) := hO1.cb
       have hO2 := hO1.setI 0 (.int .i64 (1 + u1)) ⟨1 + u1, 1 + m, 11, 2 * m + r0, 0, 0, 0, 0, of, [], 0, 0⟩ none 0 rfl
       have hS2 := hS1.grown (grown_cell W1_ bo 0 (.int .i64 (1 + u1))) hbb hbfo hb0o
       obtain ⟨W2_, hW2_, hO2⟩ := nameW (p := fun W => OpAt W bo ⟨1 + u1, 1 + m, 11, 2 * m + r0, 0, 0, 0, 0, of, [], 0, 0⟩ none 0) hO2
       rw [hW2_.out] at hS2
       have y1_2 := hS2.c1
       have y2_2 := hS2.c2
       have y3_2 := hS2.c3
       have ck_2 : W2_.cell? ⟨bo, 2, none⟩ = some (.int .i64 11) := hO2.ck
       go_upto_region 41 with fail
       go_upto_region 42 with (first
        | (refine wpList_load_row rfl 34 _ rfl bf rfl 34 #[.int .i64 of.b, .int .i64 of.s, .int .u64 of.u] (0, 0) _ hf_0 Tryd.underlying34 rfl (by kernel_rfl) ?_)
        | (refine wpList_store_mid rfl 34 _ _ rfl bo 16 #[.int .i64 of.b, .int .i64 of.s, .int .u64 of.u] rfl rfl hth_0 (by kernel_rfl) (by simp [Value.oneCell']) ?_)
        | (rw [hW1_.out])
        | fail)
       go_upto_region 43 with (first
        | (rw [hW2_.out])
        | fail)
       have hbq : Below W2_.heap.size W2_ W2_.drew := (Below.refl _ _).drew
       have hOq := hO2.below hbq (cell_lt hO2.cb)
       have hSq := hS2.below hbq
       obtain ⟨wq, hwq⟩ : ∃ wq, Hid (W2_.drew = wq) := ⟨_, Lib.hid rfl⟩
       rw [hwq.out] at hOq hSq
       have yq : wq.cell? ⟨b, off + 2, none⟩ = some (.int .i64 k2) := hSq.c2
       have hUr : UI (wq.alloc (.cells #[.int .i64 4, .int .i64 5, .int .i64 7, .int .i64 4, .int .i64 (1 + u6)] 3)) (some ⟨wq.heap.size, 0, none⟩) 5 [4, 5, 7, 4, 1 + u6] := UI.row wq [4, 5, 7, 4, 1 + u6] (by intro x hx; simp only [List.mem_cons, List.not_mem_nil, or_false] at hx; omega)
       have hbr := Below.lit wq (.cells #[.int .i64 4, .int .i64 5, .int .i64 7, .int .i64 4, .int .i64 (1 + u6)] 3)
       have hOr := hOq.below hbr (cell_lt hOq.cb)
       have hSr := hSq.below hbr
       obtain ⟨wr5, hwr5, hUr⟩ := nameW (p := fun W => UI W (some ⟨wq.heap.size, 0, none⟩) 5 [4, 5, 7, 4, 1 + u6]) hUr
       rw [hwr5.out] at hOr hSr hbr
       obtain ⟨br, hbrn⟩ : ∃ br, Hid (wq.heap.size = br) := ⟨_, Lib.hid rfl⟩
       rw [hbrn.out] at hUr
       obtain ⟨b', off', he, _, cr, _⟩ := hUr.look (i := q5) (by omega)
       injection he with he; injection he with he1 he2; subst he1; subst he2
       rw [hdn.out, Nat.zero_add] at cr
       have yr : wr5.cell? ⟨b, off + 2, none⟩ = some (.int .i64 k2) := hSr.c2
       have fr5 := hOr.free 5
       have fc5 : wr5.cell? ⟨bo, 5, none⟩ = some (.int .i64 0) := hOr.cd
       have hOs := hOr.setI 5 (.int .i64 dv5) ⟨1 + u1, 1 + m, 11, 2 * m + r0, dv5, 0, 0, 0, of, [], 0, 0⟩ none 0 rfl
       have hSs := hSr.grown (grown_cell wr5 bo 5 (.int .i64 dv5)) hbb hbfo hb0o
       have ys : (wr5.setCell ⟨bo, 5, none⟩ (.int .i64 dv5)).cell? ⟨b, off + 2, none⟩ = some (.int .i64 k2) := hSs.c2
       obtain ⟨ws5, hws5, hOs⟩ := nameW (p := fun W => OpAt W bo ⟨1 + u1, 1 + m, 11, 2 * m + r0, dv5, 0, 0, 0, of, [], 0, 0⟩ none 0) hOs
       rw [hws5.out] at hSs ys
       apply wp_post_eq (R := fun T => T = ws5)
       ·refine wp_region_D (D := fun T => T.cell? ⟨b, off + 2, none⟩ = some (.int .i64 k2)) (by kernel_rfl) ?_
        rw [hwq.out]
        change wpAnyD _ _ _ _ _ 15 _ _ _
        apply wpAnyD_take (i := 0) yq rfl (by kernel_rfl) (by kernel_rfl) (by kernel_rfl) (fun _ _ _ h => by cases h.1) rfl
        ·intro T hT
         go_simp
         try rfl
        try simp only [Act.put, List.setIfInBounds_toArray, List.set_cons_succ, List.set_cons_zero, List.getElem_toArray, List.getElem_cons_zero]
        apply wpAnyD_take (i := 1) yq rfl (by kernel_rfl) (by kernel_rfl) (by kernel_rfl) (fun _ _ _ h => by cases h.1) rfl
        ·intro T hT
         go_simp
         try rfl
        try simp only [Act.put, List.setIfInBounds_toArray, List.set_cons_succ, List.set_cons_zero, List.getElem_toArray, List.getElem_cons_succ, List.getElem_cons_zero]
        apply wpAnyD_take (i := 2) yq rfl (by kernel_rfl) (by kernel_rfl) (by kernel_rfl) (fun _ _ _ h => by cases h.1) rfl
        ·intro T hT
         go_simp
         try rfl
        try simp only [Act.put, List.setIfInBounds_toArray, List.set_cons_succ, List.set_cons_zero, List.getElem_toArray, List.getElem_cons_succ, List.getElem_cons_zero]
        apply wpAnyD_take (i := 3) yq rfl (by kernel_rfl) (by kernel_rfl) (by kernel_rfl) (fun _ _ _ h => by cases h.1) rfl
        ·intro T hT
         go_simp
         try rfl
        try simp only [Act.put, List.setIfInBounds_toArray, List.set_cons_succ, List.set_cons_zero, List.getElem_toArray, List.getElem_cons_succ, List.getElem_cons_zero]
        apply wpAnyD_take (i := 4) yq rfl (by kernel_rfl) (by kernel_rfl) (by kernel_rfl) (fun _ _ _ h => by cases h.1) rfl
        ·intro T hT
         go_simp
         try rfl
        try simp only [Act.put, List.setIfInBounds_toArray, List.set_cons_succ, List.set_cons_zero, List.getElem_toArray, List.getElem_cons_succ, List.getElem_cons_zero]
        apply wpAnyD_take (i := 5) yq rfl (by kernel_rfl) (by kernel_rfl) (by kernel_rfl) (fun _ _ _ h => by cases h.1) rfl
        ·intro T hT
         go_simp
         try rfl
        try simp only [Act.put, List.setIfInBounds_toArray, List.set_cons_succ, List.set_cons_zero, List.getElem_toArray, List.getElem_cons_succ, List.getElem_cons_zero]
        apply wpAnyD_take (i := 7) yq rfl (by kernel_rfl) (by kernel_rfl) (by kernel_rfl) (fun _ _ _ h => by cases h.1) rfl
        ·intro T hT
         go_simp
         try rfl
        try simp only [Act.put, List.setIfInBounds_toArray, List.set_cons_succ, List.set_cons_zero, List.getElem_toArray, List.getElem_cons_succ, List.getElem_cons_zero]
        apply wpAnyD_take (i := 8) yq rfl (by kernel_rfl) (by kernel_rfl) (by kernel_rfl) (fun _ _ _ h => by cases h.1) rfl
        ·intro T hT
         go_simp
         try rfl
        try simp only [Act.put, List.setIfInBounds_toArray, List.set_cons_succ, List.set_cons_zero, List.getElem_toArray, List.getElem_cons_succ, List.getElem_cons_zero]
        apply wpAnyD_take (i := 9) yq rfl (by kernel_rfl) (by kernel_rfl) (by kernel_rfl) (fun _ _ _ h => by cases h.1) rfl
        ·intro T hT
         go_simp
         try rfl
        try simp only [Act.put, List.setIfInBounds_toArray, List.set_cons_succ, List.set_cons_zero, List.getElem_toArray, List.getElem_cons_succ, List.getElem_cons_zero]
        apply wpAnyD_take (i := 10) yq rfl (by kernel_rfl) (by kernel_rfl) (by kernel_rfl) (fun _ _ _ h => by cases h.1) rfl
        ·intro T hT
         go_simp
         try rfl
        try simp only [Act.put, List.setIfInBounds_toArray, List.set_cons_succ, List.set_cons_zero, List.getElem_toArray, List.getElem_cons_succ, List.getElem_cons_zero]
        refine wpAnyD_one (i := 6) (by kernel_rfl) rfl rfl (fun K' hK => ?_)
        refine wp_rowTo 22 3 5 _ rfl Tryd.underlying22 #[.int .i64 4, .int .i64 5, .int .i64 7, .int .i64 4, .int .i64 (1 + u6)] (by kernel_rfl) ?_
        rw [hwr5.out, hbrn.out]
        refine hK _ _ ⟨yr, ?_⟩
        clear hK K'
        try simp only [Act.put, List.setIfInBounds_toArray, List.set_cons_succ, List.set_cons_zero, List.getElem_toArray, List.getElem_cons_succ, List.getElem_cons_zero]
        apply wpAnyD_take (i := 11) yr rfl (by kernel_rfl) (by kernel_rfl) (by kernel_rfl) (fun _ _ _ h => by cases h.1) rfl
        ·intro T hT
         go_simp
         try rfl
        try simp only [Act.put, List.setIfInBounds_toArray, List.set_cons_succ, List.set_cons_zero, List.getElem_toArray, List.getElem_cons_succ, List.getElem_cons_zero]
        refine wpAnyD_one (i := 12) (by kernel_rfl) rfl rfl (fun K' hK => ?_)
        go_simp
        refine hK _ _ ⟨yr, ?_⟩
        clear hK K'
        try simp only [Act.put, List.setIfInBounds_toArray, List.set_cons_succ, List.set_cons_zero, List.getElem_toArray, List.getElem_cons_succ, List.getElem_cons_zero]
        apply wpAnyD_take (i := 13) yr rfl (by kernel_rfl) (by kernel_rfl) (by kernel_rfl) (fun _ _ _ h => by cases h.1) rfl
        ·intro T hT
         go_simp
         try rfl
        try simp only [Act.put, List.setIfInBounds_toArray, List.set_cons_succ, List.set_cons_zero, List.getElem_toArray, List.getElem_cons_succ, List.getElem_cons_zero]
        refine wpAnyD_one (i := 14) (by kernel_rfl) rfl rfl (fun K' hK => ?_)
        go_simp
        (try rw [hws5.out])
        refine hK _ _ ⟨ys, ?_⟩
        clear hK K'
        try simp only [Act.put, List.setIfInBounds_toArray, List.set_cons_succ, List.set_cons_zero, List.getElem_toArray, List.getElem_cons_succ, List.getElem_cons_zero]
        exact wpAnyD_done (by kernel_rfl) ⟨rfl, rfl, rfl⟩ _
       intro T hT
       rw [hT]
       clear hT T
       change Exit.then _ _ _ _ ws5
       clear hOq hSq hOr hSr fr5 fc5 yq yr cr hUr
       have hO3 := hOs
       have hS3 := hSs
       have y1_3 := hS3.c1
       have y2_3 := hS3.c2
       have y3_3 := hS3.c3
       have ck_3 : ws5.cell? ⟨bo, 2, none⟩ = some (.int .i64 11) := hO3.ck
       have hzF := hS3.z
       have hOe := hzF.setAll ⟨1 + u1, 1 + m, 11, 2 * m + r0, dv5, 0, 0, 0, of, [], 0, 0⟩ none 0
       obtain ⟨We, hWe, hOe⟩ := nameW (p := fun W => OpAt W w.heap.size ⟨1 + u1, 1 + m, 11, 2 * m + r0, dv5, 0, 0, 0, of, [], 0, 0⟩ none 0) hOe
       have hbe : Below w.heap.size w We := by rw [← hWe.out]; exact hS3.hb.grown (grown_row ws5 w.heap.size _) hS3.hb.size (fun g e => by injection e with e; omega)
       have hof : Hid (opN xs (l.map Prod.fst) = ⟨1 + u1, 1 + m, 11, 2 * m + r0, dv5, 0, 0, 0, of, [], 0, 0⟩) := Lib.hid (by rw [hop.out, ← hu1.out, ← hdv5.out, hofd.out]; rfl)
       go_upto_region 51 with fail
       refine wp_region_lit ?_
       refine wpList_load_row rfl 42 _ rfl bo rfl 42 (opC ⟨1 + u1, 1 + m, 11, 2 * m + r0, dv5, 0, 0, 0, of, [], 0, 0⟩ none 0) (0, 0) _ hO3 Tryd.underlying42 rfl (by kernel_rfl) ?_
       simp only [Act.put, List.setIfInBounds_toArray, List.set_cons_succ, List.set_cons_zero]
       refine wpList_store_row rfl 42 _ _ rfl w.heap.size (opC ⟨1 + u1, 1 + m, 11, 2 * m + r0, dv5, 0, 0, 0, of, [], 0, 0⟩ none 0) rfl rfl 42 _ hzF (by kernel_rfl) rfl (opC_one _ _ _) ?_
       simp only [Act.put]
       rw [hWe.out]
       refine wpList_nil ?_
       apply_assumption
       refine wp_ret ?_
       refine bodyPost_ret (v := .agg (opC ⟨1 + u1, 1 + m, 11, 2 * m + r0, dv5, 0, 0, 0, of, [], 0, 0⟩ none 0)) ?_ rfl ?_
       ·exact results_cell_row rfl _ _ w.heap.size 42 _ (0, 0) _ rfl hOe Tryd.underlying42 rfl (by kernel_rfl)
       ·refine ⟨none, 0, ?_, ?_, fun _ h => (by cases h), hbe⟩
        ·rw [hof.out]
        ·rw [hof.out]; exact ⟨rfl, .nil, fun _ h => (by cases h)⟩
      ·have hO0 : OpAt wc bo ⟨1 + r1, 1 + m, 12, 2 * m + r0, 0, 0, 0, 0, ⟨0, 0, 0⟩, [], 0, 0⟩ none 0 := hO
       have hS0 := hS
       have y1_0 := hS0.c1
       have y2_0 := hS0.c2
       have y3_0 := hS0.c3
       have ck_0 : wc.cell? ⟨bo, 2, none⟩ = some (.int .i64 12) := hO0.ck
       have hth_0 := hO0.there 16 3 (by omega)
       have hO1 := hO0.setF of
       have hS1 := hS0.grown (grown_cells wc bo [.int .i64 of.b, .int .i64 of.s, .int .u64 of.u] 16) hbb hbfo hb0o
       obtain ⟨W1_, hW1_, hO1⟩ := nameW (p := fun W => OpAt W bo ⟨1 + r1, 1 + m, 12, 2 * m + r0, 0, 0, 0, 0, of, [], 0, 0⟩ none 0) hO1
       rw [hW1_.out] at hS1
       have hf_0 := hS0.f
       have y1_1 := hS1.c1
       have y2_1 := hS1.c2
       have y3_1 := hS1.c3
       have ck_1 : W1_.cell? ⟨bo, 2, none⟩ = some (.int .i64 12) := hO1.ck
       have hzF := hS1.z
       have hOe := hzF.setAll ⟨1 + r1, 1 + m, 12, 2 * m + r0, 0, 0, 0, 0, of, [], 0, 0⟩ none 0
       obtain ⟨We, hWe, hOe⟩ := nameW (p := fun W => OpAt W w.heap.size ⟨1 + r1, 1 + m, 12, 2 * m + r0, 0, 0, 0, 0, of, [], 0, 0⟩ none 0) hOe
       have hbe : Below w.heap.size w We := by rw [← hWe.out]; exact hS1.hb.grown (grown_row W1_ w.heap.size _) hS1.hb.size (fun g e => by injection e with e; omega)
       have hof : Hid (opN xs (l.map Prod.fst) = ⟨1 + r1, 1 + m, 12, 2 * m + r0, 0, 0, 0, 0, of, [], 0, 0⟩) := Lib.hid (by rw [hop.out, hofd.out]; rfl)
       go_upto_region 50 with fail
       go_upto_region 51 with (first
        | (refine wpList_load_row rfl 34 _ rfl bf rfl 34 #[.int .i64 of.b, .int .i64 of.s, .int .u64 of.u] (0, 0) _ hf_0 Tryd.underlying34 rfl (by kernel_rfl) ?_)
        | (refine wpList_store_mid rfl 34 _ _ rfl bo 16 #[.int .i64 of.b, .int .i64 of.s, .int .u64 of.u] rfl rfl hth_0 (by kernel_rfl) (by simp [Value.oneCell']) ?_)
        | (rw [hW1_.out])
        | fail)
       go_upto_region 51 with fail
       refine wp_region_lit ?_
       refine wpList_load_row rfl 42 _ rfl bo rfl 42 (opC ⟨1 + r1, 1 + m, 12, 2 * m + r0, 0, 0, 0, 0, of, [], 0, 0⟩ none 0) (0, 0) _ hO1 Tryd.underlying42 rfl (by kernel_rfl) ?_
       simp only [Act.put, List.setIfInBounds_toArray, List.set_cons_succ, List.set_cons_zero]
       refine wpList_store_row rfl 42 _ _ rfl w.heap.size (opC ⟨1 + r1, 1 + m, 12, 2 * m + r0, 0, 0, 0, 0, of, [], 0, 0⟩ none 0) rfl rfl 42 _ hzF (by kernel_rfl) rfl (opC_one _ _ _) ?_
       simp only [Act.put]
       rw [hWe.out]
       refine wpList_nil ?_
       apply_assumption
       refine wp_ret ?_
       refine bodyPost_ret (v := .agg (opC ⟨1 + r1, 1 + m, 12, 2 * m + r0, 0, 0, 0, 0, of, [], 0, 0⟩ none 0)) ?_ rfl ?_
       ·exact results_cell_row rfl _ _ w.heap.size 42 _ (0, 0) _ rfl hOe Tryd.underlying42 rfl (by kernel_rfl)
       ·refine ⟨none, 0, ?_, ?_, fun _ h => (by cases h), hbe⟩
        ·rw [hof.out]
        ·rw [hof.out]; exact ⟨rfl, .nil, fun _ h => (by cases h)⟩
      ·have hO0 : OpAt wc bo ⟨1 + r1, 1 + m, 13, 2 * m + r0, 0, 0, 0, 0, ⟨0, 0, 0⟩, [], 0, 0⟩ none 0 := hO
       have hS0 := hS
       have y1_0 := hS0.c1
       have y2_0 := hS0.c2
       have y3_0 := hS0.c3
       have ck_0 : wc.cell? ⟨bo, 2, none⟩ = some (.int .i64 13) := hO0.ck
       obtain ⟨u1, hu1⟩ : ∃ r, Hid (k1 % 3 = r) := ⟨_, Lib.hid rfl⟩
       have eu1 : Int.tmod k1 3 = u1 := by rw [Int.tmod_eq_emod_of_nonneg b10]; exact hu1.out
       have lu1 : 0 ≤ u1 := by have := hu1.out; omega
       have gu1 : u1 < 3 := by have := hu1.out; omega
       obtain ⟨u5, hu5⟩ : ∃ r, Hid (k2 / 5 = r) := ⟨_, Lib.hid rfl⟩
       have eu5 : Int.tdiv k2 5 = u5 := by rw [Int.tdiv_eq_ediv_of_nonneg b20]; exact hu5.out
       have lu5 : 0 ≤ u5 := by have := hu5.out; omega
       have gu5 : u5 < 1000000 := by have := hu5.out; omega
       have wu5 : IntKind.i64.wrap u5 = u5 := wrapS (by omega) (by omega)
       obtain ⟨u6, hu6⟩ : ∃ r, Hid (u5 % 7 = r) := ⟨_, Lib.hid rfl⟩
       have eu6 : Int.tmod u5 7 = u6 := by rw [Int.tmod_eq_emod_of_nonneg lu5]; exact hu6.out
       have lu6 : 0 ≤ u6 := by have := hu6.out; omega
       have gu6 : u6 < 7 := by have := hu6.out; omega
       have wu1 : IntKind.i64.wrap (1 + u1) = 1 + u1 := wrapS (by omega) (by omega)
       have wu6 : IntKind.i64.wrap (1 + u6) = 1 + u6 := wrapS (by omega) (by omega)
       obtain ⟨q5, hq5⟩ : ∃ q : Nat, (k2 % 5).toNat = q := ⟨_, rfl⟩
       have eq5 : Int.tmod k2 5 = (q5 : Int) := by rw [Int.tmod_eq_emod_of_nonneg b20]; omega
       have q55 : q5 < 5 := by omega
       have q5i : (q5 : Int) < 5 := by omega
       have q50 : (0 : Int) ≤ (q5 : Int) := by omega
       obtain ⟨dv5, hdv5⟩ : ∃ d, Hid (devK k2 = d) := ⟨_, Lib.hid rfl⟩
       have hdn : nth [4, 5, 7, 4, 1 + u6] q5 = dv5 := by rw [← hdv5.out]; unfold devK; rw [hu5.out, hu6.out, hq5]; rfl
       have hdb := devK_bd k2 b20
       rw [hdv5.out] at hdb
       replace hdn := Lib.hid hdn
       obtain ⟨u7, hu7⟩ : ∃ r, Hid (k2 / 35 = r) := ⟨_, Lib.hid rfl⟩
       have eu7 : Int.tdiv k2 35 = u7 := by rw [Int.tdiv_eq_ediv_of_nonneg b20]; exact hu7.out
       have lu7 : 0 ≤ u7 := by have := hu7.out; omega
       have gu7 : u7 < 1000000 := by have := hu7.out; omega
       have wu7 : IntKind.i64.wrap u7 = u7 := wrapS (by omega) (by omega)
       obtain ⟨u8, hu8⟩ : ∃ r, Hid (u7 % 7 = r) := ⟨_, Lib.hid rfl⟩
       have eu8 : Int.tmod u7 7 = u8 := by rw [Int.tmod_eq_emod_of_nonneg lu7]; exact hu8.out
       have lu8 : 0 ≤ u8 := by have := hu8.out; omega
       have gu8 : u8 < 7 := by have := hu8.out; omega
       have hth_0 := hO0.there 16 3 (by omega)
       have hO1 := hO0.setF of
       have hS1 := hS0.grown (grown_cells wc bo [.int .i64 of.b, .int .i64 of.s, .int .u64 of.u] 16) hbb hbfo hb0o
       obtain ⟨W1_, hW1_, hO1⟩ := nameW (p := fun W => OpAt W bo ⟨1 + r1, 1 + m, 13, 2 * m + r0, 0, 0, 0, 0, of, [], 0, 0⟩ none 0) hO1
       rw [hW1_.out] at hS1
       have hf_0 := hS0.f
       have y1_1 := hS1.c1
       have y2_1 := hS1.c2
       have y3_1 := hS1.c3
       have ck_1 : W1_.cell? ⟨bo, 2, none⟩ = some (.int .i64 13) := hO1.ck
       have fr_1 := hO1.free 0
       have fc_1 : W1_.cell? ⟨bo, 0, none⟩ = some (.int .i64 (1 + r1)) := hO1.cb
       have hO2 := hO1.setI 0 (.int .i64 (1 + u1)) ⟨1 + u1, 1 + m, 13, 2 * m + r0, 0, 0, 0, 0, of, [], 0, 0⟩ none 0 rfl
       have hS2 := hS1.grown (grown_cell W1_ bo 0 (.int .i64 (1 + u1))) hbb hbfo hb0o
       obtain ⟨W2_, hW2_, hO2⟩ := nameW (p := fun W => OpAt W bo ⟨1 + u1, 1 + m, 13, 2 * m + r0, 0, 0, 0, 0, of, [], 0, 0⟩ none 0) hO2
       rw [hW2_.out] at hS2
       have y1_2 := hS2.c1
       have y2_2 := hS2.c2
       have y3_2 := hS2.c3
       have ck_2 : W2_.cell? ⟨bo, 2, none⟩ = some (.int .i64 13) := hO2.ck
       go_upto_region 41 with fail
       go_upto_region 42 with (first
        | (refine wpList_load_row rfl 34 _ rfl bf rfl 34 #[.int .i64 of.b, .int .i64 of.s, .int .u64 of.u] (0, 0) _ hf_0 Tryd.underlying34 rfl (by kernel_rfl) ?_)
        | (refine wpList_store_mid rfl 34 _ _ rfl bo 16 #[.int .i64 of.b, .int .i64 of.s, .int .u64 of.u] rfl rfl hth_0 (by kernel_rfl) (by simp [Value.oneCell']) ?_)
        | (rw [hW1_.out])
        | fail)
       go_upto_region 43 with (first
        | (rw [hW2_.out])
        | fail)
       have hbq : Below W2_.heap.size W2_ W2_.drew := (Below.refl _ _).drew
       have hOq := hO2.below hbq (cell_lt hO2.cb)
       have hSq := hS2.below hbq
       obtain ⟨wq, hwq⟩ : ∃ wq, Hid (W2_.drew = wq) := ⟨_, Lib.hid rfl⟩
       rw [hwq.out] at hOq hSq
       have yq : wq.cell? ⟨b, off + 2, none⟩ = some (.int .i64 k2) := hSq.c2
       have hUr : UI (wq.alloc (.cells #[.int .i64 4, .int .i64 5, .int .i64 7, .int .i64 4, .int .i64 (1 + u6)] 3)) (some ⟨wq.heap.size, 0, none⟩) 5 [4, 5, 7, 4, 1 + u6] := UI.row wq [4, 5, 7, 4, 1 + u6] (by intro x hx; simp only [List.mem_cons, List.not_mem_nil, or_false] at hx; omega)
       have hbr := Below.lit wq (.cells #[.int .i64 4, .int .i64 5, .int .i64 7, .int .i64 4, .int .i64 (1 + u6)] 3)
       have hOr := hOq.below hbr (cell_lt hOq.cb)
       have hSr := hSq.below hbr
       obtain ⟨wr5, hwr5, hUr⟩ := nameW (p := fun W => UI W (some ⟨wq.heap.size, 0, none⟩) 5 [4, 5, 7, 4, 1 + u6]) hUr
       rw [hwr5.out] at hOr hSr hbr
       obtain ⟨br, hbrn⟩ : ∃ br, Hid (wq.heap.size = br) := ⟨_, Lib.hid rfl⟩
       rw [hbrn.out] at hUr
       obtain ⟨b', off', he, _, cr, _⟩ := hUr.look (i := q5) (by omega)
       injection he with he; injection he with he1 he2; subst he1; subst he2
       rw [hdn.out, Nat.zero_add] at cr
       have yr : wr5.cell? ⟨b, off + 2, none⟩ = some (.int .i64 k2) := hSr.c2
       have fr5 := hOr.free 5
       have fc5 : wr5.cell? ⟨bo, 5, none⟩ = some (.int .i64 0) := hOr.cd
       have hOs := hOr.setI 5 (.int .i64 dv5) ⟨1 + u1, 1 + m, 13, 2 * m + r0, dv5, 0, 0, 0, of, [], 0, 0⟩ none 0 rfl
       have hSs := hSr.grown (grown_cell wr5 bo 5 (.int .i64 dv5)) hbb hbfo hb0o
       have ys : (wr5.setCell ⟨bo, 5, none⟩ (.int .i64 dv5)).cell? ⟨b, off + 2, none⟩ = some (.int .i64 k2) := hSs.c2
       obtain ⟨ws5, hws5, hOs⟩ := nameW (p := fun W => OpAt W bo ⟨1 + u1, 1 + m, 13, 2 * m + r0, dv5, 0, 0, 0, of, [], 0, 0⟩ none 0) hOs
       rw [hws5.out] at hSs ys
       apply wp_post_eq (R := fun T => T = ws5)
       ·refine wp_region_D (D := fun T => T.cell? ⟨b, off + 2, none⟩ = some (.int .i64 k2)) (by kernel_rfl) ?_
        rw [hwq.out]
        change wpAnyD _ _ _ _ _ 15 _ _ _
        apply wpAnyD_take (i := 0) yq rfl (by kernel_rfl) (by kernel_rfl) (by kernel_rfl) (fun _ _ _ h => by cases h.1) rfl
        ·intro T hT
         go_simp
         try rfl
        try simp only [Act.put, List.setIfInBounds_toArray, List.set_cons_succ, List.set_cons_zero, List.getElem_toArray, List.getElem_cons_zero]
        apply wpAnyD_take (i := 1) yq rfl (by kernel_rfl) (by kernel_rfl) (by kernel_rfl) (fun _ _ _ h => by cases h.1) rfl
        ·intro T hT
         go_simp
         try rfl
        try simp only [Act.put, List.setIfInBounds_toArray, List.set_cons_succ, List.set_cons_zero, List.getElem_toArray, List.getElem_cons_succ, List.getElem_cons_zero]
        apply wpAnyD_take (i := 2) yq rfl (by kernel_rfl) (by kernel_rfl) (by kernel_rfl) (fun _ _ _ h => by cases h.1) rfl
        ·intro T hT
         go_simp
         try rfl
        try simp only [Act.put, List.setIfInBounds_toArray, List.set_cons_succ, List.set_cons_zero, List.getElem_toArray, List.getElem_cons_succ, List.getElem_cons_zero]
        apply wpAnyD_take (i := 3) yq rfl (by kernel_rfl) (by kernel_rfl) (by kernel_rfl) (fun _ _ _ h => by cases h.1) rfl
        ·intro T hT
         go_simp
         try rfl
        try simp only [Act.put, List.setIfInBounds_toArray, List.set_cons_succ, List.set_cons_zero, List.getElem_toArray, List.getElem_cons_succ, List.getElem_cons_zero]
        apply wpAnyD_take (i := 4) yq rfl (by kernel_rfl) (by kernel_rfl) (by kernel_rfl) (fun _ _ _ h => by cases h.1) rfl
        ·intro T hT
         go_simp
         try rfl
        try simp only [Act.put, List.setIfInBounds_toArray, List.set_cons_succ, List.set_cons_zero, List.getElem_toArray, List.getElem_cons_succ, List.getElem_cons_zero]
        apply wpAnyD_take (i := 5) yq rfl (by kernel_rfl) (by kernel_rfl) (by kernel_rfl) (fun _ _ _ h => by cases h.1) rfl
        ·intro T hT
         go_simp
         try rfl
        try simp only [Act.put, List.setIfInBounds_toArray, List.set_cons_succ, List.set_cons_zero, List.getElem_toArray, List.getElem_cons_succ, List.getElem_cons_zero]
        apply wpAnyD_take (i := 7) yq rfl (by kernel_rfl) (by kernel_rfl) (by kernel_rfl) (fun _ _ _ h => by cases h.1) rfl
        ·intro T hT
         go_simp
         try rfl
        try simp only [Act.put, List.setIfInBounds_toArray, List.set_cons_succ, List.set_cons_zero, List.getElem_toArray, List.getElem_cons_succ, List.getElem_cons_zero]
        apply wpAnyD_take (i := 8) yq rfl (by kernel_rfl) (by kernel_rfl) (by kernel_rfl) (fun _ _ _ h => by cases h.1) rfl
        ·intro T hT
         go_simp
         try rfl
        try simp only [Act.put, List.setIfInBounds_toArray, List.set_cons_succ, List.set_cons_zero, List.getElem_toArray, List.getElem_cons_succ, List.getElem_cons_zero]
        apply wpAnyD_take (i := 9) yq rfl (by kernel_rfl) (by kernel_rfl) (by kernel_rfl) (fun _ _ _ h => by cases h.1) rfl
        ·intro T hT
         go_simp
         try rfl
        try simp only [Act.put, List.setIfInBounds_toArray, List.set_cons_succ, List.set_cons_zero, List.getElem_toArray, List.getElem_cons_succ, List.getElem_cons_zero]
        apply wpAnyD_take (i := 10) yq rfl (by kernel_rfl) (by kernel_rfl) (by kernel_rfl) (fun _ _ _ h => by cases h.1) rfl
        ·intro T hT
         go_simp
         try rfl
        try simp only [Act.put, List.setIfInBounds_toArray, List.set_cons_succ, List.set_cons_zero, List.getElem_toArray, List.getElem_cons_succ, List.getElem_cons_zero]
        refine wpAnyD_one (i := 6) (by kernel_rfl) rfl rfl (fun K' hK => ?_)
        refine wp_rowTo 22 3 5 _ rfl Tryd.underlying22 #[.int .i64 4, .int .i64 5, .int .i64 7, .int .i64 4, .int .i64 (1 + u6)] (by kernel_rfl) ?_
        rw [hwr5.out, hbrn.out]
        refine hK _ _ ⟨yr, ?_⟩
        clear hK K'
        try simp only [Act.put, List.setIfInBounds_toArray, List.set_cons_succ, List.set_cons_zero, List.getElem_toArray, List.getElem_cons_succ, List.getElem_cons_zero]
        apply wpAnyD_take (i := 11) yr rfl (by kernel_rfl) (by kernel_rfl) (by kernel_rfl) (fun _ _ _ h => by cases h.1) rfl
        ·intro T hT
         go_simp
         try rfl
        try simp only [Act.put, List.setIfInBounds_toArray, List.set_cons_succ, List.set_cons_zero, List.getElem_toArray, List.getElem_cons_succ, List.getElem_cons_zero]
        refine wpAnyD_one (i := 12) (by kernel_rfl) rfl rfl (fun K' hK => ?_)
        go_simp
        refine hK _ _ ⟨yr, ?_⟩
        clear hK K'
        try simp only [Act.put, List.setIfInBounds_toArray, List.set_cons_succ, List.set_cons_zero, List.getElem_toArray, List.getElem_cons_succ, List.getElem_cons_zero]
        apply wpAnyD_take (i := 13) yr rfl (by kernel_rfl) (by kernel_rfl) (by kernel_rfl) (fun _ _ _ h => by cases h.1) rfl
        ·intro T hT
         go_simp
         try rfl
        try simp only [Act.put, List.setIfInBounds_toArray, List.set_cons_succ, List.set_cons_zero, List.getElem_toArray, List.getElem_cons_succ, List.getElem_cons_zero]
        refine wpAnyD_one (i := 14) (by kernel_rfl) rfl rfl (fun K' hK => ?_)
        go_simp
        (try rw [hws5.out])
        refine hK _ _ ⟨ys, ?_⟩
        clear hK K'
        try simp only [Act.put, List.setIfInBounds_toArray, List.set_cons_succ, List.set_cons_zero, List.getElem_toArray, List.getElem_cons_succ, List.getElem_cons_zero]
        exact wpAnyD_done (by kernel_rfl) ⟨rfl, rfl, rfl⟩ _
       intro T hT
       rw [hT]
       clear hT T
       change Exit.then _ _ _ _ ws5
       clear hOq hSq hOr hSr fr5 fc5 yq yr cr hUr
       have hO3 := hOs
       have hS3 := hSs
       have y1_3 := hS3.c1
       have y2_3 := hS3.c2
       have y3_3 := hS3.c3
       have ck_3 : ws5.cell? ⟨bo, 2, none⟩ = some (.int .i64 13) := hO3.ck
       have fr_3 := hO3.free 6
       have fc_3 : ws5.cell? ⟨bo, 6, none⟩ = some (.int .i64 (0)) := hO3.co
       have hO4 := hO3.setI 6 (.int .i64 (1 + u8)) ⟨1 + u1, 1 + m, 13, 2 * m + r0, dv5, 1 + u8, 0, 0, of, [], 0, 0⟩ none 0 rfl
       have hS4 := hS3.grown (grown_cell ws5 bo 6 (.int .i64 (1 + u8))) hbb hbfo hb0o
       obtain ⟨W4_, hW4_, hO4⟩ := nameW (p := fun W => OpAt W bo ⟨1 + u1, 1 + m, 13, 2 * m + r0, dv5, 1 + u8, 0, 0, of, [], 0, 0⟩ none 0) hO4
       rw [hW4_.out] at hS4
       have y1_4 := hS4.c1
       have y2_4 := hS4.c2
       have y3_4 := hS4.c3
       have ck_4 : W4_.cell? ⟨bo, 2, none⟩ = some (.int .i64 13) := hO4.ck
       have hzF := hS4.z
       have hOe := hzF.setAll ⟨1 + u1, 1 + m, 13, 2 * m + r0, dv5, 1 + u8, 0, 0, of, [], 0, 0⟩ none 0
       obtain ⟨We, hWe, hOe⟩ := nameW (p := fun W => OpAt W w.heap.size ⟨1 + u1, 1 + m, 13, 2 * m + r0, dv5, 1 + u8, 0, 0, of, [], 0, 0⟩ none 0) hOe
       have hbe : Below w.heap.size w We := by rw [← hWe.out]; exact hS4.hb.grown (grown_row W4_ w.heap.size _) hS4.hb.size (fun g e => by injection e with e; omega)
       have hof : Hid (opN xs (l.map Prod.fst) = ⟨1 + u1, 1 + m, 13, 2 * m + r0, dv5, 1 + u8, 0, 0, of, [], 0, 0⟩) := Lib.hid (by rw [hop.out, ← hu1.out, ← hdv5.out, ← hu8.out, ← hu7.out, hofd.out]; rfl)
       go_upto_region 51 with (first
        | (rw [hW4_.out])
        | fail)
       refine wp_region_lit ?_
       refine wpList_load_row rfl 42 _ rfl bo rfl 42 (opC ⟨1 + u1, 1 + m, 13, 2 * m + r0, dv5, 1 + u8, 0, 0, of, [], 0, 0⟩ none 0) (0, 0) _ hO4 Tryd.underlying42 rfl (by kernel_rfl) ?_
       simp only [Act.put, List.setIfInBounds_toArray, List.set_cons_succ, List.set_cons_zero]
       refine wpList_store_row rfl 42 _ _ rfl w.heap.size (opC ⟨1 + u1, 1 + m, 13, 2 * m + r0, dv5, 1 + u8, 0, 0, of, [], 0, 0⟩ none 0) rfl rfl 42 _ hzF (by kernel_rfl) rfl (opC_one _ _ _) ?_
       simp only [Act.put]
       rw [hWe.out]
       refine wpList_nil ?_
       apply_assumption
       refine wp_ret ?_
       refine bodyPost_ret (v := .agg (opC ⟨1 + u1, 1 + m, 13, 2 * m + r0, dv5, 1 + u8, 0, 0, of, [], 0, 0⟩ none 0)) ?_ rfl ?_
       ·exact results_cell_row rfl _ _ w.heap.size 42 _ (0, 0) _ rfl hOe Tryd.underlying42 rfl (by kernel_rfl)
       ·refine ⟨none, 0, ?_, ?_, fun _ h => (by cases h), hbe⟩
        ·rw [hof.out]
        ·rw [hof.out]; exact ⟨rfl, .nil, fun _ h => (by cases h)⟩
end Go.Proofs.YtkolilbebkkpdaaDoor

namespace Go.Proofs.YtkolilbebkkpdaaDoor
open Go.RowKit Go.Maps Go.BigFrame

/-- A list of operations of the call's own, and the rows of guards that they name. -/
structure OpsG (w : World) (base : Nat) (v : Value) (L : List (OpI × Option Addr × Nat)) : Prop where
 own : OwnE opE w base v L
 gs : ∀ x ∈ L, UI w x.2.1 x.1.gs.length x.1.gs ∧ ∀ a, x.2.1 = some a → base ≤ a.block ∧ a.block < w.heap.size ∧ v.ownBlock ≠ some a.block
theorem OpsG.below {w w' : World} {base : Nat} {v : Value} {L : List (OpI × Option Addr × Nat)} (h : OpsG w base v L) (hb : Below w.heap.size w w') : OpsG w' base v L :=
 ⟨h.own.below hb, fun x hx => ⟨(h.gs x hx).1.below hb, fun a ha => by obtain ⟨h1, h2, h3⟩ := (h.gs x hx).2 a ha; exact ⟨h1, Nat.lt_of_lt_of_le h2 hb.size, h3⟩⟩⟩
/-- append(had, y), telling what grew. -/
theorem app_eg {α : Type} {ops : Array Oper} {rest : List Oper} {o : Oper} {a : Act} {Q : Exit → Act → World → Prop} (E : El α) (hgd : o.guard = none) (s x : Operand)
  (ho : o.op = .call { callee := .builtin .append, args := #[s, x], argTypes := #[E.st, E.st] }) {base : Nat} {v : Value} {l : List α} {W : World} (y : α) {cs : Array Value} (hcs : cs = (E.c y).toArray)
  (hown : OwnE E W base v l) (hs : a.eval s = v) (hx : a.eval x = .slice (some ⟨W.heap.size, 0, none⟩) 1 1) (hn : l.length ≤ 1000000) (hbase : base ≤ W.heap.size)
  (h : ∀ v' w', OwnE E w' base v' (l ++ [y]) → W.grownBy w' v.ownBlock → (∀ g, v'.ownBlock = some g → v.ownBlock = some g ∨ W.heap.size ≤ g) → wpList Tryd.prog ops Q rest (a.put o.dst v') w') :
  wpList Tryd.prog ops Q (o :: rest) a (W.alloc (.cells cs E.t)) := by
 obtain ⟨i0, hi, hz0, hz1, hz2⟩ := info_parts E.hinf
 subst hcs
 have hb0 : Below W.heap.size W (W.alloc (.cells (E.c y).toArray E.t)) := Below.lit W _
 have hown' := hown.below hb0
 refine wpList_append_lies _ hgd s x E.st ho base E.t i0 E.z E.sz E.bt E.hund hi hz0 hz1 hz2 E.hz E.hp v l.length _ hs hown'
  ⟨W.heap.size, 0, none⟩ 1 1 (E.c y) hx (by rw [E.hlen, Nat.one_mul]) ?_ (E.hone y) (by decide) (by unfold maxLen; omega) ?_ (by simp; omega) _ rfl ?_
 ·intro j u hj
  have hadd : (⟨W.heap.size, 0, none⟩ : Addr).add j = ⟨W.heap.size, j, none⟩ := by unfold Addr.add; split <;> simp_all
  rw [hadd, cell_of_row _ W.heap.size j _ E.t (0, 0) (World.alloc_heap_new W _)]
  simpa using hj
 ·have := E.hb
  have h1 : (l.length + 1) * E.bt ≤ 1000001 * 1000 := Nat.mul_le_mul (by omega) this
  omega
 ·intro g cap w' h1 h2 h3 h4
  refine h _ w' ?_ ⟨h2.os, h2.tape, h2.output, Nat.le_trans hb0.size h2.size, fun i hi hne => (h2.block i (Nat.lt_of_lt_of_le hi hb0.size) hne).trans (hb0.block i hi)⟩ ?_
  ·show w'.ownsRow base E.t E.sz _ (l ++ [y]).length ((l ++ [y]).flatMap E.c)
   rw [List.length_append, List.flatMap_append]
   simpa using h1
  ·intro g' hg'
   injection hg' with hg'
   subst hg'
   rcases h3 with h3 | h3
   ·exact .inl h3
   ·right; rw [h3]; exact hb0.size
set_option maxRecDepth 100000 in
set_option maxHeartbeats 8000000 in
theorem Ops_any (w : World) (p : Option Addr) (n : Nat) (xs : List Int) (c : Nat) (hU : UI w p n xs) (hc : n ≤ c) :
  Calls Tryd.prog 12 #[.slice p n c] w fun e w' => ∃ v L, e = .returned v ∧ OpsG w' w.heap.size v L ∧ L.map Prod.fst = opsN xs 21 ∧ Below w.heap.size w w' := by
 have hX := Lib.hid hU.len
 have hown := OwnE.fresh opE w firstL (by simp [firstL]) (by decide)
 have hb := Below.lit w (.cells (firstL.flatMap opE.c).toArray 42)
 obtain ⟨w1, hw1, hown⟩ := nameW (p := fun W => OwnE opE W w.heap.size (.slice (some ⟨w.heap.size, 0, none⟩) 3 3) firstL) hown
 rw [show opE.t = 42 from rfl] at hw1
 rw [hw1.out] at hb
 have hG0 : OpsG w1 w.heap.size (.slice (some ⟨w.heap.size, 0, none⟩) 3 3) firstL := ⟨hown, fun x hx => by
  simp only [firstL, List.mem_cons, List.not_mem_nil, or_false] at hx
  rcases hx with rfl | rfl | rfl <;> exact ⟨⟨rfl, .nil, fun _ h => by cases h⟩, fun a h => by cases h⟩⟩
 go_enter Tryd.func12, Tryd.ntmps12
 go_wp2_with (first
  | (refine wpL_build rfl 42 #[(0, Operand.const (Value.int IntKind.i64 1)), (1, Operand.const (Value.int IntKind.i64 1)), (2, Operand.const (Value.int IntKind.i64 1)), (16, Operand.const (Value.int IntKind.i64 3))] rfl (opC f0 none 0) (by kernel_rfl) ?_; simp only [Act.put, List.setIfInBounds_toArray, List.set_cons_succ, List.set_cons_zero])
  | (refine wpL_build rfl 42 #[(0, Operand.const (Value.int IntKind.i64 1)), (1, Operand.const (Value.int IntKind.i64 2)), (2, Operand.const (Value.int IntKind.i64 2)), (5, Operand.const (Value.int IntKind.i64 2)), (8, Operand.const (Value.int IntKind.i64 3))] rfl (opC f1 none 0) (by kernel_rfl) ?_; simp only [Act.put, List.setIfInBounds_toArray, List.set_cons_succ, List.set_cons_zero])
  | (refine wpL_build rfl 42 #[(0, Operand.const (Value.int IntKind.i64 1)), (1, Operand.const (Value.int IntKind.i64 3)), (2, Operand.const (Value.int IntKind.i64 2)), (5, Operand.const (Value.int IntKind.i64 3)), (8, Operand.const (Value.int IntKind.i64 2))] rfl (opC f2 none 0) (by kernel_rfl) ?_; simp only [Act.put, List.setIfInBounds_toArray, List.set_cons_succ, List.set_cons_zero])
  | (refine Go.Great.wpList_buildSliceTo rfl 27 42 3 _ rfl w.heap.size rfl _ rfl Tryd.underlying27 (firstL.flatMap opE.c).toArray (by kernel_rfl) ?_; rw [hw1.out]; simp only [Act.put, List.setIfInBounds_toArray, List.set_cons_succ, List.set_cons_zero])
  | fail)
 go_loopw [3, 4] (fun v i wr => ∃ (j : Nat) (L : List (OpI × Option Addr × Nat)), j ≤ 21 ∧ i = .int .i64 j ∧ (∀ k, k < j → 4 * k < n) ∧ L.map Prod.fst = opsN xs j ∧ OpsG wr w.heap.size v L ∧ Below w.heap.size w wr) (fun _ i _ => 21 - (intOf i).toNat)
 case atStart => exact ⟨0, firstL, by omega, rfl, fun k hk => absurd hk (by omega), rfl, hG0, hb⟩
 case round =>
  obtain ⟨j, L, hj, rfl, hlo, hL, hG, hbr⟩ := hrel
  by_cases hlt : j < 21 ∧ 4 * j < n
  ·obtain ⟨hlt1, hlt2⟩ := hlt
   have t1 : decide ((j : Int) < 21) = true := decide_eq_true (by omega)
   have t2 : decide (j < 21) = true := decide_eq_true hlt1
   obtain ⟨k4, hk4⟩ : ∃ k : Nat, 4 * j = k := ⟨_, rfl⟩
   have e4 : (4 : Int) * (j : Int) = (k4 : Int) := by omega
   have w4 : IntKind.i64.wrap (k4 : Int) = k4 := wrapS (by omega) (by omega)
   have hk4n : (k4 : Int) < (n : Int) := by omega
   have t3 : decide ((k4 : Int) < (n : Int)) = true := decide_eq_true hk4n
   have t4 : decide (k4 < n) = true := decide_eq_true (by omega)
   obtain ⟨b, off, rfl, _, _, _⟩ := hU.look (i := k4) (by omega)
   have hLl : L.length ≤ 3 + j := by have := opsN_len xs j; rw [← hL, List.length_map] at this; exact this
   have hgood := opsN_good xs j (by omega)
   rw [← hL] at hgood
   have hdr : (UI wr (some ⟨b, off + k4, none⟩) (n - k4) (xs.drop k4)) := (hU.below hbr).drop (by omega)
   obtain ⟨q, d, rfl, hd, hRd, _, _, hob⟩ := hG.own.u
   have hnew : opsN xs (j + 1) = opsN xs j ++ [opN (xs.drop k4) (opsN xs j)] := by
    show (if 4 * j < xs.length then _ else _) = _
    rw [hX.out, if_pos (by omega), hk4]
   replace hnew := Lib.hid hnew
   replace hgood := Lib.hid hgood
   replace hG := Lib.hid hG
   go_wp2_with fail
   refine (Op_any wr _ (n - k4) (xs.drop k4) (c - k4) hdr q L d hRd (by omega) (fun x hx => (hgood.out x.1 (List.mem_map.2 ⟨x, hx, rfl⟩)).ok)).mono ?_
   rintro e w2 ⟨gp, gc, rfl, hug, hgf, hb2⟩
   rw [hL] at hug ⊢
   obtain ⟨o, ho⟩ : ∃ o, Hid (opN (xs.drop k4) (opsN xs j) = o) := ⟨_, Lib.hid rfl⟩
   rw [ho.out] at hug ⊢
   have hG2 := hG.out.below hb2
   have hB2 : w.heap.size ≤ w2.heap.size := Nat.le_trans hbr.size hb2.size
   have hbr2 := hbr.trans (hb2.mono hbr.size)
   replace hG2 := Lib.hid hG2
   have hown2 := hG2.out.own
   go_wp2_with (first
    | (refine Go.Great.wpList_buildSliceTo rfl 27 42 1 _ rfl w2.heap.size rfl _ rfl Tryd.underlying27 (opC o gp gc) (by kernel_rfl) ?_; simp only [Act.put, List.setIfInBounds_toArray, List.set_cons_succ, List.set_cons_zero])
    | (at_builtin; refine app_eg opE rfl _ _ rfl (y := (o, gp, gc)) rfl hown2 rfl rfl (by omega) hB2 ?_; intro v3 w3 hown3 hg3 hn3)
    | fail)
   have hgq : ∀ g, Value.ownBlock (.slice q L.length d) = some g → w.heap.size ≤ g ∧ g < wr.heap.size := fun g hg => hG.out.own.lt hg
   have hb3 : Below w.heap.size w w3 := hbr2.grown hg3 hB2 (fun g hg => (hgq g hg).1)
   have hgs3 : ∀ x ∈ L ++ [(o, gp, gc)], UI w3 x.2.1 x.1.gs.length x.1.gs ∧ ∀ a, x.2.1 = some a → w.heap.size ≤ a.block ∧ a.block < w3.heap.size ∧ v3.ownBlock ≠ some a.block := by
    intro x hx
    rcases List.mem_append.1 hx with hx | hx
    ·obtain ⟨k1, k2⟩ := hG.out.gs x hx
     obtain ⟨m1, m2⟩ := hG2.out.gs x hx
     refine ⟨m1.same fun a ha => hg3.block a.block (m2 a ha).2.1 (fun e => (m2 a ha).2.2 e.symm), fun a ha => ⟨(k2 a ha).1, Nat.lt_of_lt_of_le (m2 a ha).2.1 hg3.size, fun e => ?_⟩⟩
     rcases hn3 _ e with h1 | h1
     ·exact (m2 a ha).2.2 h1
     ·have := (m2 a ha).2.1; omega
    ·rw [List.mem_singleton] at hx
     subst hx
     refine ⟨hug.same fun a ha => hg3.block a.block (hgf a ha).2 (fun e => ?_), fun a ha => ⟨Nat.le_trans hbr.size (hgf a ha).1, Nat.lt_of_lt_of_le (hgf a ha).2 hg3.size, fun e => ?_⟩⟩
     ·have := (hgq _ e.symm).2; have := (hgf a ha).1; omega
     ·rcases hn3 _ e with h1 | h1
      ·have := (hgq _ h1).2; have := (hgf a ha).1; omega
      ·have := (hgf a ha).2; omega
   go_roundw
   case rel => exact ⟨j + 1, L ++ [(o, gp, gc)], by omega, by go_num, fun k hk => by
    rcases Nat.lt_or_ge k j with h | h
    ·exact hlo k h
    ·have : k = j := by omega
     subst this; omega, by rw [List.map_append, hL, hnew.out, ho.out]; rfl, ⟨hown3, hgs3⟩, hb3⟩
   case measure => simp [intOf]; omega
  ·have hend : ∀ k, opsN xs (j + k) = opsN xs j ∨ ¬ (j + k ≤ 21) := by
    intro k
    induction k with
    | zero => exact .inl rfl
    | succ k ih =>
     by_cases h21 : j + (k + 1) ≤ 21
     ·rcases ih with ih | ih
      ·left
       rw [← ih]
       show (if 4 * (j + k) < xs.length then _ else _) = _
       rw [if_neg (by rw [hX.out]; omega)]
       rfl
      ·omega
     ·exact .inr h21
   have h21 : opsN xs 21 = opsN xs j := by
    rcases hend (21 - j) with h | h
    ·rwa [show j + (21 - j) = 21 by omega] at h
    ·omega
   replace hend := Lib.hid hend
   replace h21 := Lib.hid h21
   replace hG := Lib.hid hG
   replace hlo := Lib.hid hlo
   obtain ⟨k4, hk4⟩ : ∃ k : Nat, 4 * j = k := ⟨_, rfl⟩
   have e4 : (4 : Int) * (j : Int) = (k4 : Int) := by omega
   have w4 : IntKind.i64.wrap (k4 : Int) = k4 := wrapS (by omega) (by omega)
   by_cases hlt1 : j < 21
   ·have t1 : decide ((j : Int) < 21) = true := decide_eq_true (by omega)
    have t2 : decide (j < 21) = true := decide_eq_true hlt1
    have t3 : decide ((k4 : Int) < (n : Int)) = false := decide_eq_false (by omega)
    have t4 : decide (k4 < n) = false := decide_eq_false (by omega)
    go_wp2_with fail
    go_ret
    exact ⟨_, L, rfl, hG.out, by rw [h21.out, hL], hbr⟩
   ·have t1 : decide ((j : Int) < 21) = false := decide_eq_false (by omega)
    have t2 : decide (j < 21) = false := decide_eq_false (by omega)
    go_wp2_with fail
    go_ret
    exact ⟨_, L, rfl, hG.out, by rw [h21.out, hL], hbr⟩
end Go.Proofs.YtkolilbebkkpdaaDoor

namespace Go.Proofs.YtkolilbebkkpdaaDoor
open Go.RowKit Go.Maps Go.BigFrame
attribute [local go_sem] in_gr

set_option maxRecDepth 100000 in
set_option maxHeartbeats 8000000 in
theorem made_any (w : World) (hA : Asks w) (base : Nat) (q : Option Addr) (L : List (OpI × Option Addr × Nat)) (d : Nat) (hG : OpsG w base (.slice q L.length d) L) (hgood : ∀ x ∈ L, x.1.Good) (hl : L.length ≤ 900) (all : Bool) :
  Calls Tryd.prog 21 #[.slice q L.length d, .bool all] w fun e w' => ∃ y, e = .returned (.pointer (some ⟨y.r, 0, none⟩)) ∧ SitW w.heap.size y.r w w' y (madeN (L.map Prod.fst) all L.length) := by
 have h0 : 0 < w.heap.size := cell_lt hA.a0
 go_enter Tryd.func21, Tryd.ntmps21
 go_wp2_with fail
 refine (Cards_any _).mono ?_
 rintro e w1 ⟨v, rfl, hown, hb1⟩
 obtain ⟨p1, c1, rfl, hc1, hRd, _⟩ := hown.u
 go_wp2_with fail
 refine (New_any _ p1 c1 hRd).mono ?_
 rintro e w2 ⟨y, rfl, hR2, hb2, hf2⟩
 have hB2 := hb1.trans (hb2.mono hb1.size)
 obtain ⟨r, hr⟩ : ∃ r, Hid (y.r = r) := ⟨_, Lib.hid rfl⟩
 have hS2 : SitW w.heap.size r w w2 y RS.new := ⟨hR2, hr.out, fun i hi => Nat.le_trans hb1.size (hf2 i hi), hB2, hA.below hB2, hB2.size⟩
 rw [hr.out]
 clear hown hRd hc1 hR2 hf2 hb1 hb2 hA hB2
 go_wp2_with fail
 go_loopw [6] (fun i wr => ∃ (j : Nat) (yk : Lay), j ≤ L.length ∧ i = .int .i64 j ∧ SitW w.heap.size r w wr yk (madeN (L.map Prod.fst) all j)) (fun i _ => L.length - (intOf i).toNat)
 case atStart => exact ⟨0, y, Nat.zero_le _, rfl, hS2⟩
 case round =>
  obtain ⟨j, yk, hj, rfl, hS⟩ := hrel
  by_cases hlt : j < L.length
  ·obtain ⟨q', d', hv, _, hRd, _, _, _⟩ := hG.own.u
   injection hv with hv1 _ hv2
   subst hv1; subst hv2
   obtain ⟨bq, oq, rfl, hbql, hcq⟩ := (hRd.below hS.below).op hlt
   obtain ⟨x, hx⟩ : ∃ x, Hid (L[j] = x) := ⟨_, Lib.hid rfl⟩
   have hxm : x ∈ L := hx.out ▸ List.getElem_mem hlt
   rw [hx.out] at hcq
   have hxg := hgood x hxm
   have hxu := (hG.gs x hxm).1.below hS.below
   have hxd : (L.map Prod.fst).getD j opZ = x.1 := by
    rw [List.getD_eq_getElem?_getD, List.getElem?_map, List.getElem?_eq_getElem hlt, hx.out]; rfl
   have hOk := madeN_ok (l := L.map Prod.fst) (by intro o ho; obtain ⟨z, hz, rfl⟩ := List.mem_map.1 ho; exact hgood z hz) all j (by rw [List.length_map]; exact hj)
   have hst : madeN (L.map Prod.fst) all (j + 1) = if all = true ∨ (madeN (L.map Prod.fst) all j).may x.1 = 0 then (madeN (L.map Prod.fst) all j).act x.1 (x.1.name j) else madeN (L.map Prod.fst) all j := by
    rw [← hxd]; rfl
   obtain ⟨s, hs⟩ : ∃ s, Hid (madeN (L.map Prod.fst) all j = s) := ⟨_, Lib.hid rfl⟩
   rw [hs.out] at hst hOk hS
   have hix1 : (0 : Int) ≤ (j : Int) := by omega
   have hix2 : (j : Int) < (L.length : Int) := by omega
   replace hcq := Lib.hid hcq
   replace hst := Lib.hid hst
   replace hOk := Lib.hid hOk
   replace hxu := Lib.hid hxu
   replace hxg := Lib.hid hxg
   replace hgood := Lib.hid hgood
   replace hG := Lib.hid hG
   replace hS := Lib.hid hS
   go_wp2_with (first | (refine wpL_loadO rfl _ rfl bq (oq + j * 27) rfl x.1 x.2.1 x.2.2 hcq.out ?_) | fail)
   refine (Name_any x.1 x.2.1 x.2.2 j _ hxg.out.ok.hk (by omega)).mono ?_
   rintro e w4 ⟨rfl, hb4⟩
   have hI5 : IdAt (w4.alloc (.cells #[.int .i64 x.1.b, .int .i64 ((j : Int) + 1), .int .u64 x.1.k] 34)) w4.heap.size (x.1.name j) := IdAt.made w4 (x.1.name j)
   have hb5 := Below.lit w4 (.cells #[.int .i64 x.1.b, .int .i64 ((j : Int) + 1), .int .u64 x.1.k] 34)
   obtain ⟨bi, hbi⟩ : ∃ bi, Hid (w4.heap.size = bi) := ⟨_, Lib.hid rfl⟩
   obtain ⟨w5, hw5, hI5⟩ := nameW (p := fun W => IdAt W w4.heap.size (x.1.name j)) hI5
   rw [hbi.out] at hI5
   rw [hw5.out] at hb5
   have hb45 := hb4.trans (hb5.mono hb4.size)
   have hS5 := hS.out.call hb45
   have hcq5 : ∀ T, (∃ z : GrIn w5, T = z.at_) → ∀ i u, (opC x.1 x.2.1 x.2.2)[i]? = some u → T.cell? ⟨bq, oq + j * 27 + i, none⟩ = some u := fun T ⟨z, hz⟩ i u hu => by
    rw [hz]
    have h1 := hcq.out i u hu
    have hc5 := (hb45.cell (p := ⟨bq, oq + j * 27 + i, none⟩) (cell_lt h1)).trans h1
    exact (z.gr.cell (p := ⟨bq, oq + j * 27 + i, none⟩) (cell_lt hc5)).trans hc5
   have hxu5 := hxu.out.below hb45
   replace hcq5 := Lib.hid hcq5
   replace hxu5 := Lib.hid hxu5
   replace hS5 := Lib.hid hS5
   clear hb5 hb45 hb4 hcq hS hxu
   go_upto_region 6 with (first | (rw [hw5.out]) | fail)
   rw [hbi.out]
   have hi0 : w5.cell? ⟨bi, 0, none⟩ = some (.int .i64 x.1.b) := by simp [World.cell?, show w5.heap[bi]? = _ from hI5]; rfl
   have hi1 : w5.cell? ⟨bi, 1, none⟩ = some (.int .i64 ((j : Int) + 1)) := by simp [World.cell?, show w5.heap[bi]? = _ from hI5]; rfl
   have hi2 : w5.cell? ⟨bi, 2, none⟩ = some (.int .u64 x.1.k) := by simp [World.cell?, show w5.heap[bi]? = _ from hI5]; rfl
   have hj0 := GrIn.cells hi0
   have hj1 := GrIn.cells hi1
   have hj2 := GrIn.cells hi2
   have hmv : ∃ mv, Hid (s.may x.1 = mv) := ⟨_, Lib.hid rfl⟩
   obtain ⟨mv, hmv⟩ := hmv
   go_cut [36] from 26 to 35 (fun v T => v = .bool (all || (mv == 0)) ∧ Below w5.heap.size w5 T)
   case first =>
    cases all with
    | true =>
     refine wp_region_gr (by kernel_rfl) (by kernel_rfl) ?_
     repeat go_big_quiet_step (fail)
     refine wpQuiet_nil ?_
     intro V2 hw10'
     obtain ⟨⟨_, hw_V2⟩, rfl⟩ := hw10'
     change Exit.then _ _ _ _ V2
     go_wp2_with fail
     go_meet
     exact ⟨rfl, hw_V2⟩
    | false =>
     refine wp_region_gr (by kernel_rfl) (by kernel_rfl) ?_
     repeat (first
      | (go_big_quiet_want; refine quiet_mid _ rfl rfl hcq5.out ?_; simp only [Act.put, List.setIfInBounds_toArray, List.set_cons_succ, List.set_cons_zero]; go_big_quiet_on)
      | go_big_quiet_step ((go_at_call 16; rename_i z; refine (May_w (hS5.out.call z.gr) x.1 x.2.1 x.2.2 (x.1.name j) j (by omega) hOk.out hxg.out.ok (hxu5.out.below z.gr)).mono ?_; rintro e w' ⟨rfl, hbz⟩; rw [hmv.out]; exact ⟨rfl, z.on hbz⟩)))
     refine wpQuiet_nil ?_
     intro V2 hw10'
     obtain ⟨⟨_, hw_V2⟩, rfl⟩ := hw10'
     change Exit.then _ _ _ _ V2
     go_wp2_with fail
     go_meet
     exact ⟨rfl, hw_V2⟩
   case rest =>
    obtain ⟨rfl, hbc⟩ := hcut
    have hSc := hS5.out.call hbc
    have hcqc : ∀ T, (∃ z : GrIn wc, T = z.at_) → ∀ i u, (opC x.1 x.2.1 x.2.2)[i]? = some u → T.cell? ⟨bq, oq + j * 27 + i, none⟩ = some u := fun T ⟨z, hz⟩ i u hu => by
     rw [hz]
     have h1 := hcq5.out w5 ⟨⟨w5, Below.refl _ _⟩, rfl⟩ i u hu
     have hc5 := (hbc.cell (p := ⟨bq, oq + j * 27 + i, none⟩) (cell_lt h1)).trans h1
     exact (z.gr.cell (p := ⟨bq, oq + j * 27 + i, none⟩) (cell_lt hc5)).trans hc5
    have hxuc := hxu5.out.below hbc
    have hc0 := (hbc.cell (p := ⟨bi, 0, none⟩) (cell_lt hi0)).trans hi0
    have hc1 := (hbc.cell (p := ⟨bi, 1, none⟩) (cell_lt hi1)).trans hi1
    have hc2 := (hbc.cell (p := ⟨bi, 2, none⟩) (cell_lt hi2)).trans hi2
    have hk0 := GrIn.cells hc0
    have hk1 := GrIn.cells hc1
    have hk2 := GrIn.cells hc2
    replace hcqc := Lib.hid hcqc
    replace hxuc := Lib.hid hxuc
    replace hSc := Lib.hid hSc
    clear hj0 hj1 hj2 hS5 hcq5 hxu5
    cases hdo : (all || (mv == 0)) with
    | true =>
     have hact : Hid (madeN (L.map Prod.fst) all (j + 1) = s.act x.1 (x.1.name j)) := Lib.hid (by
      rw [hst.out, hmv.out, if_pos]
      rw [Bool.or_eq_true, beq_iff_eq] at hdo
      exact hdo)
     clear hdo
     go_wp2_with fail
     refine wp_region_gr_tail 6 (by kernel_rfl) (by kernel_rfl) ?_
     simp only [List.take_succ_cons, List.take_zero, List.drop_succ_cons, List.drop_zero]
     repeat (first
      | (go_big_quiet_want; refine quiet_mid _ rfl rfl hcqc.out ?_; simp only [Act.put, List.setIfInBounds_toArray, List.set_cons_succ, List.set_cons_zero]; go_big_quiet_on)
      | go_big_quiet_step (fail))
     refine wpQuiet_nil ?_
     rintro T ⟨z, rfl⟩
     have hSz := hSc.out.call z.gr
     have hxz := hxuc.out.below z.gr
     go_wp2_with fail
     refine (Do_w hSz h0 x.1 x.2.1 x.2.2 (x.1.name j) j (by omega) hOk.out hxg.out.ok hxz (fun h9 => (hxg.out.gd h9).1)).mono ?_
     rintro e W2 ⟨rfl, y2, hS2', hz2, hk2'⟩
     rw [← hact.out] at hS2'
     go_wp2_with fail
     go_roundw
     case rel => exact ⟨j + 1, y2, by omega, by go_num, hS2'⟩
     case measure => simp [intOf]; omega
    | false =>
     have hact : Hid (madeN (L.map Prod.fst) all (j + 1) = s) := Lib.hid (by
      rw [hst.out, hmv.out, if_neg]
      rw [Bool.or_eq_false_iff, beq_eq_false_iff_ne] at hdo
      intro h
      rcases h with h | h
      ·rw [hdo.1] at h; cases h
      ·exact hdo.2 h)
     clear hdo
     go_wp2_with fail
     go_roundw
     case rel => exact ⟨j + 1, yk, by omega, by go_num, by rw [hact.out]; exact hSc.out⟩
     case measure => simp [intOf]; omega
  ·have hjm : j = L.length := by omega
   go_wp2_with fail
   go_ret
   exact ⟨yk, by rw [hS.hr]; rfl, by rw [hS.hr, ← hjm]; exact hS⟩
end Go.Proofs.YtkolilbebkkpdaaDoor

namespace Go.Proofs.YtkolilbebkkpdaaDoor
open Go.RowKit Go.Maps

theorem UI.keeps {w w' : World} {y y' : Lay} {p : Option Addr} {n : Nat} {xs : List Int} (h : UI w p n xs) (hk : Keeps w w' y y') (ho : ∀ a, p = some a → a.block ∉ y.foot) : UI w' p n xs := by
 refine ⟨h.len, ?_, h.bd⟩
 rcases h.rd with h1 | ⟨b, off, hp, hc⟩
 ·exact .inl h1
 ·cases hx : xs.map (Value.int .i64) with
  | nil => exact .inl rfl
  | cons v vs =>
   rw [hx] at hc
   have h0 := hc 0 (by simp)
   have hlt : b < w.heap.size := cell_lt (a := ⟨b, off + 0, none⟩) (v := v) (by rw [h0]; rfl)
   refine .inr ⟨b, off, hp, fun i hi => ?_⟩
   rw [← hc i hi]
   have := (hk b hlt (ho _ hp)).1
   unfold World.cell?
   simp only [this]
theorem Keeps.refl (W : World) (y : Lay) : Keeps W W y y := fun _ _ h => ⟨rfl, h⟩
theorem Keeps.trans {W V U : World} {x y z : Lay} (h : Keeps W V x y) (k : Keeps V U y z) (hz : W.heap.size ≤ V.heap.size) : Keeps W U x z := fun i hi hn => by
 obtain ⟨h1, h2⟩ := h i hi hn
 obtain ⟨h3, h4⟩ := k i (Nat.lt_of_lt_of_le hi hz) h2
 exact ⟨h3.trans h1, h4⟩
theorem Keeps.below {W V : World} (h : Below W.heap.size W V) (y : Lay) : Keeps W V y y := fun i hi hn => ⟨h.block i hi, hn⟩
theorem RdE.keeps {α : Type} {E : El α} {w w' : World} {y y' : Lay} {p : Option Addr} {l : List α} (h : RdE E w p l) (hk : Keeps w w' y y') (hz : w.heap.size ≤ w'.heap.size) (ho : ∀ a, p = some a → a.block ∉ y.foot) : RdE E w' p l :=
 h.same hz fun a ha hlt => (hk a.block hlt (ho a ha)).1
theorem RollAt.keeps {w w' : World} {y y' y2 : Lay} {s : RS} (h : RollAt w y2 s) (hk : Keeps w w' y y') (hz : w.heap.size ≤ w'.heap.size) (ho : ∀ i ∈ y2.foot, i ∉ y.foot) : RollAt w' y2 s :=
 h.keep hz fun i hi => (hk i (h.lt i hi) (ho i hi)).1
end Go.Proofs.YtkolilbebkkpdaaDoor

