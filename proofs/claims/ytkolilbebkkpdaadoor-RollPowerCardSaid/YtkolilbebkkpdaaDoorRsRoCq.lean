/-
  A roll's copy: the walk.
-/
import Derived.Test.YtkolilbebkkpdaaDoorRsRoCo
namespace Go.Proofs.YtkolilbebkkpdaaDoor
open Go.RowKit Go.Maps Go.BigFrame
attribute [local go_sem] in_gr

theorem mapV_nil {W : World} {b : Nat} (h : W.heap[b]? = some (.map #[] 0)) : MapV KI W b ([] : List (Int × Value)) := by
  obtain ⟨es, ck, h1, h2⟩ := MapV.same (MapV.made (K := KI) W)
  rw [World.alloc_heap_new] at h1
  injection h1 with h1
  injection h1 with h1 h3
  subst h1; subst h3
  exact h2 W b h
/-- What is made ahead of the members. -/
structure CB (w W : World) (s : RS) (r c i k m : Nat) : Prop where
  blk : W.heap[r]? = some (.cells (rollCells ⟨r, c, i, k, m, []⟩ s.bk) 81 (0, 0))
  hc : MapV KI W c cardsL
  hi : MapV KI W i (setV s.ins)
  hk : MapV KI W k (setV (s.ins ++ s.gone))
  hm : MapV KI W m ([] : List (Int × Value))
  hb : Below w.heap.size w W
  low : w.heap.size ≤ r ∧ w.heap.size ≤ c ∧ w.heap.size ≤ i ∧ w.heap.size ≤ k ∧ w.heap.size ≤ m
  nd : [r, c, i, k, m].Nodup
set_option maxRecDepth 100000 in
set_option maxHeartbeats 8000000 in
theorem Copy_any (w : World) (y : Lay) (s : RS) (kk : Nat) (hR : RollAt w y s) (hs : s.Ok kk) :
    Calls Tryd.prog 32 #[.pointer (some ⟨y.r, 0, none⟩)] w fun e w' => ∃ y', e = .returned (.pointer (some ⟨y'.r, 0, none⟩)) ∧ RollAt w' y' s ∧ (∀ i ∈ y'.foot, w.heap.size ≤ i) ∧ Below w.heap.size w w' := by
  obtain ⟨es0, ck0, hg0, hs0⟩ := hR.cards.same
  obtain ⟨es1, ck1, hg1, hs1⟩ := hR.ins.same
  obtain ⟨es2, ck2, hg2, hs2⟩ := hR.was.same
  have hy0 := hR.cards.lt
  have hy1 := hR.ins.lt
  have hy2 := hR.was.lt
  have k0 := hR.c0
  have k1 := hR.c1
  have k2 := hR.c2
  have k4 := hR.c4
  go_enter Tryd.func32, Tryd.ntmps32
  go_upto_region 1 with fail
  go_cut [3] from 8 to 29 (fun v T => ∃ r c i k m : Nat, v = .pointer (some ⟨r, 0, none⟩) ∧ CB w T s r c i k m)
  case first =>
    obtain ⟨wd, hwd⟩ : ∃ wd, Hid (w.drew = wd) := ⟨_, Lib.hid rfl⟩
    have hw0 : Below w.heap.size w wd := by rw [← hwd.out]; exact (Below.refl _ _).drew
    have hzw : w.heap.size = wd.heap.size := by rw [← hwd.out]; rfl
    have hb0 : Below wd.heap.size wd wd := Below.refl _ _
    replace hg0 := (hw0.block _ hy0).trans hg0
    replace hg1 := (hw0.block _ hy1).trans hg1
    replace hg2 := (hw0.block _ hy2).trans hg2
    replace k0 := (hw0.cell (cell_lt k0)).trans k0
    replace k1 := (hw0.cell (cell_lt k1)).trans k1
    replace k2 := (hw0.cell (cell_lt k2)).trans k2
    replace k4 := (hw0.cell (cell_lt k4)).trans k4
    replace hy0 : y.c < wd.heap.size := by omega
    replace hy1 : y.i < wd.heap.size := by omega
    replace hy2 : y.w < wd.heap.size := by omega
    have hzl : w.heap.size ≤ wd.heap.size := by omega
    clear hzw
    refine wp_region_D (D := fun T => Below wd.heap.size wd T) (by kernel_rfl) ?_
    rw [hwd.out]
    change wpAnyD _ _ _ _ _ 23 _ _ _
    apply tkD 0 hb0 rfl (by kernel_rfl) (by kernel_rfl) (by kernel_rfl) (fun _ _ _ h => by first | exact h | exact absurd h.1 (fun h => by cases h)) (by kernel_rfl)
    · intro T hT
      have hT0 := (hT.cell (cell_lt k0)).trans k0
      have hT1 := (hT.cell (cell_lt k1)).trans k1
      have hT2 := (hT.cell (cell_lt k2)).trans k2
      have hT3 := (hT.cell (cell_lt k4)).trans k4
      go_simp
      try rfl
    try go_frame
    apply tkD 1 hb0 rfl (by kernel_rfl) (by kernel_rfl) (by kernel_rfl) (fun _ _ _ h => by first | exact h | exact absurd h.1 (fun h => by cases h)) (by kernel_rfl)
    · intro T hT
      have hT0 := (hT.cell (cell_lt k0)).trans k0
      have hT1 := (hT.cell (cell_lt k1)).trans k1
      have hT2 := (hT.cell (cell_lt k2)).trans k2
      have hT3 := (hT.cell (cell_lt k4)).trans k4
      go_simp
      try rfl
    try go_frame
    apply tkD 2 hb0 rfl (by kernel_rfl) (by kernel_rfl) (by kernel_rfl) (fun _ _ _ h => by first | exact h | exact absurd h.1 (fun h => by cases h)) (by kernel_rfl)
    · intro T hT
      have hT0 := (hT.cell (cell_lt k0)).trans k0
      have hT1 := (hT.cell (cell_lt k1)).trans k1
      have hT2 := (hT.cell (cell_lt k2)).trans k2
      have hT3 := (hT.cell (cell_lt k4)).trans k4
      go_simp
      try rfl
    try go_frame
    apply tkD 3 hb0 rfl (by kernel_rfl) (by kernel_rfl) (by kernel_rfl) (fun _ _ _ h => by first | exact h | exact absurd h.1 (fun h => by cases h)) (by kernel_rfl)
    · intro T hT
      have hT0 := (hT.cell (cell_lt k0)).trans k0
      have hT1 := (hT.cell (cell_lt k1)).trans k1
      have hT2 := (hT.cell (cell_lt k2)).trans k2
      have hT3 := (hT.cell (cell_lt k4)).trans k4
      go_simp
      try rfl
    try go_frame
    apply tkD 5 hb0 rfl (by kernel_rfl) (by kernel_rfl) (by kernel_rfl) (fun _ _ _ h => by first | exact h | exact absurd h.1 (fun h => by cases h)) (by kernel_rfl)
    · intro T hT
      have hT0 := (hT.cell (cell_lt k0)).trans k0
      have hT1 := (hT.cell (cell_lt k1)).trans k1
      have hT2 := (hT.cell (cell_lt k2)).trans k2
      have hT3 := (hT.cell (cell_lt k4)).trans k4
      go_simp
      try rfl
    try go_frame
    apply tkD 6 hb0 rfl (by kernel_rfl) (by kernel_rfl) (by kernel_rfl) (fun _ _ _ h => by first | exact h | exact absurd h.1 (fun h => by cases h)) (by kernel_rfl)
    · intro T hT
      have hT0 := (hT.cell (cell_lt k0)).trans k0
      have hT1 := (hT.cell (cell_lt k1)).trans k1
      have hT2 := (hT.cell (cell_lt k2)).trans k2
      have hT3 := (hT.cell (cell_lt k4)).trans k4
      go_simp
      try rfl
    try go_frame
    apply tkD 7 hb0 rfl (by kernel_rfl) (by kernel_rfl) (by kernel_rfl) (fun _ _ _ h => by first | exact h | exact absurd h.1 (fun h => by cases h)) (by kernel_rfl)
    · intro T hT
      have hT0 := (hT.cell (cell_lt k0)).trans k0
      have hT1 := (hT.cell (cell_lt k1)).trans k1
      have hT2 := (hT.cell (cell_lt k2)).trans k2
      have hT3 := (hT.cell (cell_lt k4)).trans k4
      go_simp
      try rfl
    try go_frame
    apply tkD 8 hb0 rfl (by kernel_rfl) (by kernel_rfl) (by kernel_rfl) (fun _ _ _ h => by first | exact h | exact absurd h.1 (fun h => by cases h)) (by kernel_rfl)
    · intro T hT
      have hT0 := (hT.cell (cell_lt k0)).trans k0
      have hT1 := (hT.cell (cell_lt k1)).trans k1
      have hT2 := (hT.cell (cell_lt k2)).trans k2
      have hT3 := (hT.cell (cell_lt k4)).trans k4
      go_simp
      try rfl
    try go_frame
    apply tkD 10 hb0 rfl (by kernel_rfl) (by kernel_rfl) (by kernel_rfl) (fun _ _ _ h => by first | exact h | exact absurd h.1 (fun h => by cases h)) (by kernel_rfl)
    · intro T hT
      have hT0 := (hT.cell (cell_lt k0)).trans k0
      have hT1 := (hT.cell (cell_lt k1)).trans k1
      have hT2 := (hT.cell (cell_lt k2)).trans k2
      have hT3 := (hT.cell (cell_lt k4)).trans k4
      go_simp
      try rfl
    try go_frame
    apply tkD 11 hb0 rfl (by kernel_rfl) (by kernel_rfl) (by kernel_rfl) (fun _ _ _ h => by first | exact h | exact absurd h.1 (fun h => by cases h)) (by kernel_rfl)
    · intro T hT
      have hT0 := (hT.cell (cell_lt k0)).trans k0
      have hT1 := (hT.cell (cell_lt k1)).trans k1
      have hT2 := (hT.cell (cell_lt k2)).trans k2
      have hT3 := (hT.cell (cell_lt k4)).trans k4
      go_simp
      try rfl
    try go_frame
    apply tkD 12 hb0 rfl (by kernel_rfl) (by kernel_rfl) (by kernel_rfl) (fun _ _ _ h => by first | exact h | exact absurd h.1 (fun h => by cases h)) (by kernel_rfl)
    · intro T hT
      have hT0 := (hT.cell (cell_lt k0)).trans k0
      have hT1 := (hT.cell (cell_lt k1)).trans k1
      have hT2 := (hT.cell (cell_lt k2)).trans k2
      have hT3 := (hT.cell (cell_lt k4)).trans k4
      go_simp
      try rfl
    try go_frame
    apply tkD 13 hb0 rfl (by kernel_rfl) (by kernel_rfl) (by kernel_rfl) (fun _ _ _ h => by first | exact h | exact absurd h.1 (fun h => by cases h)) (by kernel_rfl)
    · intro T hT
      have hT0 := (hT.cell (cell_lt k0)).trans k0
      have hT1 := (hT.cell (cell_lt k1)).trans k1
      have hT2 := (hT.cell (cell_lt k2)).trans k2
      have hT3 := (hT.cell (cell_lt k4)).trans k4
      go_simp
      try rfl
    try go_frame
    apply tkD 16 hb0 rfl (by kernel_rfl) (by kernel_rfl) (by kernel_rfl) (fun _ _ _ h => by first | exact h | exact absurd h.1 (fun h => by cases h)) (by kernel_rfl)
    · intro T hT
      have hT0 := (hT.cell (cell_lt k0)).trans k0
      have hT1 := (hT.cell (cell_lt k1)).trans k1
      have hT2 := (hT.cell (cell_lt k2)).trans k2
      have hT3 := (hT.cell (cell_lt k4)).trans k4
      go_simp
      try rfl
    try go_frame
    apply tkD 17 hb0 rfl (by kernel_rfl) (by kernel_rfl) (by kernel_rfl) (fun _ _ _ h => by first | exact h | exact absurd h.1 (fun h => by cases h)) (by kernel_rfl)
    · intro T hT
      have hT0 := (hT.cell (cell_lt k0)).trans k0
      have hT1 := (hT.cell (cell_lt k1)).trans k1
      have hT2 := (hT.cell (cell_lt k2)).trans k2
      have hT3 := (hT.cell (cell_lt k4)).trans k4
      go_simp
      try rfl
    try go_frame
    apply tkD 18 hb0 rfl (by kernel_rfl) (by kernel_rfl) (by kernel_rfl) (fun _ _ _ h => by first | exact h | exact absurd h.1 (fun h => by cases h)) (by kernel_rfl)
    · intro T hT
      have hT0 := (hT.cell (cell_lt k0)).trans k0
      have hT1 := (hT.cell (cell_lt k1)).trans k1
      have hT2 := (hT.cell (cell_lt k2)).trans k2
      have hT3 := (hT.cell (cell_lt k4)).trans k4
      go_simp
      try rfl
    try go_frame
    apply tkD 19 hb0 rfl (by kernel_rfl) (by kernel_rfl) (by kernel_rfl) (fun _ _ _ h => by first | exact h | exact absurd h.1 (fun h => by cases h)) (by kernel_rfl)
    · intro T hT
      have hT0 := (hT.cell (cell_lt k0)).trans k0
      have hT1 := (hT.cell (cell_lt k1)).trans k1
      have hT2 := (hT.cell (cell_lt k2)).trans k2
      have hT3 := (hT.cell (cell_lt k4)).trans k4
      go_simp
      try rfl
    try go_frame
    refine twoD 4 15 (by kernel_rfl) rfl rfl (by kernel_rfl) (by kernel_rfl) (fun K hK => ?_) (fun K hK => ?_)
    · go_simp
      refine (Clone_cards _ _ _ _ ((hb0.block _ hy0).trans hg0)).mono ?_
      rintro e T ⟨rfl, rfl⟩
      have hb1 : Below wd.heap.size wd (wd.alloc (.map es0 ck0)) := hb0.trans ((Below.lit _ _).mono hb0.size)
      refine hK _ _ ⟨hb1, ?_⟩
      clear hK K
      try go_frame
      refine twoD 9 15 (by kernel_rfl) rfl rfl (by kernel_rfl) (by kernel_rfl) (fun K hK => ?_) (fun K hK => ?_)
      · go_simp
        refine (Clone_bools _ _ _ _ ((hb1.block _ hy1).trans hg1)).mono ?_
        rintro e T ⟨rfl, rfl⟩
        have hb2 : Below wd.heap.size wd ((wd.alloc (.map es0 ck0)).alloc (.map es1 ck1)) := hb1.trans ((Below.lit _ _).mono hb1.size)
        refine hK _ _ ⟨hb2, ?_⟩
        clear hK K
        try go_frame
        refine twoD 14 15 (by kernel_rfl) rfl rfl (by kernel_rfl) (by kernel_rfl) (fun K hK => ?_) (fun K hK => ?_)
        · go_simp
          refine (Clone_bools _ _ _ _ ((hb2.block _ hy2).trans hg2)).mono ?_
          rintro e T ⟨rfl, rfl⟩
          have hb3 : Below wd.heap.size wd (((wd.alloc (.map es0 ck0)).alloc (.map es1 ck1)).alloc (.map es2 ck2)) := hb2.trans ((Below.lit _ _).mono hb2.size)
          refine hK _ _ ⟨hb3, ?_⟩
          clear hK K
          try go_frame
          refine oneD 15 (by kernel_rfl) rfl (by kernel_rfl) (fun K hK => ?_)
          go_simp
          have hb4 : Below wd.heap.size wd ((((wd.alloc (.map es0 ck0)).alloc (.map es1 ck1)).alloc (.map es2 ck2)).alloc (.map #[] 0)) := hb3.trans ((Below.lit _ _).mono hb3.size)
          refine hK _ _ ⟨hb4, ?_⟩
          clear hK K
          try go_frame
          apply tkD 20 hb4 rfl (by kernel_rfl) (by kernel_rfl) (by kernel_rfl) (fun _ _ _ h => by first | exact h | exact absurd h.1 (fun h => by cases h)) (by kernel_rfl)
          · intro T hT
            go_simp
            try rfl
          try go_frame
          refine oneD 21 (by kernel_rfl) rfl (by kernel_rfl) (fun K hK => ?_)
          go_simp
          have hb5 : Below wd.heap.size wd (((((wd.alloc (.map es0 ck0)).alloc (.map es1 ck1)).alloc (.map es2 ck2)).alloc (.map #[] 0)).alloc (.cells #[.map (some wd.heap.size), .map (some (wd.heap.size + 1)), .map (some (wd.heap.size + 2)), .map (some (wd.heap.size + 3)), .int .i64 s.bk] 81)) := hb4.trans ((Below.lit _ _).mono hb4.size)
          refine hK _ _ ⟨hb5, ?_⟩
          clear hK K
          try go_frame
          apply tkD 22 hb5 rfl (by kernel_rfl) (by kernel_rfl) (by kernel_rfl) (fun _ _ _ h => by first | exact h | exact absurd h.1 (fun h => by cases h)) (by kernel_rfl)
          · intro T hT
            go_simp
            try rfl
          try go_frame
          refine wpAnyD_done (by kernel_rfl) ?_ _
          go_wp2_with fail
          go_meet
          obtain ⟨z1, z2, z3, z4, z5, hbF, hzF⟩ := five_allocs wd (.map es0 ck0) (.map es1 ck1) (.map es2 ck2) (.map #[] 0) (.cells #[.map (some wd.heap.size), .map (some (wd.heap.size + 1)), .map (some (wd.heap.size + 2)), .map (some (wd.heap.size + 3)), .int .i64 s.bk] 81) _ rfl
          refine ⟨wd.heap.size + 4, wd.heap.size, wd.heap.size + 1, wd.heap.size + 2, wd.heap.size + 3, rfl, ⟨z5, hs0 _ _ z1, hs1 _ _ z2, hs2 _ _ z3, mapV_nil z4, hw0.trans (hbF.mono hw0.size), ⟨by omega, by omega, by omega, by omega, by omega⟩, by simp⟩⟩
        · go_simp
          have hb3 : Below wd.heap.size wd (((wd.alloc (.map es0 ck0)).alloc (.map es1 ck1)).alloc (.map #[] 0)) := hb2.trans ((Below.lit _ _).mono hb2.size)
          refine hK _ _ ⟨hb3, ?_⟩
          clear hK K
          try go_frame
          refine oneD 14 (by kernel_rfl) rfl (by kernel_rfl) (fun K hK => ?_)
          go_simp
          refine (Clone_bools _ _ _ _ ((hb3.block _ hy2).trans hg2)).mono ?_
          rintro e T ⟨rfl, rfl⟩
          have hb4 : Below wd.heap.size wd ((((wd.alloc (.map es0 ck0)).alloc (.map es1 ck1)).alloc (.map #[] 0)).alloc (.map es2 ck2)) := hb3.trans ((Below.lit _ _).mono hb3.size)
          refine hK _ _ ⟨hb4, ?_⟩
          clear hK K
          try go_frame
          apply tkD 20 hb4 rfl (by kernel_rfl) (by kernel_rfl) (by kernel_rfl) (fun _ _ _ h => by first | exact h | exact absurd h.1 (fun h => by cases h)) (by kernel_rfl)
          · intro T hT
            go_simp
            try rfl
          try go_frame
          refine oneD 21 (by kernel_rfl) rfl (by kernel_rfl) (fun K hK => ?_)
          go_simp
          have hb5 : Below wd.heap.size wd (((((wd.alloc (.map es0 ck0)).alloc (.map es1 ck1)).alloc (.map #[] 0)).alloc (.map es2 ck2)).alloc (.cells #[.map (some wd.heap.size), .map (some (wd.heap.size + 1)), .map (some (wd.heap.size + 3)), .map (some (wd.heap.size + 2)), .int .i64 s.bk] 81)) := hb4.trans ((Below.lit _ _).mono hb4.size)
          refine hK _ _ ⟨hb5, ?_⟩
          clear hK K
          try go_frame
          apply tkD 22 hb5 rfl (by kernel_rfl) (by kernel_rfl) (by kernel_rfl) (fun _ _ _ h => by first | exact h | exact absurd h.1 (fun h => by cases h)) (by kernel_rfl)
          · intro T hT
            go_simp
            try rfl
          try go_frame
          refine wpAnyD_done (by kernel_rfl) ?_ _
          go_wp2_with fail
          go_meet
          obtain ⟨z1, z2, z3, z4, z5, hbF, hzF⟩ := five_allocs wd (.map es0 ck0) (.map es1 ck1) (.map #[] 0) (.map es2 ck2) (.cells #[.map (some wd.heap.size), .map (some (wd.heap.size + 1)), .map (some (wd.heap.size + 3)), .map (some (wd.heap.size + 2)), .int .i64 s.bk] 81) _ rfl
          refine ⟨wd.heap.size + 4, wd.heap.size, wd.heap.size + 1, wd.heap.size + 3, wd.heap.size + 2, rfl, ⟨z5, hs0 _ _ z1, hs1 _ _ z2, hs2 _ _ z4, mapV_nil z3, hw0.trans (hbF.mono hw0.size), ⟨by omega, by omega, by omega, by omega, by omega⟩, by simp⟩⟩
      · go_simp
        have hb2 : Below wd.heap.size wd ((wd.alloc (.map es0 ck0)).alloc (.map #[] 0)) := hb1.trans ((Below.lit _ _).mono hb1.size)
        refine hK _ _ ⟨hb2, ?_⟩
        clear hK K
        try go_frame
        refine oneD 9 (by kernel_rfl) rfl (by kernel_rfl) (fun K hK => ?_)
        go_simp
        refine (Clone_bools _ _ _ _ ((hb2.block _ hy1).trans hg1)).mono ?_
        rintro e T ⟨rfl, rfl⟩
        have hb3 : Below wd.heap.size wd (((wd.alloc (.map es0 ck0)).alloc (.map #[] 0)).alloc (.map es1 ck1)) := hb2.trans ((Below.lit _ _).mono hb2.size)
        refine hK _ _ ⟨hb3, ?_⟩
        clear hK K
        try go_frame
        refine oneD 14 (by kernel_rfl) rfl (by kernel_rfl) (fun K hK => ?_)
        go_simp
        refine (Clone_bools _ _ _ _ ((hb3.block _ hy2).trans hg2)).mono ?_
        rintro e T ⟨rfl, rfl⟩
        have hb4 : Below wd.heap.size wd ((((wd.alloc (.map es0 ck0)).alloc (.map #[] 0)).alloc (.map es1 ck1)).alloc (.map es2 ck2)) := hb3.trans ((Below.lit _ _).mono hb3.size)
        refine hK _ _ ⟨hb4, ?_⟩
        clear hK K
        try go_frame
        apply tkD 20 hb4 rfl (by kernel_rfl) (by kernel_rfl) (by kernel_rfl) (fun _ _ _ h => by first | exact h | exact absurd h.1 (fun h => by cases h)) (by kernel_rfl)
        · intro T hT
          go_simp
          try rfl
        try go_frame
        refine oneD 21 (by kernel_rfl) rfl (by kernel_rfl) (fun K hK => ?_)
        go_simp
        have hb5 : Below wd.heap.size wd (((((wd.alloc (.map es0 ck0)).alloc (.map #[] 0)).alloc (.map es1 ck1)).alloc (.map es2 ck2)).alloc (.cells #[.map (some wd.heap.size), .map (some (wd.heap.size + 2)), .map (some (wd.heap.size + 3)), .map (some (wd.heap.size + 1)), .int .i64 s.bk] 81)) := hb4.trans ((Below.lit _ _).mono hb4.size)
        refine hK _ _ ⟨hb5, ?_⟩
        clear hK K
        try go_frame
        apply tkD 22 hb5 rfl (by kernel_rfl) (by kernel_rfl) (by kernel_rfl) (fun _ _ _ h => by first | exact h | exact absurd h.1 (fun h => by cases h)) (by kernel_rfl)
        · intro T hT
          go_simp
          try rfl
        try go_frame
        refine wpAnyD_done (by kernel_rfl) ?_ _
        go_wp2_with fail
        go_meet
        obtain ⟨z1, z2, z3, z4, z5, hbF, hzF⟩ := five_allocs wd (.map es0 ck0) (.map #[] 0) (.map es1 ck1) (.map es2 ck2) (.cells #[.map (some wd.heap.size), .map (some (wd.heap.size + 2)), .map (some (wd.heap.size + 3)), .map (some (wd.heap.size + 1)), .int .i64 s.bk] 81) _ rfl
        refine ⟨wd.heap.size + 4, wd.heap.size, wd.heap.size + 2, wd.heap.size + 3, wd.heap.size + 1, rfl, ⟨z5, hs0 _ _ z1, hs1 _ _ z3, hs2 _ _ z4, mapV_nil z2, hw0.trans (hbF.mono hw0.size), ⟨by omega, by omega, by omega, by omega, by omega⟩, by simp⟩⟩
    · go_simp
      have hb1 : Below wd.heap.size wd (wd.alloc (.map #[] 0)) := hb0.trans ((Below.lit _ _).mono hb0.size)
      refine hK _ _ ⟨hb1, ?_⟩
      clear hK K
      try go_frame
      refine oneD 4 (by kernel_rfl) rfl (by kernel_rfl) (fun K hK => ?_)
      go_simp
      refine (Clone_cards _ _ _ _ ((hb1.block _ hy0).trans hg0)).mono ?_
      rintro e T ⟨rfl, rfl⟩
      have hb2 : Below wd.heap.size wd ((wd.alloc (.map #[] 0)).alloc (.map es0 ck0)) := hb1.trans ((Below.lit _ _).mono hb1.size)
      refine hK _ _ ⟨hb2, ?_⟩
      clear hK K
      try go_frame
      refine oneD 9 (by kernel_rfl) rfl (by kernel_rfl) (fun K hK => ?_)
      go_simp
      refine (Clone_bools _ _ _ _ ((hb2.block _ hy1).trans hg1)).mono ?_
      rintro e T ⟨rfl, rfl⟩
      have hb3 : Below wd.heap.size wd (((wd.alloc (.map #[] 0)).alloc (.map es0 ck0)).alloc (.map es1 ck1)) := hb2.trans ((Below.lit _ _).mono hb2.size)
      refine hK _ _ ⟨hb3, ?_⟩
      clear hK K
      try go_frame
      refine oneD 14 (by kernel_rfl) rfl (by kernel_rfl) (fun K hK => ?_)
      go_simp
      refine (Clone_bools _ _ _ _ ((hb3.block _ hy2).trans hg2)).mono ?_
      rintro e T ⟨rfl, rfl⟩
      have hb4 : Below wd.heap.size wd ((((wd.alloc (.map #[] 0)).alloc (.map es0 ck0)).alloc (.map es1 ck1)).alloc (.map es2 ck2)) := hb3.trans ((Below.lit _ _).mono hb3.size)
      refine hK _ _ ⟨hb4, ?_⟩
      clear hK K
      try go_frame
      apply tkD 20 hb4 rfl (by kernel_rfl) (by kernel_rfl) (by kernel_rfl) (fun _ _ _ h => by first | exact h | exact absurd h.1 (fun h => by cases h)) (by kernel_rfl)
      · intro T hT
        go_simp
        try rfl
      try go_frame
      refine oneD 21 (by kernel_rfl) rfl (by kernel_rfl) (fun K hK => ?_)
      go_simp
      have hb5 : Below wd.heap.size wd (((((wd.alloc (.map #[] 0)).alloc (.map es0 ck0)).alloc (.map es1 ck1)).alloc (.map es2 ck2)).alloc (.cells #[.map (some (wd.heap.size + 1)), .map (some (wd.heap.size + 2)), .map (some (wd.heap.size + 3)), .map (some wd.heap.size), .int .i64 s.bk] 81)) := hb4.trans ((Below.lit _ _).mono hb4.size)
      refine hK _ _ ⟨hb5, ?_⟩
      clear hK K
      try go_frame
      apply tkD 22 hb5 rfl (by kernel_rfl) (by kernel_rfl) (by kernel_rfl) (fun _ _ _ h => by first | exact h | exact absurd h.1 (fun h => by cases h)) (by kernel_rfl)
      · intro T hT
        go_simp
        try rfl
      try go_frame
      refine wpAnyD_done (by kernel_rfl) ?_ _
      go_wp2_with fail
      go_meet
      obtain ⟨z1, z2, z3, z4, z5, hbF, hzF⟩ := five_allocs wd (.map #[] 0) (.map es0 ck0) (.map es1 ck1) (.map es2 ck2) (.cells #[.map (some (wd.heap.size + 1)), .map (some (wd.heap.size + 2)), .map (some (wd.heap.size + 3)), .map (some wd.heap.size), .int .i64 s.bk] 81) _ rfl
      refine ⟨wd.heap.size + 4, wd.heap.size + 1, wd.heap.size + 2, wd.heap.size + 3, wd.heap.size, rfl, ⟨z5, hs0 _ _ z2, hs1 _ _ z3, hs2 _ _ z4, mapV_nil z1, hw0.trans (hbF.mono hw0.size), ⟨by omega, by omega, by omega, by omega, by omega⟩, by simp⟩⟩
  case rest =>
    obtain ⟨r, c, i, k, m, rfl, hCB⟩ := hcut
    have hRc := hR.below hCB.hb
    have h3 := hRc.c3
    clear hg0 hg1 hg2 hs0 hs1 hs2 k0 k1 k2 k4 hy0 hy1 hy2
    have hlowm := hCB.low
    have hym := hR.ms.lt
    have hmn : m < wc.heap.size := hCB.hm.lt
    have hrn : r < wc.heap.size := blk_lt hCB.blk
    replace hlowm := Lib.hid hlowm
    replace hCB := Lib.hid hCB
    go_wp2_with (first
      | (at_range; refine wp_rng (K := KI) _ rfl _ 79 rfl 82 Tryd.underlying79 y.m (memV y.l) rfl hRc.ms ?_; intro w1 hrg1 hb1)
      | fail)
    go_frame
    have hz1 : wc.heap.size < w1.heap.size := hrg1.lt.2
    obtain ⟨rg, hrgn⟩ : ∃ rg, Hid (wc.heap.size = rg) := ⟨_, Lib.hid rfl⟩
    obtain ⟨B, hBn⟩ : ∃ B, Hid (w1.heap.size = B) := ⟨_, Lib.hid rfl⟩
    have hcp0 : CpAt w1 y m B [] [] := ⟨rfl, fun _ h => (by cases h), (hCB.out.hm).below hb1, fun _ h => (by cases h), fun _ h => (by cases h), List.nodup_nil⟩
    have hmB : m < B := by have := hBn.out; omega
    have hrB : rg < B := by have := hBn.out; have := hrgn.out; omega
    have hmr : m ≠ rg := by have := hrgn.out; omega
    have hymr : y.m ≠ m := by have := hlowm.out; omega
    rw [hrgn.out] at hrg1 ⊢
    replace hmB := Lib.hid hmB
    replace hrB := Lib.hid hrB
    replace hmr := Lib.hid hmr
    replace hymr := Lib.hid hymr
    have hC0 := Lib.hid (Chg.refl w1 m rg)
    clear h3 hRc hz1 hym hmn hrn
    go_loopw [4] (fun _ wr => ∃ pre l2, Rng KI wr y.m rg (memV y.l) pre ∧ CpAt wr y m B pre l2 ∧ Hid (Chg w1 wr m rg))
      (fun _ wr => wr.rangeLeft y.m rg)
    case atStart => exact ⟨[], [], hrg1, hcp0, hC0⟩
    case round =>
      obtain ⟨pre, l2, hrg, hcp, hC⟩ := hrel
      go_wp2_with (first
        | (at_next; refine wp_nxt (K := KI) _ rfl _ rfl y.m rg (memV y.l) pre rfl hrg ?_ ?_)
        | fail)
      · intro hperm
        go_wp2_with fail
        go_ret
        have hCBo := hCB.out
        obtain ⟨nr, nrest⟩ := List.nodup_cons.1 hCBo.nd
        obtain ⟨nc, nrest⟩ := List.nodup_cons.1 nrest
        obtain ⟨ni, nrest⟩ := List.nodup_cons.1 nrest
        obtain ⟨nk, _⟩ := List.nodup_cons.1 nrest
        simp only [List.mem_cons, List.not_mem_nil, or_false, not_or] at nr nc ni nk
        have hrl := blk_lt hCBo.blk
        have hcl := hCBo.hc.lt
        have hil := hCBo.hi.lt
        have hkl := hCBo.hk.lt
        have hml := hCBo.hm.lt
        have hrge := hrgn.out
        have hBe := hBn.out
        have hsz1 := hb1.size
        have hst : ∀ j, j < wc.heap.size → j ≠ m → wr.heap[j]? = wc.heap[j]? := fun j hj hjm => (hC.out.blk j (by omega) hjm (by omega)).trans (hb1.block j hj)
        obtain ⟨l3, hl3, hfar⟩ := hcp.done hR hperm (r := r) (c := c) (i := i) (k := k) ((hst r hrl nr.2.2.2).trans hCBo.blk) (hCBo.hc.keep (hst c hcl nc.2.2)) (hCBo.hi.keep (hst i hil ni.2)) (hCBo.hk.keep (hst k hkl nk)) ⟨by omega, by omega, by omega, by omega, by omega⟩ hCBo.nd
        have hlo := hlowm.out
        have hsz0 := hCBo.hb.size
        refine ⟨⟨r, c, i, k, m, l3⟩, rfl, hl3, fun j hj => ?_, (hCBo.hb.trans (hb1.mono hsz0)).trans (hC.out.below (by omega) (by omega) (by omega))⟩
        unfold Lay.foot at hj
        simp only [List.mem_cons] at hj
        rcases hj with rfl | rfl | rfl | rfl | rfl | hj
        · exact hlo.1
        · exact hlo.2.1
        · exact hlo.2.2.1
        · exact hlo.2.2.2.1
        · exact hlo.2.2.2.2
        · have := hfar j hj; omega
      · intro n v w2 hmem hnp hok hrg2 hlt hgr hen
        obtain ⟨x, hx, hxn, rfl⟩ := mem_memV hmem
        have hC2 : Chg wr w2 m rg := Chg.of_but2 (But.of_grown hgr) m
        have hC12 := hC.out.trans hC2
        have hbw2 : Below w.heap.size w w2 := by
          have h1 := hCB.out.hb.size
          have h2 := hb1.size
          have h3 := hlowm.out
          have h4 := hrgn.out
          exact (hCB.out.hb.trans (hb1.mono h1)).trans (hC12.below (by omega) (by omega) (by omega))
        have hM := (hR.below hbw2).mb x hx
        have q0 := hM.c0
        have q1 := hM.c1
        have qr : w2.cell? ⟨r, 3, none⟩ = some (.map (some m)) := by
          have h1 := blk_lt hCB.out.blk
          have h2 := hb1.size
          have h4 := hrgn.out
          obtain ⟨nr, _⟩ := List.nodup_cons.1 hCB.out.nd
          simp only [List.mem_cons, List.not_mem_nil, or_false, not_or] at nr
          have h5 : w2.heap[r]? = wc.heap[r]? := (hC12.blk r (by omega) nr.2.2.2 (by omega)).trans (hb1.block r h1)
          simp [World.cell?, h5, hCB.out.blk]; rfl
        have hlen : (memV l2).length ≤ 1000000 := by
          have h1 := hrg.perm_of
          have h2 := nodup_len pre _ h1.1 h1.2
          rw [keys_memV, List.length_map] at h2
          have h3 := congrArg List.length hR.eq
          rw [List.length_map] at h3
          have h4 := congrArg List.length hcp.keys
          rw [List.length_map] at h4
          have h5 := hs.fewM
          unfold memV
          rw [List.length_map]
          omega
        have hbr2 : Hid (B ≤ wr.heap.size) := Lib.hid (by rw [← hBn.out]; exact hC.out.size)
        replace hC12 := Lib.hid hC12
        replace hC2 := Lib.hid hC2
        replace hbw2 := Lib.hid hbw2
        cases hg : x.m.g with
        | none =>
          rw [hg] at q1
          replace q1 : w2.cell? ⟨x.a, 1, none⟩ = some (.pointer none) := q1
          replace hg := Lib.hid hg
          have hb3 := Below.lit w2 (.cells #[.int .i64 x.m.r, .pointer none] 87)
          have z3 := World.alloc_heap_new w2 (.cells #[.int .i64 x.m.r, .pointer none] 87)
          obtain ⟨w3, hw3, z3⟩ := nameW (p := fun W => W.heap[w2.heap.size]? = some (.cells #[.int .i64 x.m.r, .pointer none] 87 (0, 0))) z3
          rw [hw3.out] at hb3
          have q13 := (hb3.cell (cell_lt q1)).trans q1
          have qr3 := (hb3.cell (cell_lt qr)).trans qr
          have hM3 : MapV KI w3 m (memV l2) := by
            exact (hcp.map.keep ((But.of_grown hgr).blk _ hcp.map.lt hmr.out)).below hb3
          replace hb3 := Lib.hid hb3
          replace z3 := Lib.hid z3
          go_wp2_with (first
            | (rw [hw3.out])
            | (at_mapUpdate; refine wp_upd (K := KI) _ rfl _ _ _ 79 rfl 82 Tryd.underlying79 m (memV l2) hlen rfl hM3 n (.pointer (some ⟨w2.heap.size, 0, none⟩)) rfl rfl hok ?_; intro w6 hM6 hB6 hz6)
            | fail)
          have hwz := hcp.map.lt
          have hbr := hbr2.out
          have hC6 : Chg w2 w6 m rg := (Chg.of_below hb3.out m rg).trans (Chg.of_but1 hB6 rg)
          have hCr6 := hC2.out.trans hC6
          have hk6 : ∀ j, j < w2.heap.size → j ≠ m → w6.heap[j]? = w2.heap[j]? := fun j hj hjm => (hB6.blk j (Nat.lt_of_lt_of_le hj hb3.out.size) hjm).trans (hb3.out.block j hj)
          obtain ⟨hrg6, hleft⟩ := hrg2.keep (hk6 _ hrg2.lt.1 hymr.out) (hk6 _ hrg2.lt.2 (fun e => hmr.out e.symm))
          go_frame
          go_roundw
          case rel => exact ⟨pre ++ [n], l2 ++ [⟨n, ⟨x.m.r, none⟩, w2.heap.size, 0, 0, 0, 0⟩], hrg6, by
            have := hcp.step (z := ⟨n, ⟨x.m.r, none⟩, w2.heap.size, 0, 0, 0, 0⟩) hbr hmB.out hrB.out hCr6 hx hxn (by rw [← hg.out]) (hxn ▸ hnp) hM6 ⟨(hB6.blk _ (by rw [← hw3.out]; simp) (by show w2.heap.size ≠ m; have := hC2.out.size; have := hcp.map.lt; omega)).trans z3.out, fun d hd => by cases hd⟩ (by simp [MRec.foot, gfoot]) (by intro j hj; simp only [MRec.foot, gfoot, List.mem_singleton] at hj; rw [hj]; exact hC2.out.size)
            rwa [hxn] at this, Lib.hid (hC12.out.trans hC6)⟩
          case measure => rw [hleft]; exact hlt
        | some d =>
          rw [hg] at q1
          replace q1 : w2.cell? ⟨x.a, 1, none⟩ = some (.pointer (some ⟨x.g, 0, none⟩)) := q1
          have hD := hM.gd d hg
          have hgdok := hs.gd _ (hR.memS hx) d hg
          replace hg := Lib.hid hg
          have hb3 := Below.lit w2 (.cells #[.int .i64 x.m.r, .pointer (some ⟨x.g, 0, none⟩)] 87)
          have z3 := World.alloc_heap_new w2 (.cells #[.int .i64 x.m.r, .pointer (some ⟨x.g, 0, none⟩)] 87)
          have hz3 : (w2.alloc (.cells #[.int .i64 x.m.r, .pointer (some ⟨x.g, 0, none⟩)] 87)).heap.size = w2.heap.size + 1 := by simp
          obtain ⟨w3, hw3, z3, hz3⟩ := nameW (p := fun W => W.heap[w2.heap.size]? = some (.cells #[.int .i64 x.m.r, .pointer (some ⟨x.g, 0, none⟩)] 87 (0, 0)) ∧ W.heap.size = w2.heap.size + 1) ⟨z3, hz3⟩
          rw [hw3.out] at hb3
          have q13 := (hb3.cell (cell_lt q1)).trans q1
          have qr3 := (hb3.cell (cell_lt qr)).trans qr
          have hD3 : GdAt w3 x.g x.v x.e x.c d := hD.keep hb3.size (hb3.block _ (blk_lt hD.blk)) (hb3.block _ hD.vo.lt) (hb3.block _ hD.lt)
          have e0 := hD3.c0
          have e1 := hD3.c1
          have e2 := hD3.c2
          have e3 := hD3.c3
          have e4 := hD3.c4
          have e5 := hD3.c5
          have e6 := hD3.c6
          have e7 := hD3.c7
          have e8 := hD3.c8
          have hb4 := Below.lit w3 (.cells (gdCells x.v x.e x.c d) 90)
          have z4 := World.alloc_heap_new w3 (.cells (gdCells x.v x.e x.c d) 90)
          obtain ⟨g4, hg4n⟩ : ∃ g4, Hid (w3.heap.size = g4) := ⟨_, Lib.hid rfl⟩
          obtain ⟨a3, ha3n⟩ : ∃ a3, Hid (w2.heap.size = a3) := ⟨_, Lib.hid rfl⟩
          have hz4 : (w3.alloc (.cells (gdCells x.v x.e x.c d) 90)).heap.size = g4 + 1 := by rw [← hg4n.out]; simp
          obtain ⟨w4, hw4, hg4b, hz4⟩ := nameW (p := fun W => W.heap[w3.heap.size]? = some (.cells (gdCells x.v x.e x.c d) 90 (0, 0)) ∧ W.heap.size = g4 + 1) ⟨z4, hz4⟩
          rw [hw4.out] at hb4
          rw [hg4n.out] at hg4b
          rw [ha3n.out] at z3
          have hM4 : MapV KI w4 m (memV l2) := ((hcp.map.keep ((But.of_grown hgr).blk _ hcp.map.lt hmr.out)).below hb3).below hb4
          have hD4 : GdAt w4 x.g x.v x.e x.c d := hD3.keep hb4.size (hb4.block _ (blk_lt hD3.blk)) (hb4.block _ hD3.vo.lt) (hb4.block _ hD3.lt)
          have qr4 := (hb4.cell (cell_lt qr3)).trans qr3
          have hg34 : w3.heap.size = a3 + 1 := by rw [hz3, ha3n.out]
          have hg4a : g4 = a3 + 1 := by rw [← hg4n.out, hg34]
          have z34 : w4.heap[a3]? = some (.cells #[.int .i64 x.m.r, .pointer (some ⟨x.g, 0, none⟩)] 87 (0, 0)) := (hb4.block _ (by omega)).trans z3
          have ha1 : w4.cell? ⟨a3, 1, none⟩ = some (.pointer (some ⟨x.g, 0, none⟩)) := by simp [World.cell?, z34]
          have haf : w4.frozen? ⟨a3, 1, none⟩ = false := by simp [World.frozen?, z34]
          have f3 : w4.cell? ⟨g4, 3, none⟩ = some (.slice (some ⟨x.e, 0, none⟩) d.gs.length x.c) := by simp [World.cell?, hg4b, gdCells]
          have f6 : w4.cell? ⟨g4, 6, none⟩ = some (.map (some x.v)) := by simp [World.cell?, hg4b, gdCells]
          have ff3 : w4.frozen? ⟨g4, 3, none⟩ = false := by simp [World.frozen?, hg4b]
          have ff6 : w4.frozen? ⟨g4, 6, none⟩ = false := by simp [World.frozen?, hg4b]
          obtain ⟨es3, ck3, hgv, hsv⟩ := hD4.vo.same
          have hvl := hD4.vo.lt
          have hgs := hD4.gs
          have hlen2 : d.gs.length ≤ 1000000 := by have := hgdok.gl; omega
          have hpos : 0 < d.gs.length := List.length_pos_iff.2 hgdok.ne
          have hb34 : Below w2.heap.size w2 w4 := hb3.trans (hb4.mono hb3.size)
          replace hb3 := Lib.hid hb3
          replace hb4 := Lib.hid hb4
          replace hb34 := Lib.hid hb34
          replace z3 := Lib.hid z3
          replace z34 := Lib.hid z34
          replace hz3 := Lib.hid hz3
          replace hg34 := Lib.hid hg34
          replace hg4a := Lib.hid hg4a
          have hw4l : Hid (w3.alloc (.cells #[.int .i64 d.id.b, .int .i64 d.id.s, .int .u64 d.id.u, .slice (some ⟨x.e, 0, none⟩) d.gs.length x.c, .int .i64 d.n, .int .i64 d.t, .map (some x.v), .bool d.ob, .int .i64 d.la] 90) = w4) := hw4
          go_upto_region 8 with (first
            | (rw [hw3.out])
            | (rw [hw4l.out])
            | fail)
          rw [hg4n.out, ha3n.out]
          go_cut [7] from 54 to 61 (fun v T => v = .pointer (some ⟨g4, 0, none⟩) ∧ ∃ gb gcc mv : Nat, GdAt T g4 mv gb gcc d ∧ But w4 T g4 ∧ w4.heap.size ≤ gb ∧ w4.heap.size ≤ mv ∧ gb < mv)
          case first =>
            obtain ⟨wd, hwd⟩ : ∃ wd, Hid (w4.drew = wd) := ⟨_, Lib.hid rfl⟩
            have hbd : Below w4.heap.size w4 wd := by rw [← hwd.out]; exact (Below.refl _ _).drew
            have hzd : wd.heap.size = w4.heap.size := by rw [← hwd.out]; rfl
            replace f3 := (hbd.cell (cell_lt f3)).trans f3
            replace f6 := (hbd.cell (cell_lt f6)).trans f6
            replace ff3 : wd.frozen? ⟨g4, 3, none⟩ = false := by rw [← hwd.out]; exact ff3
            replace ff6 : wd.frozen? ⟨g4, 6, none⟩ = false := by rw [← hwd.out]; exact ff6
            replace hg4b := (hbd.block _ (blk_lt hg4b)).trans hg4b
            replace hgv := (hbd.block _ hvl).trans hgv
            replace hvl : x.v < wd.heap.size := by omega
            have hgsd := hgs.below hbd
            have hgw : g4 < wd.heap.size := cell_lt f3
            replace hzd := Lib.hid hzd
            refine wp_region_D (D := fun _ => True) (by kernel_rfl) ?_
            rw [hwd.out]
            change wpAnyD _ _ _ _ _ 10 _ _ _
            apply tkD 0 trivial rfl (by kernel_rfl) (by kernel_rfl) (by kernel_rfl) (fun _ _ _ h => by first | exact h | exact absurd h.1 (fun h => by cases h)) (by kernel_rfl)
            · intro T hT
              go_simp
              try rfl
            try go_frame
            apply tkD 3 trivial rfl (by kernel_rfl) (by kernel_rfl) (by kernel_rfl) (fun _ _ _ h => by first | exact h | exact absurd h.1 (fun h => by cases h)) (by kernel_rfl)
            · intro T hT
              go_simp
              try rfl
            try go_frame
            refine twoD 1 4 (by kernel_rfl) rfl rfl (by kernel_rfl) (by kernel_rfl) (fun K hK => ?_) (fun K hK => ?_)
            · go_simp
              refine hK _ _ ⟨trivial, ?_⟩
              clear hK K
              try go_frame
              refine twoD 2 4 (by kernel_rfl) rfl rfl (by kernel_rfl) (by kernel_rfl) (fun K hK => ?_) (fun K hK => ?_)
              · go_simp
                refine (Clone_pos _ _ d.gs x.c _ hgsd hlen2 hpos).mono ?_
                rintro e T ⟨gb, gcc, rfl, hgb1, hgb2, hgb3, hU5, hb5⟩
                refine hK _ _ ⟨trivial, ?_⟩
                clear hK K
                try go_frame
                have f6T := (hb5.cell (cell_lt f6)).trans f6
                refine oneD 4 (by kernel_rfl) rfl (by kernel_rfl) (fun K hK => ?_)
                go_simp
                refine hK _ _ ⟨trivial, ?_⟩
                clear hK K
                try go_frame
                refine oneD 5 (by kernel_rfl) rfl (by kernel_rfl) (fun K hK => ?_)
                go_simp
                refine (Clone_vouched T x.v es3 ck3 ((hb5.block _ hvl).trans hgv)).mono ?_
                rintro e T' ⟨rfl, rfl⟩
                refine hK _ _ ⟨trivial, ?_⟩
                clear hK K
                try go_frame
                have hb6 := Below.lit T (.map es3 ck3)
                have hb56 := hb5.trans (hb6.mono hb5.size)
                have n3 := (hb56.cell (cell_lt f3)).trans f3
                have n6 := (hb56.cell (cell_lt f6)).trans f6
                have nf3 := (hb56.frozen (cell_lt f3)).trans ff3
                have nf6 := (hb56.frozen (cell_lt f6)).trans ff6
                obtain ⟨w7, hw7⟩ : ∃ w7, Hid (T.alloc (.map es3 ck3) = w7) := ⟨_, Lib.hid rfl⟩
                have hz7 := World.alloc_heap_new T (.map es3 ck3)
                have hT7 : w7.heap.size = T.heap.size + 1 := by rw [← hw7.out]; simp
                rw [hw7.out] at hb6 hb56 n3 n6 nf3 nf6 hz7
                rw [hw7.out]
                have hB1 := But.of_grown (grown_cell w7 g4 3 (.slice (some ⟨gb, 0, none⟩) d.gs.length gcc))
                have hB2 := But.of_grown (grown_cell (w7.setCell ⟨g4, 3, none⟩ (.slice (some ⟨gb, 0, none⟩) d.gs.length gcc)) g4 6 (.map (some T.heap.size)))
                have hblk := setCell_blk (setCell_blk ((hb56.block _ (cell_lt f3)).trans hg4b) 3 (.slice (some ⟨gb, 0, none⟩) d.gs.length gcc)) 6 (.map (some T.heap.size))
                replace hT7 := Lib.hid hT7
                apply tkD 6 trivial rfl (by kernel_rfl) (by kernel_rfl) (by kernel_rfl) (fun _ _ _ h => by first | exact h | exact absurd h.1 (fun h => by cases h)) (by kernel_rfl)
                · intro T hT
                  go_simp
                  try rfl
                try go_frame
                refine oneD 7 (by kernel_rfl) rfl (by kernel_rfl) (fun K hK => ?_)
                go_simp
                refine hK _ _ ⟨trivial, ?_⟩
                clear hK K
                try go_frame
                apply tkD 8 trivial rfl (by kernel_rfl) (by kernel_rfl) (by kernel_rfl) (fun _ _ _ h => by first | exact h | exact absurd h.1 (fun h => by cases h)) (by kernel_rfl)
                · intro T hT
                  go_simp
                  try rfl
                try go_frame
                refine oneD 9 (by kernel_rfl) rfl (by kernel_rfl) (fun K hK => ?_)
                go_simp
                refine hK _ _ ⟨trivial, ?_⟩
                clear hK K
                try go_frame
                refine wpAnyD_done (by kernel_rfl) ?_ _
                go_wp2_with fail
                go_meet
                have hTs := hb5.size
                have hT7 := hT7.out
                have hg4 := cell_lt f3
                refine ⟨rfl, gb, gcc, T.heap.size, ⟨hblk, (hU5.below hb6).block (((hB1.trans hB2).blk _ (by omega) (by omega))), Nat.lt_of_lt_of_le (by omega) (hB1.trans hB2).size, hgb3, hsv _ _ (((hB1.trans hB2).blk _ (by omega) (by omega)).trans hz7)⟩, ?_, Nat.le_trans hbd.size hgb1, by have := hbd.size; omega, by omega⟩
                exact (But.of_below hbd g4).trans ((But.of_below hb56 g4).trans (hB1.trans hB2))
              · go_simp
                refine hK _ _ ⟨trivial, ?_⟩
                clear hK K
                try go_frame
                refine oneD 2 (by kernel_rfl) rfl (by kernel_rfl) (fun K hK => ?_)
                go_simp
                refine (Clone_pos _ _ d.gs x.c _ hgsd hlen2 hpos).mono ?_
                rintro e T ⟨gb, gcc, rfl, hgb1, hgb2, hgb3, hU5, hb5⟩
                refine hK _ _ ⟨trivial, ?_⟩
                clear hK K
                try go_frame
                refine oneD 5 (by kernel_rfl) rfl (by kernel_rfl) (fun K hK => ?_)
                go_simp
                refine (Clone_vouched T x.v es3 ck3 ((hb5.block _ hvl).trans hgv)).mono ?_
                rintro e T' ⟨rfl, rfl⟩
                refine hK _ _ ⟨trivial, ?_⟩
                clear hK K
                try go_frame
                have hb6 := Below.lit T (.map es3 ck3)
                have hb56 := hb5.trans (hb6.mono hb5.size)
                have n3 := (hb56.cell (cell_lt f3)).trans f3
                have n6 := (hb56.cell (cell_lt f6)).trans f6
                have nf3 := (hb56.frozen (cell_lt f3)).trans ff3
                have nf6 := (hb56.frozen (cell_lt f6)).trans ff6
                obtain ⟨w7, hw7⟩ : ∃ w7, Hid (T.alloc (.map es3 ck3) = w7) := ⟨_, Lib.hid rfl⟩
                have hz7 := World.alloc_heap_new T (.map es3 ck3)
                have hT7 : w7.heap.size = T.heap.size + 1 := by rw [← hw7.out]; simp
                rw [hw7.out] at hb6 hb56 n3 n6 nf3 nf6 hz7
                rw [hw7.out]
                have hB1 := But.of_grown (grown_cell w7 g4 3 (.slice (some ⟨gb, 0, none⟩) d.gs.length gcc))
                have hB2 := But.of_grown (grown_cell (w7.setCell ⟨g4, 3, none⟩ (.slice (some ⟨gb, 0, none⟩) d.gs.length gcc)) g4 6 (.map (some T.heap.size)))
                have hblk := setCell_blk (setCell_blk ((hb56.block _ (cell_lt f3)).trans hg4b) 3 (.slice (some ⟨gb, 0, none⟩) d.gs.length gcc)) 6 (.map (some T.heap.size))
                replace hT7 := Lib.hid hT7
                apply tkD 6 trivial rfl (by kernel_rfl) (by kernel_rfl) (by kernel_rfl) (fun _ _ _ h => by first | exact h | exact absurd h.1 (fun h => by cases h)) (by kernel_rfl)
                · intro T hT
                  go_simp
                  try rfl
                try go_frame
                refine oneD 7 (by kernel_rfl) rfl (by kernel_rfl) (fun K hK => ?_)
                go_simp
                refine hK _ _ ⟨trivial, ?_⟩
                clear hK K
                try go_frame
                apply tkD 8 trivial rfl (by kernel_rfl) (by kernel_rfl) (by kernel_rfl) (fun _ _ _ h => by first | exact h | exact absurd h.1 (fun h => by cases h)) (by kernel_rfl)
                · intro T hT
                  go_simp
                  try rfl
                try go_frame
                refine oneD 9 (by kernel_rfl) rfl (by kernel_rfl) (fun K hK => ?_)
                go_simp
                refine hK _ _ ⟨trivial, ?_⟩
                clear hK K
                try go_frame
                refine wpAnyD_done (by kernel_rfl) ?_ _
                go_wp2_with fail
                go_meet
                have hTs := hb5.size
                have hT7 := hT7.out
                have hg4 := cell_lt f3
                refine ⟨rfl, gb, gcc, T.heap.size, ⟨hblk, (hU5.below hb6).block (((hB1.trans hB2).blk _ (by omega) (by omega))), Nat.lt_of_lt_of_le (by omega) (hB1.trans hB2).size, hgb3, hsv _ _ (((hB1.trans hB2).blk _ (by omega) (by omega)).trans hz7)⟩, ?_, Nat.le_trans hbd.size hgb1, by have := hbd.size; omega, by omega⟩
                exact (But.of_below hbd g4).trans ((But.of_below hb56 g4).trans (hB1.trans hB2))
            · go_simp
              refine hK _ _ ⟨trivial, ?_⟩
              clear hK K
              try go_frame
              refine oneD 1 (by kernel_rfl) rfl (by kernel_rfl) (fun K hK => ?_)
              go_simp
              refine hK _ _ ⟨trivial, ?_⟩
              clear hK K
              try go_frame
              refine oneD 2 (by kernel_rfl) rfl (by kernel_rfl) (fun K hK => ?_)
              go_simp
              refine (Clone_pos _ _ d.gs x.c _ hgsd hlen2 hpos).mono ?_
              rintro e T ⟨gb, gcc, rfl, hgb1, hgb2, hgb3, hU5, hb5⟩
              refine hK _ _ ⟨trivial, ?_⟩
              clear hK K
              try go_frame
              refine oneD 5 (by kernel_rfl) rfl (by kernel_rfl) (fun K hK => ?_)
              go_simp
              refine (Clone_vouched T x.v es3 ck3 ((hb5.block _ hvl).trans hgv)).mono ?_
              rintro e T' ⟨rfl, rfl⟩
              refine hK _ _ ⟨trivial, ?_⟩
              clear hK K
              try go_frame
              have hb6 := Below.lit T (.map es3 ck3)
              have hb56 := hb5.trans (hb6.mono hb5.size)
              have n3 := (hb56.cell (cell_lt f3)).trans f3
              have n6 := (hb56.cell (cell_lt f6)).trans f6
              have nf3 := (hb56.frozen (cell_lt f3)).trans ff3
              have nf6 := (hb56.frozen (cell_lt f6)).trans ff6
              obtain ⟨w7, hw7⟩ : ∃ w7, Hid (T.alloc (.map es3 ck3) = w7) := ⟨_, Lib.hid rfl⟩
              have hz7 := World.alloc_heap_new T (.map es3 ck3)
              have hT7 : w7.heap.size = T.heap.size + 1 := by rw [← hw7.out]; simp
              rw [hw7.out] at hb6 hb56 n3 n6 nf3 nf6 hz7
              rw [hw7.out]
              have hB1 := But.of_grown (grown_cell w7 g4 3 (.slice (some ⟨gb, 0, none⟩) d.gs.length gcc))
              have hB2 := But.of_grown (grown_cell (w7.setCell ⟨g4, 3, none⟩ (.slice (some ⟨gb, 0, none⟩) d.gs.length gcc)) g4 6 (.map (some T.heap.size)))
              have hblk := setCell_blk (setCell_blk ((hb56.block _ (cell_lt f3)).trans hg4b) 3 (.slice (some ⟨gb, 0, none⟩) d.gs.length gcc)) 6 (.map (some T.heap.size))
              replace hT7 := Lib.hid hT7
              apply tkD 6 trivial rfl (by kernel_rfl) (by kernel_rfl) (by kernel_rfl) (fun _ _ _ h => by first | exact h | exact absurd h.1 (fun h => by cases h)) (by kernel_rfl)
              · intro T hT
                go_simp
                try rfl
              try go_frame
              refine oneD 7 (by kernel_rfl) rfl (by kernel_rfl) (fun K hK => ?_)
              go_simp
              refine hK _ _ ⟨trivial, ?_⟩
              clear hK K
              try go_frame
              apply tkD 8 trivial rfl (by kernel_rfl) (by kernel_rfl) (by kernel_rfl) (fun _ _ _ h => by first | exact h | exact absurd h.1 (fun h => by cases h)) (by kernel_rfl)
              · intro T hT
                go_simp
                try rfl
              try go_frame
              refine oneD 9 (by kernel_rfl) rfl (by kernel_rfl) (fun K hK => ?_)
              go_simp
              refine hK _ _ ⟨trivial, ?_⟩
              clear hK K
              try go_frame
              refine wpAnyD_done (by kernel_rfl) ?_ _
              go_wp2_with fail
              go_meet
              have hTs := hb5.size
              have hT7 := hT7.out
              have hg4 := cell_lt f3
              refine ⟨rfl, gb, gcc, T.heap.size, ⟨hblk, (hU5.below hb6).block (((hB1.trans hB2).blk _ (by omega) (by omega))), Nat.lt_of_lt_of_le (by omega) (hB1.trans hB2).size, hgb3, hsv _ _ (((hB1.trans hB2).blk _ (by omega) (by omega)).trans hz7)⟩, ?_, Nat.le_trans hbd.size hgb1, by have := hbd.size; omega, by omega⟩
              exact (But.of_below hbd g4).trans ((But.of_below hb56 g4).trans (hB1.trans hB2))
          case rest =>
            obtain ⟨rfl, gb, gcc, mv, hG5, hB5, hgbl, hmvl, hgbm⟩ := hcut
            have hg34e := hg34.out
            have hg4e := hg4a.out
            have hg4w := blk_lt hg4b
            have hml4 : m < a3 := by
              have h1 := hcp.map.lt
              have h2 := hC2.out.size
              have h3 := ha3n.out
              omega
            have hrl4 : r < a3 := by
              have h3 := ha3n.out
              have h4 := cell_lt qr
              have h4 : r < w2.heap.size := h4
              omega
            have hrm : r ≠ m := by
              obtain ⟨nr, _⟩ := List.nodup_cons.1 hCB.out.nd
              simp only [List.mem_cons, List.not_mem_nil, or_false, not_or] at nr
              exact nr.2.2.2
            have hkeep : ∀ j, j < a3 → wc.heap[j]? = w4.heap[j]? := fun j hj => hB5.blk j (by omega) (by omega)
            have z5 := (hB5.blk a3 (by omega) (by omega)).trans z34.out
            have b1 : wc.cell? ⟨a3, 1, none⟩ = some (.pointer (some ⟨x.g, 0, none⟩)) := by simp [World.cell?, z5]
            have b2 : wc.frozen? ⟨a3, 1, none⟩ = false := by simp [World.frozen?, z5]
            have hB9 := But.of_grown (grown_cell wc a3 1 (.pointer (some ⟨g4, 0, none⟩)))
            have z9 := setCell_blk z5 1 (.pointer (some ⟨g4, 0, none⟩))
            obtain ⟨w9, hw9, z9⟩ := nameW (p := fun W => W.heap[a3]? = some (.cells #[.int .i64 x.m.r, .pointer (some ⟨g4, 0, none⟩)] 87 (0, 0))) z9
            rw [hw9.out] at hB9
            have hM9 : MapV KI w9 m (memV l2) := (hM4.keep (hkeep m hml4)).keep (hB9.blk m (by have := hB5.size; omega) (by omega))
            have qr9 : w9.cell? ⟨r, 3, none⟩ = some (.map (some m)) := by
              have h1 : w9.heap[r]? = w4.heap[r]? := (hB9.blk r (by have := hB5.size; omega) (by omega)).trans (hkeep r hrl4)
              rw [← qr4]
              simp [World.cell?, h1]
            replace hkeep := Lib.hid hkeep
            replace z9 := Lib.hid z9
            replace hB9 := Lib.hid hB9
            replace hB5 := Lib.hid hB5
            replace hG5 := Lib.hid hG5
            replace hrm := Lib.hid hrm
            replace hml4 := Lib.hid hml4
            replace hrl4 := Lib.hid hrl4
            replace hg34e := Lib.hid hg34e
            replace hg4e := Lib.hid hg4e
            replace hgbl := Lib.hid hgbl
            replace hmvl := Lib.hid hmvl
            replace hgbm := Lib.hid hgbm
            clear z5
            go_wp2_with (first
              | (rw [hw9.out])
              | (at_mapUpdate; refine wp_upd (K := KI) _ rfl _ _ _ 79 rfl 82 Tryd.underlying79 m (memV l2) hlen rfl hM9 n (.pointer (some ⟨a3, 0, none⟩)) rfl rfl hok ?_; intro w6 hM6 hB6 hz6)
              | fail)
            have hbr := hbr2.out
            have hgb' := hgbl.out
            have hmv' := hmvl.out
            have hgm' := hgbm.out
            have hga := hg4e.out
            have hm3 := hml4.out
            have ha3 := ha3n.out
            have hs5 := hB5.out.size
            have hs9 := hB9.out.size
            have hs34 := hb34.out.size
            have hk6 : ∀ j, j < w2.heap.size → j ≠ m → w6.heap[j]? = w2.heap[j]? := fun j hj hjm =>
              (hB6.blk j (by omega) hjm).trans ((hB9.out.blk j (by omega) (by omega)).trans ((hB5.out.blk j (by omega) (by omega)).trans (hb34.out.block j hj)))
            have hC6 : Chg w2 w6 m rg := ⟨hB6.os.trans (hB9.out.os.trans (hB5.out.os.trans hb34.out.os)), hB6.tape.trans (hB9.out.tape.trans (hB5.out.tape.trans hb34.out.tape)), hB6.out.trans (hB9.out.out.trans (hB5.out.out.trans hb34.out.output)), by omega, fun j hj hjm _ => hk6 j hj hjm⟩
            have hCr6 := hC2.out.trans hC6
            obtain ⟨hrg6, hleft⟩ := hrg2.keep (hk6 _ hrg2.lt.1 hymr.out) (hk6 _ hrg2.lt.2 (fun e => hmr.out e.symm))
            have hgl := hG5.out.lt
            have hvl5 := hG5.out.vo.lt
            have hgbk := blk_lt hG5.out.blk
            have hMb : MbAt w6 ⟨n, ⟨x.m.r, some d⟩, a3, g4, mv, gb, gcc⟩ := by
              refine ⟨(hB6.blk a3 (blk_lt z9.out) (by omega)).trans z9.out, fun d' hd' => ?_⟩
              have hd' : some d = some d' := hd'
              injection hd' with hd'
              subst hd'
              exact hG5.out.keep (by omega) ((hB6.blk _ (by omega) (by omega)).trans (hB9.out.blk _ (by omega) (by omega))) ((hB6.blk _ (by omega) (by omega)).trans (hB9.out.blk _ (by omega) (by omega))) ((hB6.blk _ (by omega) (by omega)).trans (hB9.out.blk _ (by omega) (by omega)))
            go_frame
            go_roundw
            case rel => exact ⟨pre ++ [n], l2 ++ [⟨n, ⟨x.m.r, some d⟩, a3, g4, mv, gb, gcc⟩], hrg6, by
              have := hcp.step (z := ⟨n, ⟨x.m.r, some d⟩, a3, g4, mv, gb, gcc⟩) hbr hmB.out hrB.out hCr6 hx hxn (by rw [← hg.out]) (hxn ▸ hnp) hM6 hMb (by simp [MRec.foot, gfoot]; omega) (by
                intro j hj
                have hc2s := hC2.out.size
                simp only [MRec.foot, gfoot, List.mem_cons, List.not_mem_nil, or_false] at hj
                omega)
              rwa [hxn] at this, Lib.hid (hC12.out.trans hC6)⟩
            case measure => rw [hleft]; exact hlt
end Go.Proofs.YtkolilbebkkpdaaDoor

