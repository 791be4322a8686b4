/-
  RollForms: the walk.
-/
import Derived.Test.YtkolilbebkkpdaaDoorRmH
import Derived.Test.YtkolilbebkkpdaaDoorRmG
import Derived.Test.YtkolilbebkkpdaaDoorRsRoRn
import Derived.Test.YtkolilbebkkpdaaDoorRsRoFp
namespace Go.Proofs.YtkolilbebkkpdaaDoor
open Go.RowKit Go.Maps Go.BigFrame
attribute [local go_sem] in_gr

theorem SitW.back {A B r : Nat} {z w0 W : World} {y : Lay} {s : RS} (h : SitW B r w0 W y s) (hb : Below A z w0) (hAB : A ≤ B) : SitW A r z W y s :=
  ⟨h.roll, h.hr, fun i hi => Nat.le_trans hAB (h.far i hi), hb.trans (h.below.mono hAB), h.asks, Nat.le_trans hAB h.hB⟩
theorem UI.keeps {w w' : World} {y y' : Lay} {p : Option Addr} {n : Nat} {xs : List Int} (h : UI w p n xs) (hk : Keeps w w' y y') (ho : ∀ a, p = some a → a.block ∉ y.foot) : UI w' p n xs := by
  refine ⟨h.len, ?_, h.bd⟩
  rcases h.rd with h1 | ⟨b, off, hp, hc⟩
  · exact .inl h1
  · cases hx : xs.map (Value.int .i64) with
    | nil => exact .inl rfl
    | cons v vs =>
      rw [hx] at hc
      have h0 := hc 0 (by simp)
      have hlt : b < w.heap.size := cell_lt (a := ⟨b, off + 0, none⟩) (v := v) (by rw [h0]; rfl)
      refine .inr ⟨b, off, hp, fun i hi => ?_⟩
      rw [← hc i hi]
      have := (hk b hlt (ho _ hp)).1
      unfold World.cell?
      simp only [this]
theorem Devices_w {B r : Nat} {w0 W : World} {y : Lay} {s : RS} (h : SitW B r w0 W y s) (k : Nat) (hs : s.Ok k) :
    Calls Tryd.prog 23 #[.pointer (some ⟨r, 0, none⟩)] W fun e w' => ∃ (p : Option Addr) (c : Nat), e = .returned (.slice p s.ins.length c) ∧ UI w' p s.ins.length (sortI s.ins) ∧ FarP W.heap.size p ∧ Below W.heap.size W w' := by
  have := Devices_any W y s k h.roll hs
  rwa [h.hr] at this
theorem opK_k (K b s a k1 k2 k3 : Int) (of : Idn) : (opK K b s a k1 k2 k3 of).k = K := by
  unfold opK
  repeat (first | rfl | split)
theorem opN_k (xs : List Int) (l : List OpI) : 1 ≤ (opN xs l).k ∧ (opN xs l).k ≤ 13 := by
  unfold opN
  rw [opK_k]
  rcases kindK_cases (kN xs 0) (kN_bd xs 0).1 with h | h | h | h | h | h | h | h | h | h | h | h | h <;> rw [h] <;> decide
set_option maxRecDepth 100000 in
set_option maxHeartbeats 8000000 in
theorem forms_any (w : World) (hA : Asks w) (hK : KindsAt w) (p : Option Addr) (n : Nat) (xs : List Int) (c : Nat) (hU : UI w p n xs) (hc : n ≤ c) (p' : Option Addr) (n' : Nat) (ks : List Int) (c' : Nat) (hU' : UI w p' n' ks) (_hc' : n' ≤ c') :
    Calls Tryd.prog 4 #[.slice p n c, .slice p' n' c'] w fun e w' => e = .returned (.bool true) ∧ Below w.heap.size w w' := by
  have h0 : 0 < w.heap.size := cell_lt hA.a0
  go_enter Tryd.func4, Tryd.ntmps4
  go_wp2_with fail
  refine (Ops_any w p n xs c hU hc).mono ?_
  rintro e w1 ⟨v, L, rfl, hG, hL, hb1⟩
  obtain ⟨q, d, rfl, hd, hRd, _, _, _⟩ := hG.own.u
  have hgood := opsN_good xs 21 (by omega)
  rw [← hL] at hgood
  have hgx : ∀ x ∈ L, x.1.Good := fun x hx => hgood x.1 (List.mem_map.2 ⟨x, hx, rfl⟩)
  have hLl : L.length ≤ 900 := by have := opsN_len xs 21; rw [← hL, List.length_map] at this; omega
  go_wp2_with fail
  refine (made_any w1 (hA.below hb1) w.heap.size q L d hG hgx hLl false).mono ?_
  rintro e w2 ⟨y, rfl, hS⟩
  obtain ⟨r, hr⟩ : ∃ r, Hid (y.r = r) := ⟨_, Lib.hid rfl⟩
  have hb12 := hS.below
  have hS2 : SitW w.heap.size r w w2 y (madeN (L.map Prod.fst) false L.length) := by
    have := hS.back hb1 hb1.size
    rw [hr.out] at this
    exact this
  rw [hr.out]
  have hG2 := hG.below hb12
  have hOk2 := madeN_ok (l := L.map Prod.fst) hgood false L.length (by rw [List.length_map]; exact Nat.le_refl _)
  obtain ⟨s, hs⟩ : ∃ s, Hid (madeN (L.map Prod.fst) false L.length = s) := ⟨_, Lib.hid rfl⟩
  rw [hs.out] at hS2 hOk2
  clear hS
  go_wp2_with fail
  refine (Op_any w2 p' n' ks c' ((hU'.below hb1).below hb12) q L d (hRd.below hb12) (by omega) (fun x hx => (hgx x hx).ok)).mono ?_
  rintro e w3 ⟨gp, gc, rfl, hug, hgf, hb3⟩
  have hog : (opN ks (L.map Prod.fst)).Good := opN_good ks (fun o ho => (hgood o ho).ok) (by rw [List.length_map]; omega)
  obtain ⟨o, ho⟩ : ∃ o, Hid (opN ks (L.map Prod.fst) = o) := ⟨_, Lib.hid rfl⟩
  rw [ho.out] at hug hog ⊢
  have hS3 := hS2.call hb3
  have hO4 := OpAt.made w3 o gp gc
  have hb4 := Below.lit w3 (.cells (opC o gp gc) 42)
  have hS4 := hS3.call hb4
  have hbo1 : w3.heap.size ∉ y.foot := hS3.high (Nat.le_refl _)
  have hug4 := hug.below hb4
  obtain ⟨bo, hbo⟩ : ∃ bo, Hid (w3.heap.size = bo) := ⟨_, Lib.hid rfl⟩
  obtain ⟨w4, hw4, hO4⟩ := nameW (p := fun W => OpAt W w3.heap.size o gp gc) hO4
  rw [hbo.out] at hO4 hbo1
  rw [hw4.out] at hS4 hug4
  replace hS4 := Lib.hid hS4
  replace hug4 := Lib.hid hug4
  replace hOk2 := Lib.hid hOk2
  replace hog := Lib.hid hog
  replace hgood := Lib.hid hgood
  replace hgx := Lib.hid hgx
  replace hS2 := Lib.hid hS2
  replace hG2 := Lib.hid hG2
  clear hb4 hb3 hS3 hG hRd hgf hug
  go_upto_region 6 with (first
    | (rw [hw4.out])
    | (refine wpL_alloc rfl rfl ?_; simp only [Act.put, List.setIfInBounds_toArray, List.set_cons_succ, List.set_cons_zero])
    | (refine wpL_store rfl _ _ rfl (n := o) (gp := gp) (gc := gc) (by first | rfl | (simp only [World.size_alloc]; rfl)) rfl ?_; try simp only [Act.put])
    | fail)
  rw [hbo.out]
  go_upto_region 7 with (first
    | (refine wpList_load_row rfl 42 _ rfl bo rfl 42 (opC o gp gc) (0, 0) _ hO4 Tryd.underlying42 rfl (by kernel_rfl) ?_)
    | fail)
  refine (Name_any o gp gc L.length _ hog.out.ok.hk (by omega)).mono ?_
  rintro e w5 ⟨rfl, hb5⟩
  have hS5 := hS4.out.call hb5
  have hO5 := hO4.below hb5 (cell_lt hO4.cb)
  have hug5 := hug4.out.below hb5
  have hI6 : IdAt (w5.alloc (.cells #[.int .i64 o.b, .int .i64 ((L.length : Int) + 1), .int .u64 o.k] 34)) w5.heap.size (o.name L.length) := IdAt.made w5 (o.name L.length)
  have hb6 := Below.lit w5 (.cells #[.int .i64 o.b, .int .i64 ((L.length : Int) + 1), .int .u64 o.k] 34)
  have hS6 := hS5.call hb6
  have hO6 := hO5.below hb6 (cell_lt hO5.cb)
  have hug6 := hug5.below hb6
  have hbi1 : w5.heap.size ∉ y.foot := hS5.high (Nat.le_refl _)
  obtain ⟨bi, hbi⟩ : ∃ bi, Hid (w5.heap.size = bi) := ⟨_, Lib.hid rfl⟩
  obtain ⟨w6, hw6, hI6⟩ := nameW (p := fun W => IdAt W w5.heap.size (o.name L.length)) hI6
  rw [hbi.out] at hI6 hbi1
  rw [hw6.out] at hS6 hO6 hug6
  replace hS6 := Lib.hid hS6
  replace hug6 := Lib.hid hug6
  clear hb5 hb6 hS5 hO5 hug5 hS4 hO4 hug4
  go_upto_region 7 with (first | (rw [hw6.out]) | fail)
  rw [hbi.out]
  go_wp2_with fail
  refine (Devices_w hS6.out L.length hOk2.out).mono ?_
  rintro e w7 ⟨pd, cd, rfl, hud, hfd, hb7⟩
  have hS7 := hS6.out.call hb7
  have hO7 := hO6.below hb7 (cell_lt hO6.cb)
  have hI7 := hI6.below hb7
  have hug7 := hug6.out.below hb7
  have hdo : ∀ a, pd = some a → a.block ∉ y.foot := fun a ha => hS6.out.high (hfd a ha)
  replace hS7 := Lib.hid hS7
  replace hug7 := Lib.hid hug7
  replace hdo := Lib.hid hdo
  clear hb7 hS6 hO6 hI6 hug6
  go_wp2_with (first
    | (refine wpList_load_row rfl 42 _ rfl bo rfl 42 (opC o gp gc) (0, 0) _ hO7 Tryd.underlying42 rfl (by kernel_rfl) ?_)
    | (refine wpList_load_row rfl 34 _ rfl bi rfl 34 #[.int .i64 (o.name L.length).b, .int .i64 (o.name L.length).s, .int .u64 (o.name L.length).u] (0, 0) _ hI7 Tryd.underlying34 rfl (by kernel_rfl) ?_)
    | fail)
  refine (May_w hS7.out o gp gc (o.name L.length) L.length (by omega) hOk2.out hog.out.ok hug7.out).mono ?_
  rintro e w8 ⟨rfl, hb8⟩
  obtain ⟨mv, hmv⟩ : ∃ mv, Hid (s.may o = mv) := ⟨_, Lib.hid rfl⟩
  rw [hmv.out]
  have hS8 := hS7.out.call hb8
  have hO8 := hO7.below hb8 (cell_lt hO7.cb)
  have hI8 := hI7.below hb8
  have hug8 := hug7.out.below hb8
  have hud8 := hud.below hb8
  replace hS8 := Lib.hid hS8
  replace hug8 := Lib.hid hug8
  replace hud8 := Lib.hid hud8
  clear hb8 hS7 hO7 hI7 hug7 hud
  go_wp2_with (first
    | (refine wpList_load_row rfl 42 _ rfl bo rfl 42 (opC o gp gc) (0, 0) _ hO8 Tryd.underlying42 rfl (by kernel_rfl) ?_)
    | (refine wpList_load_row rfl 34 _ rfl bi rfl 34 #[.int .i64 (o.name L.length).b, .int .i64 (o.name L.length).s, .int .u64 (o.name L.length).u] (0, 0) _ hI8 Tryd.underlying34 rfl (by kernel_rfl) ?_)
    | fail)
  refine (Do_w hS8.out h0 o gp gc (o.name L.length) L.length (by omega) hOk2.out hog.out.ok hug8.out (fun h9 => (hog.out.gd h9).1)).mono ?_
  rintro e w9 ⟨rfl, y9, hS9, hz9, hk9⟩
  have hOk9 : (s.act o (o.name L.length)).Ok (L.length + 1) := act_good hOk2.out hog.out
  have hO9 := hO8.keep hk9 hbo1
  have hud9 := hud8.out.keeps hk9 hdo.out
  obtain ⟨s9, hs9⟩ : ∃ s9, Hid (s.act o (o.name L.length) = s9) := ⟨_, Lib.hid rfl⟩
  rw [hs9.out] at hS9 hOk9
  have hf1 : s.ins.length ≤ 7 := by have := hOk2.out.few; rw [List.length_append] at this; omega
  have hf9 : s9.ins.length ≤ 7 := by have := hOk9.few; rw [List.length_append] at this; omega
  replace hS9 := Lib.hid hS9
  replace hud9 := Lib.hid hud9
  replace hOk9 := Lib.hid hOk9
  clear hS8 hO8 hI8 hug8 hud8 hk9 hz9
  go_wp2_with fail
  refine (Devices_w hS9.out (L.length + 1) hOk9.out).mono ?_
  rintro e w10 ⟨pe, ce, rfl, hue, _, hb10⟩
  have hS10 := hS9.out.call hb10
  have hO10 := hO9.below hb10 (cell_lt hO9.cb)
  have hud10 := hud9.out.below hb10
  go_wp2_with fail
  refine (SameInts_any pd pe s.ins.length s9.ins.length (sortI s.ins) (sortI s9.ins) cd ce _ hud10 hue (by omega) (by omega)).mono ?_
  rintro e w11 ⟨rfl, hb11⟩
  have hS11 := hS10.call hb11
  have hO11 := hO10.below hb11 (cell_lt hO10.cb)
  clear hO10 hud10 hue
  obtain ⟨ch, hch⟩ : ∃ ch, Hid (decide (sortI s.ins = sortI s9.ins) = ch) := ⟨_, Lib.hid rfl⟩
  rw [hch.out]
  have hcm : Hid (ch = false → commitI o.k = true) := Lib.hid (by
    intro h
    cases hk : commitI o.k with
    | true => rfl
    | false =>
      have h1 : s9.ins = s.ins := by rw [← hs9.out]; exact act_ins hk
      rw [← hch.out, h1] at h
      simp at h)
  have hkn := opN_k ks (L.map Prod.fst)
  rw [ho.out] at hkn
  obtain ⟨kk, hkk⟩ : ∃ kk : Nat, Hid (o.k = kk) := ⟨o.k.toNat, Lib.hid (by omega)⟩
  have hkk2 : Hid (1 ≤ kk ∧ kk ≤ 13) := Lib.hid (by have := hkk.out; omega)
  clear hkn
  have hc2 := hO11.ck
  rw [hkk.out] at hc2 hcm
  have hK11 : KindsAt w11 := hK.below hS11.below
  have hA11 : Asks w11 := hS11.asks
  have hcb := hO11.cb
  obtain ⟨ob, hob⟩ : ∃ ob, Hid (o.b = ob) := ⟨_, Lib.hid rfl⟩
  rw [hob.out] at hcb
  have hobd : Hid (0 ≤ ob ∧ ob ≤ 1000000) := Lib.hid (by rw [← hob.out]; exact hog.out.ok.hb)
  have hms : Hid (mv = 0 → kk = 6 → 2 ≤ s9.role (ofD ob)) := Lib.hid (by
    intro h1 h2
    have hk6 : o.k = 6 := by rw [hkk.out, h2]; rfl
    have h3 : s9 = s := by rw [← hs9.out]; exact act_message hk6
    rw [h3, ← hob.out]
    exact may_message hk6 (hmv.out.trans h1))
  clear hO11 hS10 hS9 hud9 hO9
  go_upto_region 11 with fail
  go_cut [46] from 40 to 45 (fun v T => v = .bool false ∧ Below w11.heap.size w11 T)
  case first =>
    cases ch with
    | true =>
      go_wp2_with fail
      go_meet
      exact ⟨rfl, Below.refl _ _⟩
    | false =>
      have hcm2 := hcm.out rfl
      go_wp2_with fail
      refine (Commit_any w11 hK11 kk hkk2.out).mono ?_
      rintro e T ⟨rfl, hbT⟩
      rw [hcm2]
      go_wp2_with fail
      go_meet
      exact ⟨rfl, hbT⟩
  case rest =>
    obtain ⟨rfl, hbc⟩ := hcut
    have hSc := hS11.call hbc
    have hAc := hA11.below hbc
    have hcbc := (hbc.cell (cell_lt hcb)).trans hcb
    have hc2c := (hbc.cell (cell_lt hc2)).trans hc2
    clear hS11 hA11 hcb hc2 hcm
    have hBf : ∀ T, Below wc.heap.size wc T → Below w.heap.size w T := fun T h => hSc.below.trans (h.mono hSc.hB)
    replace hBf := Lib.hid hBf
    replace hSc := Lib.hid hSc
    go_upto_region 13 with fail
    by_cases hm0 : mv = 0
    · by_cases hk6 : kk = 6
      · have hrole := hms.out hm0 hk6
        subst hm0
        subst hk6
        obtain ⟨rr, hrr⟩ : ∃ rr, Hid (s9.role (ofD ob) = rr) := ⟨_, Lib.hid rfl⟩
        rw [hrr.out] at hrole
        have hbz : Below wc.heap.size wc wc.drew := (Below.refl _ _).drew
        refine wp_region_D (D := fun T => Below wc.heap.size wc T) (by kernel_rfl) ?_
        change wpAnyD _ _ _ _ _ 21 _ _ _
        apply tkD 0 hbz rfl (by kernel_rfl) (by kernel_rfl) (by kernel_rfl) (fun _ _ _ h => by first | exact h | exact absurd h.1 (fun h => by cases h)) (by kernel_rfl)
        · intro T hT
          have hT0 := (hT.cell (cell_lt hcbc)).trans hcbc
          have hT1 := (hT.cell (cell_lt hc2c)).trans hc2c
          go_simp
          try rfl
        try go_frame
        apply tkD 1 hbz rfl (by kernel_rfl) (by kernel_rfl) (by kernel_rfl) (fun _ _ _ h => by first | exact h | exact absurd h.1 (fun h => by cases h)) (by kernel_rfl)
        · intro T hT
          have hT0 := (hT.cell (cell_lt hcbc)).trans hcbc
          have hT1 := (hT.cell (cell_lt hc2c)).trans hc2c
          go_simp
          try rfl
        try go_frame
        apply tkD 2 hbz rfl (by kernel_rfl) (by kernel_rfl) (by kernel_rfl) (fun _ _ _ h => by first | exact h | exact absurd h.1 (fun h => by cases h)) (by kernel_rfl)
        · intro T hT
          have hT0 := (hT.cell (cell_lt hcbc)).trans hcbc
          have hT1 := (hT.cell (cell_lt hc2c)).trans hc2c
          go_simp
          try rfl
        try go_frame
        apply tkD 3 hbz rfl (by kernel_rfl) (by kernel_rfl) (by kernel_rfl) (fun _ _ _ h => by first | exact h | exact absurd h.1 (fun h => by cases h)) (by kernel_rfl)
        · intro T hT
          have hT0 := (hT.cell (cell_lt hcbc)).trans hcbc
          have hT1 := (hT.cell (cell_lt hc2c)).trans hc2c
          go_simp
          try rfl
        try go_frame
        apply tkD 4 hbz rfl (by kernel_rfl) (by kernel_rfl) (by kernel_rfl) (fun _ _ _ h => by first | exact h | exact absurd h.1 (fun h => by cases h)) (by kernel_rfl)
        · intro T hT
          have hT0 := (hT.cell (cell_lt hcbc)).trans hcbc
          have hT1 := (hT.cell (cell_lt hc2c)).trans hc2c
          go_simp
          try rfl
        try go_frame
        apply tkD 5 hbz rfl (by kernel_rfl) (by kernel_rfl) (by kernel_rfl) (fun _ _ _ h => by first | exact h | exact absurd h.1 (fun h => by cases h)) (by kernel_rfl)
        · intro T hT
          have hT0 := (hT.cell (cell_lt hcbc)).trans hcbc
          have hT1 := (hT.cell (cell_lt hc2c)).trans hc2c
          go_simp
          try rfl
        try go_frame
        apply tkD 6 hbz rfl (by kernel_rfl) (by kernel_rfl) (by kernel_rfl) (fun _ _ _ h => by first | exact h | exact absurd h.1 (fun h => by cases h)) (by kernel_rfl)
        · intro T hT
          have hT0 := (hT.cell (cell_lt hcbc)).trans hcbc
          have hT1 := (hT.cell (cell_lt hc2c)).trans hc2c
          go_simp
          try rfl
        try go_frame
        apply tkD 7 hbz rfl (by kernel_rfl) (by kernel_rfl) (by kernel_rfl) (fun _ _ _ h => by first | exact h | exact absurd h.1 (fun h => by cases h)) (by kernel_rfl)
        · intro T hT
          have hT0 := (hT.cell (cell_lt hcbc)).trans hcbc
          have hT1 := (hT.cell (cell_lt hc2c)).trans hc2c
          go_simp
          try rfl
        try go_frame
        apply tkD 8 hbz rfl (by kernel_rfl) (by kernel_rfl) (by kernel_rfl) (fun _ _ _ h => by first | exact h | exact absurd h.1 (fun h => by cases h)) (by kernel_rfl)
        · intro T hT
          have hT0 := (hT.cell (cell_lt hcbc)).trans hcbc
          have hT1 := (hT.cell (cell_lt hc2c)).trans hc2c
          go_simp
          try rfl
        try go_frame
        apply tkD 11 hbz rfl (by kernel_rfl) (by kernel_rfl) (by kernel_rfl) (fun _ _ _ h => by first | exact h | exact absurd h.1 (fun h => by cases h)) (by kernel_rfl)
        · intro T hT
          have hT0 := (hT.cell (cell_lt hcbc)).trans hcbc
          have hT1 := (hT.cell (cell_lt hc2c)).trans hc2c
          go_simp
          try rfl
        try go_frame
        apply tkD 12 hbz rfl (by kernel_rfl) (by kernel_rfl) (by kernel_rfl) (fun _ _ _ h => by first | exact h | exact absurd h.1 (fun h => by cases h)) (by kernel_rfl)
        · intro T hT
          have hT0 := (hT.cell (cell_lt hcbc)).trans hcbc
          have hT1 := (hT.cell (cell_lt hc2c)).trans hc2c
          go_simp
          try rfl
        try go_frame
        refine oneD 9 (by kernel_rfl) rfl (by kernel_rfl) (fun K hK => ?_)
        go_simp
        refine (Cards_any _).mono ?_
        rintro e T1 ⟨v, rfl, hown, hb1'⟩
        obtain ⟨p1, c1, rfl, hc1, hRd, _⟩ := hown.u
        have hbT1 := hbz.trans (hb1'.mono hbz.size)
        refine hK _ _ ⟨hbT1, ?_⟩
        clear hK K
        try go_frame
        refine oneD 10 (by kernel_rfl) rfl (by kernel_rfl) (fun K hK => ?_)
        go_simp
        refine (NewR_any _ p1 c1).mono ?_
        rintro e T2 ⟨rfl, hb2'⟩
        have hbT2 := hbT1.trans (hb2'.mono hbT1.size)
        refine hK _ _ ⟨hbT2, ?_⟩
        clear hK K
        try go_frame
        refine oneD 13 (by kernel_rfl) rfl (by kernel_rfl) (fun K hK => ?_)
        go_simp
        refine (OfR_any _ p1 c1 _ _ _ _ _ ob (hRd.below hb2')).mono ?_
        rintro e T3 ⟨rfl, hb3'⟩
        have hbT3 := hbT2.trans (hb3'.mono hbT2.size)
        refine hK _ _ ⟨hbT3, ?_⟩
        clear hK K
        try go_frame
        refine oneD 14 (by kernel_rfl) rfl (by kernel_rfl) (fun K hK => ?_)
        go_simp
        refine (Role_w (hSc.out.call hbT3) (ofD ob) (by have := ofD_bd ob; unfold i64ok; omega)).mono ?_
        rintro e _ ⟨rfl, rfl⟩
        rw [hrr.out]
        refine hK _ _ ⟨hbT3, ?_⟩
        clear hK K
        try go_frame
        apply tkD 15 hbT3 rfl (by kernel_rfl) (by kernel_rfl) (by kernel_rfl) (fun _ _ _ h => by first | exact h | exact absurd h.1 (fun h => by cases h)) (by kernel_rfl)
        · intro T hT
          go_simp
          try rfl
        try go_frame
        apply tkD 16 hbT3 rfl (by kernel_rfl) (by kernel_rfl) (by kernel_rfl) (fun _ _ _ h => by first | exact h | exact absurd h.1 (fun h => by cases h)) (by kernel_rfl)
        · intro T hT
          go_simp
          try rfl
        try go_frame
        apply tkD 17 hbT3 rfl (by kernel_rfl) (by kernel_rfl) (by kernel_rfl) (fun _ _ _ h => by first | exact h | exact absurd h.1 (fun h => by cases h)) (by kernel_rfl)
        · intro T hT
          go_simp
          try rfl
        try go_frame
        refine oneD 18 (by kernel_rfl) rfl (by kernel_rfl) (fun K hK => ?_)
        go_simp
        refine (lives_any _ (hAc.below hbT3)).mono ?_
        rintro e T4 ⟨rfl, hb4'⟩
        have hbT4 := hbT3.trans (hb4'.mono hbT3.size)
        refine hK _ _ ⟨hbT4, ?_⟩
        clear hK K
        try go_frame
        apply tkD 19 hbT4 rfl (by kernel_rfl) (by kernel_rfl) (by kernel_rfl) (fun _ _ _ h => by first | exact h | exact absurd h.1 (fun h => by cases h)) (by kernel_rfl)
        · intro T hT
          go_simp
          try rfl
        try go_frame
        apply tkD 20 hbT4 rfl (by kernel_rfl) (by kernel_rfl) (by kernel_rfl) (fun _ _ _ h => by first | exact h | exact absurd h.1 (fun h => by cases h)) (by kernel_rfl)
        · intro T hT
          go_simp
          try rfl
        try go_frame
        refine wpAnyD_done (by kernel_rfl) ?_ _
        go_wp2_with fail
        go_ret
        exact ⟨rfl, hBf.out _ hbT4⟩
      · have hk6b : ((kk : Int) != 6) = true := by rw [bne_iff_ne]; omega
        subst hm0
        replace hk6 := Lib.hid hk6
        have hbz : Below wc.heap.size wc wc.drew := (Below.refl _ _).drew
        refine wp_region_D (D := fun T => Below wc.heap.size wc T) (by kernel_rfl) ?_
        change wpAnyD _ _ _ _ _ 21 _ _ _
        apply tkD 0 hbz rfl (by kernel_rfl) (by kernel_rfl) (by kernel_rfl) (fun _ _ _ h => by first | exact h | exact absurd h.1 (fun h => by cases h)) (by kernel_rfl)
        · intro T hT
          have hT0 := (hT.cell (cell_lt hc2c)).trans hc2c
          go_simp
          try rfl
        try go_frame
        apply tkD 1 hbz rfl (by kernel_rfl) (by kernel_rfl) (by kernel_rfl) (fun _ _ _ h => by first | exact h | exact absurd h.1 (fun h => by cases h)) (by kernel_rfl)
        · intro T hT
          have hT0 := (hT.cell (cell_lt hc2c)).trans hc2c
          go_simp
          try rfl
        try go_frame
        apply tkD 2 hbz rfl (by kernel_rfl) (by kernel_rfl) (by kernel_rfl) (fun _ _ _ h => by first | exact h | exact absurd h.1 (fun h => by cases h)) (by kernel_rfl)
        · intro T hT
          have hT0 := (hT.cell (cell_lt hc2c)).trans hc2c
          go_simp
          try rfl
        try go_frame
        apply tkD 3 hbz rfl (by kernel_rfl) (by kernel_rfl) (by kernel_rfl) (fun _ _ _ h => by first | exact h | exact absurd h.1 (fun h => by cases h)) (by kernel_rfl)
        · intro T hT
          have hT0 := (hT.cell (cell_lt hc2c)).trans hc2c
          go_simp
          try rfl
        try go_frame
        apply tkD 4 hbz rfl (by kernel_rfl) (by kernel_rfl) (by kernel_rfl) (fun _ _ _ h => by first | exact h | exact absurd h.1 (fun h => by cases h)) (by kernel_rfl)
        · intro T hT
          have hT0 := (hT.cell (cell_lt hc2c)).trans hc2c
          go_simp
          try rfl
        try go_frame
        apply tkD 5 hbz rfl (by kernel_rfl) (by kernel_rfl) (by kernel_rfl) (fun _ _ _ h => by first | exact h | exact absurd h.1 (fun h => by cases h)) (by kernel_rfl)
        · intro T hT
          have hT0 := (hT.cell (cell_lt hc2c)).trans hc2c
          go_simp
          try rfl
        try go_frame
        apply tkD 6 hbz rfl (by kernel_rfl) (by kernel_rfl) (by kernel_rfl) (fun _ _ _ h => by first | exact h | exact absurd h.1 (fun h => by cases h)) (by kernel_rfl)
        · intro T hT
          have hT0 := (hT.cell (cell_lt hc2c)).trans hc2c
          go_simp
          try rfl
        try go_frame
        apply tkD 7 hbz rfl (by kernel_rfl) (by kernel_rfl) (by kernel_rfl) (fun _ _ _ h => by first | exact h | exact absurd h.1 (fun h => by cases h)) (by kernel_rfl)
        · intro T hT
          have hT0 := (hT.cell (cell_lt hc2c)).trans hc2c
          go_simp
          try rfl
        try go_frame
        refine noD 8 hbz rfl (by kernel_rfl) (by kernel_rfl) (by kernel_rfl) (fun _ _ _ h => by first | exact h | exact absurd h.1 (fun h => by cases h)) (by kernel_rfl) ?_
        try go_frame
        refine noD 9 hbz rfl (by kernel_rfl) (by kernel_rfl) (by kernel_rfl) (fun _ _ _ h => by first | exact h | exact absurd h.1 (fun h => by cases h)) (by kernel_rfl) ?_
        try go_frame
        refine noD 10 hbz rfl (by kernel_rfl) (by kernel_rfl) (by kernel_rfl) (fun _ _ _ h => by first | exact h | exact absurd h.1 (fun h => by cases h)) (by kernel_rfl) ?_
        try go_frame
        refine noD 11 hbz rfl (by kernel_rfl) (by kernel_rfl) (by kernel_rfl) (fun _ _ _ h => by first | exact h | exact absurd h.1 (fun h => by cases h)) (by kernel_rfl) ?_
        try go_frame
        refine noD 12 hbz rfl (by kernel_rfl) (by kernel_rfl) (by kernel_rfl) (fun _ _ _ h => by first | exact h | exact absurd h.1 (fun h => by cases h)) (by kernel_rfl) ?_
        try go_frame
        refine noD 13 hbz rfl (by kernel_rfl) (by kernel_rfl) (by kernel_rfl) (fun _ _ _ h => by first | exact h | exact absurd h.1 (fun h => by cases h)) (by kernel_rfl) ?_
        try go_frame
        refine noD 14 hbz rfl (by kernel_rfl) (by kernel_rfl) (by kernel_rfl) (fun _ _ _ h => by first | exact h | exact absurd h.1 (fun h => by cases h)) (by kernel_rfl) ?_
        try go_frame
        refine noD 15 hbz rfl (by kernel_rfl) (by kernel_rfl) (by kernel_rfl) (fun _ _ _ h => by first | exact h | exact absurd h.1 (fun h => by cases h)) (by kernel_rfl) ?_
        try go_frame
        apply tkD 16 hbz rfl (by kernel_rfl) (by kernel_rfl) (by kernel_rfl) (fun _ _ _ h => by first | exact h | exact absurd h.1 (fun h => by cases h)) (by kernel_rfl)
        · intro T hT
          go_simp
          try rfl
        try go_frame
        apply tkD 17 hbz rfl (by kernel_rfl) (by kernel_rfl) (by kernel_rfl) (fun _ _ _ h => by first | exact h | exact absurd h.1 (fun h => by cases h)) (by kernel_rfl)
        · intro T hT
          go_simp
          try rfl
        try go_frame
        refine oneD 18 (by kernel_rfl) rfl (by kernel_rfl) (fun K hK => ?_)
        go_simp
        refine (lives_any _ (hAc.below hbz)).mono ?_
        rintro e T4 ⟨rfl, hb4'⟩
        have hbT4 := hbz.trans (hb4'.mono hbz.size)
        refine hK _ _ ⟨hbT4, ?_⟩
        clear hK K
        try go_frame
        apply tkD 19 hbT4 rfl (by kernel_rfl) (by kernel_rfl) (by kernel_rfl) (fun _ _ _ h => by first | exact h | exact absurd h.1 (fun h => by cases h)) (by kernel_rfl)
        · intro T hT
          go_simp
          try rfl
        try go_frame
        apply tkD 20 hbT4 rfl (by kernel_rfl) (by kernel_rfl) (by kernel_rfl) (fun _ _ _ h => by first | exact h | exact absurd h.1 (fun h => by cases h)) (by kernel_rfl)
        · intro T hT
          go_simp
          try rfl
        try go_frame
        refine wpAnyD_done (by kernel_rfl) ?_ _
        go_wp2_with fail
        go_ret
        exact ⟨rfl, hBf.out _ hbT4⟩
    · have hm0b : (mv != 0) = true := bne_iff_ne.2 hm0
      replace hm0 := Lib.hid hm0
      have hbz : Below wc.heap.size wc wc.drew := (Below.refl _ _).drew
      refine wp_region_D (D := fun T => Below wc.heap.size wc T) (by kernel_rfl) ?_
      change wpAnyD _ _ _ _ _ 21 _ _ _
      apply tkD 0 hbz rfl (by kernel_rfl) (by kernel_rfl) (by kernel_rfl) (fun _ _ _ h => by first | exact h | exact absurd h.1 (fun h => by cases h)) (by kernel_rfl)
      · intro T hT
        go_simp
        try rfl
      try go_frame
      apply tkD 1 hbz rfl (by kernel_rfl) (by kernel_rfl) (by kernel_rfl) (fun _ _ _ h => by first | exact h | exact absurd h.1 (fun h => by cases h)) (by kernel_rfl)
      · intro T hT
        go_simp
        try rfl
      try go_frame
      apply tkD 2 hbz rfl (by kernel_rfl) (by kernel_rfl) (by kernel_rfl) (fun _ _ _ h => by first | exact h | exact absurd h.1 (fun h => by cases h)) (by kernel_rfl)
      · intro T hT
        go_simp
        try rfl
      try go_frame
      refine noD 3 hbz rfl (by kernel_rfl) (by kernel_rfl) (by kernel_rfl) (fun _ _ _ h => by first | exact h | exact absurd h.1 (fun h => by cases h)) (by kernel_rfl) ?_
      try go_frame
      refine noD 4 hbz rfl (by kernel_rfl) (by kernel_rfl) (by kernel_rfl) (fun _ _ _ h => by first | exact h | exact absurd h.1 (fun h => by cases h)) (by kernel_rfl) ?_
      try go_frame
      refine noD 5 hbz rfl (by kernel_rfl) (by kernel_rfl) (by kernel_rfl) (fun _ _ _ h => by first | exact h | exact absurd h.1 (fun h => by cases h)) (by kernel_rfl) ?_
      try go_frame
      apply tkD 6 hbz rfl (by kernel_rfl) (by kernel_rfl) (by kernel_rfl) (fun _ _ _ h => by first | exact h | exact absurd h.1 (fun h => by cases h)) (by kernel_rfl)
      · intro T hT
        go_simp
        try rfl
      try go_frame
      apply tkD 7 hbz rfl (by kernel_rfl) (by kernel_rfl) (by kernel_rfl) (fun _ _ _ h => by first | exact h | exact absurd h.1 (fun h => by cases h)) (by kernel_rfl)
      · intro T hT
        go_simp
        try rfl
      try go_frame
      refine noD 8 hbz rfl (by kernel_rfl) (by kernel_rfl) (by kernel_rfl) (fun _ _ _ h => by first | exact h | exact absurd h.1 (fun h => by cases h)) (by kernel_rfl) ?_
      try go_frame
      refine noD 9 hbz rfl (by kernel_rfl) (by kernel_rfl) (by kernel_rfl) (fun _ _ _ h => by first | exact h | exact absurd h.1 (fun h => by cases h)) (by kernel_rfl) ?_
      try go_frame
      refine noD 10 hbz rfl (by kernel_rfl) (by kernel_rfl) (by kernel_rfl) (fun _ _ _ h => by first | exact h | exact absurd h.1 (fun h => by cases h)) (by kernel_rfl) ?_
      try go_frame
      refine noD 11 hbz rfl (by kernel_rfl) (by kernel_rfl) (by kernel_rfl) (fun _ _ _ h => by first | exact h | exact absurd h.1 (fun h => by cases h)) (by kernel_rfl) ?_
      try go_frame
      refine noD 12 hbz rfl (by kernel_rfl) (by kernel_rfl) (by kernel_rfl) (fun _ _ _ h => by first | exact h | exact absurd h.1 (fun h => by cases h)) (by kernel_rfl) ?_
      try go_frame
      refine noD 13 hbz rfl (by kernel_rfl) (by kernel_rfl) (by kernel_rfl) (fun _ _ _ h => by first | exact h | exact absurd h.1 (fun h => by cases h)) (by kernel_rfl) ?_
      try go_frame
      refine noD 14 hbz rfl (by kernel_rfl) (by kernel_rfl) (by kernel_rfl) (fun _ _ _ h => by first | exact h | exact absurd h.1 (fun h => by cases h)) (by kernel_rfl) ?_
      try go_frame
      refine noD 15 hbz rfl (by kernel_rfl) (by kernel_rfl) (by kernel_rfl) (fun _ _ _ h => by first | exact h | exact absurd h.1 (fun h => by cases h)) (by kernel_rfl) ?_
      try go_frame
      apply tkD 16 hbz rfl (by kernel_rfl) (by kernel_rfl) (by kernel_rfl) (fun _ _ _ h => by first | exact h | exact absurd h.1 (fun h => by cases h)) (by kernel_rfl)
      · intro T hT
        go_simp
        try rfl
      try go_frame
      apply tkD 17 hbz rfl (by kernel_rfl) (by kernel_rfl) (by kernel_rfl) (fun _ _ _ h => by first | exact h | exact absurd h.1 (fun h => by cases h)) (by kernel_rfl)
      · intro T hT
        go_simp
        try rfl
      try go_frame
      refine oneD 18 (by kernel_rfl) rfl (by kernel_rfl) (fun K hK => ?_)
      go_simp
      refine (lives_any _ (hAc.below hbz)).mono ?_
      rintro e T4 ⟨rfl, hb4'⟩
      have hbT4 := hbz.trans (hb4'.mono hbz.size)
      refine hK _ _ ⟨hbT4, ?_⟩
      clear hK K
      try go_frame
      apply tkD 19 hbT4 rfl (by kernel_rfl) (by kernel_rfl) (by kernel_rfl) (fun _ _ _ h => by first | exact h | exact absurd h.1 (fun h => by cases h)) (by kernel_rfl)
      · intro T hT
        go_simp
        try rfl
      try go_frame
      apply tkD 20 hbT4 rfl (by kernel_rfl) (by kernel_rfl) (by kernel_rfl) (fun _ _ _ h => by first | exact h | exact absurd h.1 (fun h => by cases h)) (by kernel_rfl)
      · intro T hT
        go_simp
        try rfl
      try go_frame
      refine wpAnyD_done (by kernel_rfl) ?_ _
      go_wp2_with fail
      go_ret
      exact ⟨rfl, hBf.out _ hbT4⟩
end Go.Proofs.YtkolilbebkkpdaaDoor

