/-
  Guards held against each other; members.
-/
import Derived.Test.YtkolilbebkkpdaaDoorRsRoSa
namespace Go.Proofs.YtkolilbebkkpdaaDoor
open Go.RowKit Go.Maps Go.BigFrame
attribute [local go_sem] in_gr

theorem dec_eq_bool {p q : Prop} [Decidable p] [Decidable q] (h : p ↔ q) : decide p = decide q := decide_eq_decide.2 h
set_option maxRecDepth 100000 in
set_option maxHeartbeats 16000000 in
theorem gsame_any (w : World) (g v e c g' v' e' c' : Nat) (d d' : Gd) (hD : GdAt w g v e c d) (hD' : GdAt w g' v' e' c' d') (hl : d.gs.length ≤ 1000000) (hl' : d'.gs.length ≤ 1000000) :
    Calls Tryd.prog 72 #[.pointer (some ⟨g, 0, none⟩), .pointer (some ⟨g', 0, none⟩)] w fun e w' => e = .returned (.bool (sameG (some d) (some d'))) ∧ Below w.heap.size w w' := by
  have hst := id_stood
  have hgd := id_guard
  have a0 := GrIn.cells hD.c0
  have a1 := GrIn.cells hD.c1
  have a2 := GrIn.cells hD.c2
  have a3 := GrIn.cells hD.c3
  have a4 := GrIn.cells hD.c4
  have a5 := GrIn.cells hD.c5
  have a6 := GrIn.cells hD.c6
  have a7 := GrIn.cells hD.c7
  have a8 := GrIn.cells hD.c8
  have b0 := GrIn.cells hD'.c0
  have b1 := GrIn.cells hD'.c1
  have b2 := GrIn.cells hD'.c2
  have b3 := GrIn.cells hD'.c3
  have b4 := GrIn.cells hD'.c4
  have b5 := GrIn.cells hD'.c5
  have b6 := GrIn.cells hD'.c6
  have b7 := GrIn.cells hD'.c7
  have b8 := GrIn.cells hD'.c8
  have hsl : ∀ z : GrIn w, _ := fun z => SliceEq_any _ _ _ _ _ _ c c' z.at_ (hD.gs.below z.gr) (hD'.gs.below z.gr) hl hl'
  have hev : ∀ z : GrIn w, _ := fun z => EqualV_any z.at_ v v' _ _ (hD.vo.below z.gr) (hD'.vo.below z.gr)
  have hid := fun T => id_eql d.id d'.id T
  obtain ⟨x1, h1⟩ : ∃ x, Hid (decide (d.id = d'.id) = x) := ⟨_, Lib.hid rfl⟩
  obtain ⟨x2, h2⟩ : ∃ x, Hid (decide (d.gs = d'.gs) = x) := ⟨_, Lib.hid rfl⟩
  obtain ⟨x3, h3⟩ : ∃ x, Hid ((d.n == d'.n) = x) := ⟨_, Lib.hid rfl⟩
  obtain ⟨x4, h4⟩ : ∃ x, Hid ((d.t == d'.t) = x) := ⟨_, Lib.hid rfl⟩
  obtain ⟨x5, h5⟩ : ∃ x, Hid (eqV d.vo d'.vo = x) := ⟨_, Lib.hid rfl⟩
  obtain ⟨x6, h6⟩ : ∃ x, Hid ((d.ob == d'.ob) = x) := ⟨_, Lib.hid rfl⟩
  obtain ⟨x7, h7⟩ : ∃ x, Hid ((d.la == d'.la) = x) := ⟨_, Lib.hid rfl⟩
  have hres : Hid (sameG (some d) (some d') = (x1 && x2 && x3 && x4 && x5 && x6 && x7)) := Lib.hid (by
    rw [← h1.out, ← h2.out, ← h3.out, ← h4.out, ← h5.out, ← h6.out, ← h7.out]
    unfold sameG
    have hb : ∀ a b : Int, (a == b) = decide (a = b) := fun a b => by by_cases h : a = b <;> simp [h]
    have hc : ∀ a b : Bool, (a == b) = decide (a = b) := fun a b => by by_cases h : a = b <;> simp [h]
    rw [hb, hb, hb, hc])
  rw [hres.out]
  rw [h1.out] at hid
  rw [h2.out] at hsl
  rw [h5.out] at hev
  have q3 := h3.out
  have q4 := h4.out
  have q6 := h6.out
  have q7 := h7.out
  replace hsl := Lib.hid hsl
  replace hev := Lib.hid hev
  clear hres
  go_enter Tryd.func72, Tryd.ntmps72
  go_upto_region 3 with fail
  simp only [List.append_eq, List.cons_append, List.nil_append]
  cases x1 with
  | false =>
    refine wp_region_gr (by kernel_rfl) (by kernel_rfl) ?_
    repeat (go_big_quiet_step (first
      | (go_at_call 81; rename_i z; refine (hsl.out z).mono ?_; rintro e w' ⟨rfl, hbz⟩; exact ⟨rfl, z.on hbz⟩)
      | (go_at_call 82; rename_i z; refine (hev.out z).mono ?_; rintro e w' ⟨rfl, hbz⟩; exact ⟨rfl, z.on hbz⟩)))
    refine wpQuiet_nil ?_
    intro V2 hw10'
    obtain ⟨⟨_, hw_V2⟩, rfl⟩ := hw10'
    change Exit.then _ _ _ _ V2
    go_wp2_with fail
    go_ret
    exact ⟨rfl, hw_V2⟩
  | true =>
    cases x2 with
    | false =>
      refine wp_region_gr (by kernel_rfl) (by kernel_rfl) ?_
      repeat (go_big_quiet_step (first
        | (go_at_call 81; rename_i z; refine (hsl.out z).mono ?_; rintro e w' ⟨rfl, hbz⟩; exact ⟨rfl, z.on hbz⟩)
        | (go_at_call 82; rename_i z; refine (hev.out z).mono ?_; rintro e w' ⟨rfl, hbz⟩; exact ⟨rfl, z.on hbz⟩)))
      refine wpQuiet_nil ?_
      intro V2 hw10'
      obtain ⟨⟨_, hw_V2⟩, rfl⟩ := hw10'
      change Exit.then _ _ _ _ V2
      go_wp2_with fail
      go_ret
      exact ⟨rfl, hw_V2⟩
    | true =>
      cases x3 with
      | false =>
        refine wp_region_gr (by kernel_rfl) (by kernel_rfl) ?_
        repeat (go_big_quiet_step (first
          | (go_at_call 81; rename_i z; refine (hsl.out z).mono ?_; rintro e w' ⟨rfl, hbz⟩; exact ⟨rfl, z.on hbz⟩)
          | (go_at_call 82; rename_i z; refine (hev.out z).mono ?_; rintro e w' ⟨rfl, hbz⟩; exact ⟨rfl, z.on hbz⟩)))
        refine wpQuiet_nil ?_
        intro V2 hw10'
        obtain ⟨⟨_, hw_V2⟩, rfl⟩ := hw10'
        change Exit.then _ _ _ _ V2
        go_wp2_with fail
        go_ret
        exact ⟨rfl, hw_V2⟩
      | true =>
        cases x4 with
        | false =>
          refine wp_region_gr (by kernel_rfl) (by kernel_rfl) ?_
          repeat (go_big_quiet_step (first
            | (go_at_call 81; rename_i z; refine (hsl.out z).mono ?_; rintro e w' ⟨rfl, hbz⟩; exact ⟨rfl, z.on hbz⟩)
            | (go_at_call 82; rename_i z; refine (hev.out z).mono ?_; rintro e w' ⟨rfl, hbz⟩; exact ⟨rfl, z.on hbz⟩)))
          refine wpQuiet_nil ?_
          intro V2 hw10'
          obtain ⟨⟨_, hw_V2⟩, rfl⟩ := hw10'
          change Exit.then _ _ _ _ V2
          go_wp2_with fail
          go_ret
          exact ⟨rfl, hw_V2⟩
        | true =>
          cases x5 with
          | false =>
            refine wp_region_gr (by kernel_rfl) (by kernel_rfl) ?_
            repeat (go_big_quiet_step (first
              | (go_at_call 81; rename_i z; refine (hsl.out z).mono ?_; rintro e w' ⟨rfl, hbz⟩; exact ⟨rfl, z.on hbz⟩)
              | (go_at_call 82; rename_i z; refine (hev.out z).mono ?_; rintro e w' ⟨rfl, hbz⟩; exact ⟨rfl, z.on hbz⟩)))
            refine wpQuiet_nil ?_
            intro V2 hw10'
            obtain ⟨⟨_, hw_V2⟩, rfl⟩ := hw10'
            change Exit.then _ _ _ _ V2
            go_wp2_with fail
            go_ret
            exact ⟨rfl, hw_V2⟩
          | true =>
            cases x6 with
            | false =>
              refine wp_region_gr (by kernel_rfl) (by kernel_rfl) ?_
              repeat (go_big_quiet_step (first
                | (go_at_call 81; rename_i z; refine (hsl.out z).mono ?_; rintro e w' ⟨rfl, hbz⟩; exact ⟨rfl, z.on hbz⟩)
                | (go_at_call 82; rename_i z; refine (hev.out z).mono ?_; rintro e w' ⟨rfl, hbz⟩; exact ⟨rfl, z.on hbz⟩)))
              refine wpQuiet_nil ?_
              intro V2 hw10'
              obtain ⟨⟨_, hw_V2⟩, rfl⟩ := hw10'
              change Exit.then _ _ _ _ V2
              go_wp2_with fail
              go_ret
              exact ⟨rfl, hw_V2⟩
            | true =>
              cases x7 with
              | false =>
                refine wp_region_gr (by kernel_rfl) (by kernel_rfl) ?_
                repeat (go_big_quiet_step (first
                  | (go_at_call 81; rename_i z; refine (hsl.out z).mono ?_; rintro e w' ⟨rfl, hbz⟩; exact ⟨rfl, z.on hbz⟩)
                  | (go_at_call 82; rename_i z; refine (hev.out z).mono ?_; rintro e w' ⟨rfl, hbz⟩; exact ⟨rfl, z.on hbz⟩)))
                refine wpQuiet_nil ?_
                intro V2 hw10'
                obtain ⟨⟨_, hw_V2⟩, rfl⟩ := hw10'
                change Exit.then _ _ _ _ V2
                go_wp2_with fail
                go_ret
                exact ⟨rfl, hw_V2⟩
              | true =>
                refine wp_region_gr (by kernel_rfl) (by kernel_rfl) ?_
                repeat (go_big_quiet_step (first
                  | (go_at_call 81; rename_i z; refine (hsl.out z).mono ?_; rintro e w' ⟨rfl, hbz⟩; exact ⟨rfl, z.on hbz⟩)
                  | (go_at_call 82; rename_i z; refine (hev.out z).mono ?_; rintro e w' ⟨rfl, hbz⟩; exact ⟨rfl, z.on hbz⟩)))
                refine wpQuiet_nil ?_
                intro V2 hw10'
                obtain ⟨⟨_, hw_V2⟩, rfl⟩ := hw10'
                change Exit.then _ _ _ _ V2
                go_wp2_with fail
                go_ret
                exact ⟨rfl, hw_V2⟩
end Go.Proofs.YtkolilbebkkpdaaDoor

