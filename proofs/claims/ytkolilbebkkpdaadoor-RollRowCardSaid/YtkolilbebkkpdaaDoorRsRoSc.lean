/-
  Members held against each other; two rolls.
-/
import Derived.Test.YtkolilbebkkpdaaDoorRsRoSb
namespace Go.Proofs.YtkolilbebkkpdaaDoor
open Go.RowKit Go.Maps Go.BigFrame
attribute [local go_sem] in_gr

set_option maxRecDepth 100000 in
set_option maxHeartbeats 4000000 in
theorem gsameO_any (w : World) (o o' : Option Gd) (g v e c g' v' e' c' : Nat) (hD : ∀ d, o = some d → GdAt w g v e c d) (hD' : ∀ d, o' = some d → GdAt w g' v' e' c' d) (hl : ∀ d, o = some d → d.gs.length ≤ 1000000) (hl' : ∀ d, o' = some d → d.gs.length ≤ 1000000) :
    Calls Tryd.prog 72 #[gptr o g, gptr o' g'] w fun e w' => e = .returned (.bool (sameG o o')) ∧ Below w.heap.size w w' := by
  cases o with
  | some d =>
    cases o' with
    | some d' => exact gsame_any w g v e c g' v' e' c' d d' (hD d rfl) (hD' d' rfl) (hl d rfl) (hl' d' rfl)
    | none =>
      show Calls Tryd.prog 72 #[.pointer (some ⟨g, 0, none⟩), .pointer none] w fun e w' => e = .returned (.bool false) ∧ Below w.heap.size w w'
      go_enter Tryd.func72, Tryd.ntmps72
      go_wp2_with fail
      go_ret
      exact ⟨rfl, Below.refl _ _⟩
  | none =>
    cases o' with
    | some d' =>
      show Calls Tryd.prog 72 #[.pointer none, .pointer (some ⟨g', 0, none⟩)] w fun e w' => e = .returned (.bool false) ∧ Below w.heap.size w w'
      have hq : (binOp .eql 85 (.pointer none) (.pointer (some ⟨g', 0, none⟩))).run Tryd.prog w = .ok (.bool false) w := by kernel_rfl
      go_enter Tryd.func72, Tryd.ntmps72
      go_wp2_with fail
      go_ret
      exact ⟨rfl, Below.refl _ _⟩
    | none =>
      show Calls Tryd.prog 72 #[.pointer none, .pointer none] w fun e w' => e = .returned (.bool true) ∧ Below w.heap.size w w'
      go_enter Tryd.func72, Tryd.ntmps72
      go_wp2_with fail
      go_ret
      exact ⟨rfl, Below.refl _ _⟩
set_option maxRecDepth 100000 in
set_option maxHeartbeats 4000000 in
theorem msame_any (w : World) (x x' : MRec) (hM : MbAt w x) (hM' : MbAt w x') (hl : ∀ d, x.m.g = some d → d.gs.length ≤ 1000000) (hl' : ∀ d, x'.m.g = some d → d.gs.length ≤ 1000000) :
    Calls Tryd.prog 71 #[.pointer (some ⟨x.a, 0, none⟩), .pointer (some ⟨x'.a, 0, none⟩)] w fun e w' => e = .returned (.bool (sameM x.m x'.m)) ∧ Below w.heap.size w w' := by
  have a0 := GrIn.cells hM.c0
  have a1 := GrIn.cells hM.c1
  have b0 := GrIn.cells hM'.c0
  have b1 := GrIn.cells hM'.c1
  have hgs : ∀ z : GrIn w, _ := fun z => gsameO_any z.at_ x.m.g x'.m.g x.g x.v x.e x.c x'.g x'.v x'.e x'.c (fun d hd => (hM.gd d hd).keep z.gr.size (z.gr.block _ (blk_lt (hM.gd d hd).blk)) (z.gr.block _ (hM.gd d hd).vo.lt) (z.gr.block _ (hM.gd d hd).lt)) (fun d hd => (hM'.gd d hd).keep z.gr.size (z.gr.block _ (blk_lt (hM'.gd d hd).blk)) (z.gr.block _ (hM'.gd d hd).vo.lt) (z.gr.block _ (hM'.gd d hd).lt)) hl hl'
  obtain ⟨p1, hp1⟩ : ∃ p, Hid (gptr x.m.g x.g = p) := ⟨_, Lib.hid rfl⟩
  obtain ⟨p2, hp2⟩ : ∃ p, Hid (gptr x'.m.g x'.g = p) := ⟨_, Lib.hid rfl⟩
  rw [hp1.out] at a1 hgs
  rw [hp2.out] at b1 hgs
  obtain ⟨x1, h1⟩ : ∃ x1, Hid ((x.m.r == x'.m.r) = x1) := ⟨_, Lib.hid rfl⟩
  obtain ⟨x2, h2⟩ : ∃ x2, Hid (sameG x.m.g x'.m.g = x2) := ⟨_, Lib.hid rfl⟩
  have hres : Hid (sameM x.m x'.m = (x1 && x2)) := Lib.hid (by
    rw [← h1.out, ← h2.out]
    unfold sameM
    rfl)
  rw [hres.out]
  rw [h2.out] at hgs
  have q1 := h1.out
  replace hgs := Lib.hid hgs
  clear hres
  go_enter Tryd.func71, Tryd.ntmps71
  go_upto_region 1 with fail
  cases x1 with
  | false =>
    refine wp_region_gr (by kernel_rfl) (by kernel_rfl) ?_
    repeat (go_big_quiet_step (fail))
    refine wpQuiet_nil ?_
    intro V2 hw10'
    obtain ⟨⟨_, hw_V2⟩, rfl⟩ := hw10'
    change Exit.then _ _ _ _ V2
    go_wp2_with fail
    go_ret
    exact ⟨rfl, hw_V2⟩
  | true =>
    refine wp_region_gr (by kernel_rfl) (by kernel_rfl) ?_
    repeat (go_big_quiet_step ((go_at_call 72; rename_i z; refine (hgs.out z).mono ?_; rintro e w' ⟨rfl, hbz⟩; exact ⟨rfl, z.on hbz⟩)))
    refine wpQuiet_nil ?_
    intro V2 hw10'
    obtain ⟨⟨_, hw_V2⟩, rfl⟩ := hw10'
    change Exit.then _ _ _ _ V2
    go_wp2_with fail
    go_ret
    exact ⟨rfl, hw_V2⟩
theorem nodup_inj {α β : Type} {f : α → β} : ∀ {l : List α}, (l.map f).Nodup → ∀ {x y}, x ∈ l → y ∈ l → f x = f y → x = y := by
  intro l
  induction l with
  | nil => intro _ x y hx; cases hx
  | cons a l ih =>
    intro h x y hx hy e
    rw [List.map_cons, List.nodup_cons] at h
    rcases List.mem_cons.1 hx with hx1 | hx1
    · rcases List.mem_cons.1 hy with hy1 | hy1
      · rw [hx1, hy1]
      · rw [hx1] at e
        exact absurd (e ▸ List.mem_map_of_mem hy1) h.1
    · rcases List.mem_cons.1 hy with hy1 | hy1
      · rw [hy1] at e
        exact absurd (e ▸ List.mem_map_of_mem hx1) h.1
      · exact ih h.2 hx1 hy1 e
def recL (l : List MRec) : List (Int × Mb) := l.map fun x => (x.n, x.m)
theorem sameL_true {a b : List (Int × Mb)} (hl : a.length = b.length) (h : ∀ p ∈ a, ∃ m, lk b p.1 = some m ∧ sameM p.2 m = true) : sameL a b = true := by
  unfold sameL
  rw [Bool.and_eq_true, decide_eq_true_eq, List.all_eq_true]
  refine ⟨hl, fun p hp => ?_⟩
  obtain ⟨m, h1, h2⟩ := h p hp
  rw [h1]; exact h2
theorem sameL_false {a b : List (Int × Mb)} {p : Int × Mb} (hp : p ∈ a) (h : lk b p.1 = none ∨ ∃ m, lk b p.1 = some m ∧ sameM p.2 m = false) : sameL a b = false := by
  unfold sameL
  rw [Bool.and_eq_false_iff]
  refine .inr ?_
  rw [List.all_eq_false]
  refine ⟨p, hp, ?_⟩
  rcases h with h | ⟨m, h1, h2⟩
  · rw [h]; simp
  · rw [h1]; simp [h2]
set_option maxRecDepth 100000 in
set_option maxHeartbeats 4000000 in
theorem EqualF_any (w : World) (b1 b2 : Nat) (l1 l2 : List MRec) (h1 : MapV KI w b1 (memV l1)) (h2 : MapV KI w b2 (memV l2)) (hM1 : ∀ x ∈ l1, MbAt w x) (hM2 : ∀ x ∈ l2, MbAt w x)
    (hg1 : ∀ x ∈ l1, ∀ d, x.m.g = some d → d.gs.length ≤ 1000000) (hg2 : ∀ x ∈ l2, ∀ d, x.m.g = some d → d.gs.length ≤ 1000000) :
    Calls Tryd.prog 70 #[.map (some b1), .map (some b2), .func (.func 71) #[] #[]] w fun e w' => e = .returned (.bool (sameL (recL l1) (recL l2))) ∧ Below w.heap.size w w' := by
  have hl1 := h1.len (K := KI) Tryd.underlying79
  have hl2 := h2.len (K := KI) Tryd.underlying79
  have e1 : (memV l1).length = l1.length := by unfold memV; rw [List.length_map]
  have e2 : (memV l2).length = l2.length := by unfold memV; rw [List.length_map]
  have r1 : (recL l1).length = l1.length := by unfold recL; rw [List.length_map]
  have r2 : (recL l2).length = l2.length := by unfold recL; rw [List.length_map]
  have hn1 : (l1.map MRec.n).Nodup := by have := h1.nd; rwa [keys_memV] at this
  have hn2 : ((recL l2).map Prod.fst).Nodup := by
    have := h2.nd
    rw [keys_memV] at this
    unfold recL
    rw [List.map_map]
    exact this
  rw [e1] at hl1
  rw [e2] at hl2
  by_cases hlen : l1.length = l2.length
  · go_enter Tryd.func70, Tryd.ntmps70
    rw [hlen] at hl1
    replace hlen := Lib.hid hlen
    replace hM1 := Lib.hid hM1
    replace hM2 := Lib.hid hM2
    replace hg1 := Lib.hid hg1
    replace hg2 := Lib.hid hg2
    go_wp2_with (first
      | (at_range; refine wp_rng (K := KI) _ rfl _ 79 rfl 82 Tryd.underlying79 b1 (memV l1) rfl h1 ?_; intro w1 hrg1 hb1)
      | fail)
    go_frame
    obtain ⟨rg, hrgn⟩ : ∃ rg, Hid (w.heap.size = rg) := ⟨_, Lib.hid rfl⟩
    rw [hrgn.out] at hrg1 ⊢
    go_loopw [7] (fun _ wr => ∃ pre, Rng KI wr b1 rg (memV l1) pre ∧ Hid (∀ x ∈ l1, x.n ∈ pre → ∃ m, lk (recL l2) x.n = some m ∧ sameM x.m m = true) ∧ Hid (Below w.heap.size w wr)) (fun _ wr => wr.rangeLeft b1 rg)
    case atStart => exact ⟨[], hrg1, Lib.hid (fun _ _ h => (by cases h)), Lib.hid hb1⟩
    case round =>
      obtain ⟨pre, hrg, hpre, hb⟩ := hrel
      go_wp2_with (first
        | (at_next; refine wp_nxt (K := KI) _ rfl _ rfl b1 rg (memV l1) pre rfl hrg ?_ ?_)
        | fail)
      · intro hperm
        rw [keys_memV] at hperm
        have hR : Hid (sameL (recL l1) (recL l2) = true) := Lib.hid (sameL_true (by rw [r1, r2]; exact hlen.out) fun p hp => by
          unfold recL at hp
          obtain ⟨x, hx, rfl⟩ := List.mem_map.1 hp
          exact hpre.out x hx (hperm.mem_iff.2 (List.mem_map_of_mem hx)))
        go_wp2_with fail
        go_ret
        rw [hR.out]
        exact ⟨rfl, hb.out⟩
      · intro n v w2 hmem hnp hok hrg2 hlt hgr hen
        obtain ⟨x, hx, hxn, rfl⟩ := mem_memV hmem
        have hxr : (x.n, x.m) ∈ recL l1 := List.mem_map.2 ⟨x, hx, rfl⟩
        have hb2 : Below w.heap.size w w2 := hb.out.grown hgr hb.out.size fun k e => by injection e with e; have := hrgn.out; omega
        have hlk := (h2.below hb2).look_ok (K := KI) Tryd.underlying79 (zero_ptr w2) hok
        unfold lkv at hlk
        have hcs : (lk (memV l2) n = none ∧ lk (recL l2) n = none) ∨ ∃ z ∈ l2, z.n = n ∧ lk (memV l2) n = some (.pointer (some ⟨z.a, 0, none⟩)) ∧ lk (recL l2) n = some z.m := by
          cases hu : lk (memV l2) n with
          | none =>
            refine .inl ⟨rfl, lk_none.2 fun p hp e => ?_⟩
            unfold recL at hp
            obtain ⟨z, hz, rfl⟩ := List.mem_map.1 hp
            exact lk_none.1 hu (z.n, .pointer (some ⟨z.a, 0, none⟩)) (List.mem_map.2 ⟨z, hz, rfl⟩) e
          | some u =>
            obtain ⟨z, hz, hzn, rfl⟩ := mem_memV (lk_mem hu)
            exact .inr ⟨z, hz, hzn, rfl, lk_of_mem hn2 (List.mem_map.2 ⟨z, hz, by rw [hzn]⟩)⟩
        replace hmem := Lib.hid hmem
        rcases hcs with ⟨hu, hu2⟩ | ⟨z, hz, hzn, hu, hu2⟩
        · rw [hu] at hlk
          replace hlk : (Instr.lookup 79 (.map (some b2)) (KI.val n) true).run Tryd.prog w2 = .ok (.tuple #[.pointer none, .bool false]) w2 := hlk
          have hR : Hid (sameL (recL l1) (recL l2) = false) := Lib.hid (sameL_false hxr (.inl (by show lk _ x.n = none; rw [hxn]; exact hu2)))
          clear hu hu2
          go_wp2_with fail
          go_ret
          rw [hR.out]
          exact ⟨rfl, hb2⟩
        · rw [hu] at hlk
          replace hlk : (Instr.lookup 79 (.map (some b2)) (KI.val n) true).run Tryd.prog w2 = .ok (.tuple #[.pointer (some ⟨z.a, 0, none⟩), .bool true]) w2 := hlk
          have hms := msame_any w2 x z ((hM1.out x hx).keep hb2.size fun i hi => hb2.block i ((hM1.out x hx).lt i hi)) ((hM2.out z hz).keep hb2.size fun i hi => hb2.block i ((hM2.out z hz).lt i hi)) (hg1.out x hx) (hg2.out z hz)
          replace hms := Lib.hid hms
          clear hu
          replace hu2 := Lib.hid hu2
          go_wp2_with fail
          refine hms.out.mono ?_
          rintro e w3 ⟨rfl, hb3⟩
          have hb23 := hb2.trans (hb3.mono hb2.size)
          have hrg3 := hrg2.below hb3
          cases hsm : sameM x.m z.m with
          | true =>
            have hpre2 : Hid (∀ u ∈ l1, u.n ∈ pre ++ [n] → ∃ m, lk (recL l2) u.n = some m ∧ sameM u.m m = true) := Lib.hid (fun u hu hup => by
              rcases List.mem_append.1 hup with hup | hup
              · exact hpre.out u hu hup
              · rw [List.mem_singleton] at hup
                have huk : u = x := by
                  exact nodup_inj hn1 hu hx (hup.trans hxn.symm)
                subst huk
                exact ⟨z.m, by rw [hup]; exact hu2.out, hsm⟩)
            replace hsm := Lib.hid hsm
            go_wp2_with fail
            go_roundw
            case rel => exact ⟨pre ++ [n], hrg3.1, hpre2, Lib.hid hb23⟩
            case measure => rw [hrg3.2]; exact hlt
          | false =>
            have hR : Hid (sameL (recL l1) (recL l2) = false) := Lib.hid (sameL_false hxr (.inr ⟨z.m, by show lk _ x.n = _; rw [hxn]; exact hu2.out, hsm⟩))
            replace hsm := Lib.hid hsm
            go_wp2_with fail
            go_ret
            rw [hR.out]
            exact ⟨rfl, hb23⟩
  · have hlb : ((l1.length : Int) != (l2.length : Int)) = true := by rw [bne_iff_ne]; omega
    have hR : Hid (sameL (recL l1) (recL l2) = false) := Lib.hid (by unfold sameL; rw [decide_eq_false (by rw [r1, r2]; exact hlen)]; rfl)
    replace hlen := Lib.hid hlen
    go_enter Tryd.func70, Tryd.ntmps70
    go_wp2_with fail
    go_ret
    rw [hR.out]
    exact ⟨rfl, Below.refl _ _⟩
set_option maxRecDepth 100000 in
set_option maxHeartbeats 8000000 in
theorem Same_any (w : World) (y y' : Lay) (s s' : RS) (k k' : Nat) (hR : RollAt w y s) (hR' : RollAt w y' s') (hs : s.Ok k) (hs' : s'.Ok k') :
    Calls Tryd.prog 34 #[.pointer (some ⟨y.r, 0, none⟩), .pointer (some ⟨y'.r, 0, none⟩)] w fun e w' => e = .returned (.bool (s.same s')) ∧ Below w.heap.size w w' := by
  have a1 := GrIn.cells hR.c1
  have a2 := GrIn.cells hR.c2
  have a3 := GrIn.cells hR.c3
  have a4 := GrIn.cells hR.c4
  have b1 := GrIn.cells hR'.c1
  have b2 := GrIn.cells hR'.c2
  have b3 := GrIn.cells hR'.c3
  have b4 := GrIn.cells hR'.c4
  have hE1 : ∀ z : GrIn w, _ := fun z => EqualB_any z.at_ y.i y'.i _ _ (hR.ins.below z.gr) (hR'.ins.below z.gr)
  have hE2 : ∀ z : GrIn w, _ := fun z => EqualB_any z.at_ y.w y'.w _ _ (hR.was.below z.gr) (hR'.was.below z.gr)
  have hgl : ∀ x ∈ y.l, ∀ d, x.m.g = some d → d.gs.length ≤ 1000000 := fun x hx d hd => by have := (hs.gd _ (hR.memS hx) d hd).gl; omega
  have hgl' : ∀ x ∈ y'.l, ∀ d, x.m.g = some d → d.gs.length ≤ 1000000 := fun x hx d hd => by have := (hs'.gd _ (hR'.memS hx) d hd).gl; omega
  have hE3 : ∀ z : GrIn w, _ := fun z => EqualF_any z.at_ y.m y'.m y.l y'.l (hR.ms.below z.gr) (hR'.ms.below z.gr) (fun x hx => (hR.below z.gr).mb x hx) (fun x hx => (hR'.below z.gr).mb x hx) hgl hgl'
  have hq1 : recL y.l = s.ms := hR.eq
  have hq2 : recL y'.l = s'.ms := hR'.eq
  rw [hq1, hq2] at hE3
  obtain ⟨x1, h1⟩ : ∃ x, Hid (eqI s.ins s'.ins = x) := ⟨_, Lib.hid rfl⟩
  obtain ⟨x2, h2⟩ : ∃ x, Hid (eqI (s.ins ++ s.gone) (s'.ins ++ s'.gone) = x) := ⟨_, Lib.hid rfl⟩
  obtain ⟨x3, h3⟩ : ∃ x, Hid ((s.bk == s'.bk) = x) := ⟨_, Lib.hid rfl⟩
  obtain ⟨x4, h4⟩ : ∃ x, Hid (sameL s.ms s'.ms = x) := ⟨_, Lib.hid rfl⟩
  have hres : Hid (s.same s' = (x1 && x2 && x3 && x4)) := Lib.hid (by
    rw [← h1.out, ← h2.out, ← h3.out, ← h4.out]
    rfl)
  rw [hres.out]
  rw [h1.out] at hE1
  rw [h2.out] at hE2
  rw [h4.out] at hE3
  have q3 := h3.out
  replace hE1 := Lib.hid hE1
  replace hE2 := Lib.hid hE2
  replace hE3 := Lib.hid hE3
  clear hres hgl hgl' hq1 hq2
  go_enter Tryd.func34, Tryd.ntmps34
  go_upto_region 1 with fail
  cases x1 with
  | false =>
    refine wp_region_gr (by kernel_rfl) (by kernel_rfl) ?_
    repeat (go_big_quiet_step (first
      | (go_at_call 69; rename_i z; first | (with_reducible refine (hE1.out z).mono ?_; rintro e w' ⟨rfl, hbz⟩; exact ⟨rfl, z.on hbz⟩) | (with_reducible refine (hE2.out z).mono ?_; rintro e w' ⟨rfl, hbz⟩; exact ⟨rfl, z.on hbz⟩))
      | (go_at_call 70; rename_i z; refine (hE3.out z).mono ?_; rintro e w' ⟨rfl, hbz⟩; exact ⟨rfl, z.on hbz⟩)))
    refine wpQuiet_nil ?_
    intro V2 hw10'
    obtain ⟨⟨_, hw_V2⟩, rfl⟩ := hw10'
    change Exit.then _ _ _ _ V2
    go_wp2_with fail
    go_ret
    exact ⟨rfl, hw_V2⟩
  | true =>
    cases x2 with
    | false =>
      refine wp_region_gr (by kernel_rfl) (by kernel_rfl) ?_
      repeat (go_big_quiet_step (first
        | (go_at_call 69; rename_i z; first | (with_reducible refine (hE1.out z).mono ?_; rintro e w' ⟨rfl, hbz⟩; exact ⟨rfl, z.on hbz⟩) | (with_reducible refine (hE2.out z).mono ?_; rintro e w' ⟨rfl, hbz⟩; exact ⟨rfl, z.on hbz⟩))
        | (go_at_call 70; rename_i z; refine (hE3.out z).mono ?_; rintro e w' ⟨rfl, hbz⟩; exact ⟨rfl, z.on hbz⟩)))
      refine wpQuiet_nil ?_
      intro V2 hw10'
      obtain ⟨⟨_, hw_V2⟩, rfl⟩ := hw10'
      change Exit.then _ _ _ _ V2
      go_wp2_with fail
      go_ret
      exact ⟨rfl, hw_V2⟩
    | true =>
      cases x3 with
      | false =>
        refine wp_region_gr (by kernel_rfl) (by kernel_rfl) ?_
        repeat (go_big_quiet_step (first
          | (go_at_call 69; rename_i z; first | (with_reducible refine (hE1.out z).mono ?_; rintro e w' ⟨rfl, hbz⟩; exact ⟨rfl, z.on hbz⟩) | (with_reducible refine (hE2.out z).mono ?_; rintro e w' ⟨rfl, hbz⟩; exact ⟨rfl, z.on hbz⟩))
          | (go_at_call 70; rename_i z; refine (hE3.out z).mono ?_; rintro e w' ⟨rfl, hbz⟩; exact ⟨rfl, z.on hbz⟩)))
        refine wpQuiet_nil ?_
        intro V2 hw10'
        obtain ⟨⟨_, hw_V2⟩, rfl⟩ := hw10'
        change Exit.then _ _ _ _ V2
        go_wp2_with fail
        go_ret
        exact ⟨rfl, hw_V2⟩
      | true =>
        cases x4 with
        | false =>
          refine wp_region_gr (by kernel_rfl) (by kernel_rfl) ?_
          repeat (go_big_quiet_step (first
            | (go_at_call 69; rename_i z; first | (with_reducible refine (hE1.out z).mono ?_; rintro e w' ⟨rfl, hbz⟩; exact ⟨rfl, z.on hbz⟩) | (with_reducible refine (hE2.out z).mono ?_; rintro e w' ⟨rfl, hbz⟩; exact ⟨rfl, z.on hbz⟩))
            | (go_at_call 70; rename_i z; refine (hE3.out z).mono ?_; rintro e w' ⟨rfl, hbz⟩; exact ⟨rfl, z.on hbz⟩)))
          refine wpQuiet_nil ?_
          intro V2 hw10'
          obtain ⟨⟨_, hw_V2⟩, rfl⟩ := hw10'
          change Exit.then _ _ _ _ V2
          go_wp2_with fail
          go_ret
          exact ⟨rfl, hw_V2⟩
        | true =>
          refine wp_region_gr (by kernel_rfl) (by kernel_rfl) ?_
          repeat (go_big_quiet_step (first
            | (go_at_call 69; rename_i z; first | (with_reducible refine (hE1.out z).mono ?_; rintro e w' ⟨rfl, hbz⟩; exact ⟨rfl, z.on hbz⟩) | (with_reducible refine (hE2.out z).mono ?_; rintro e w' ⟨rfl, hbz⟩; exact ⟨rfl, z.on hbz⟩))
            | (go_at_call 70; rename_i z; refine (hE3.out z).mono ?_; rintro e w' ⟨rfl, hbz⟩; exact ⟨rfl, z.on hbz⟩)))
          refine wpQuiet_nil ?_
          intro V2 hw10'
          obtain ⟨⟨_, hw_V2⟩, rfl⟩ := hw10'
          change Exit.then _ _ _ _ V2
          go_wp2_with fail
          go_ret
          exact ⟨rfl, hw_V2⟩
end Go.Proofs.YtkolilbebkkpdaaDoor

