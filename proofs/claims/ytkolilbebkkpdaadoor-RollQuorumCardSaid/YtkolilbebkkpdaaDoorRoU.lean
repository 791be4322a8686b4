/-
  What a Vouch, and a Replace, are asked.
-/
import Derived.Test.YtkolilbebkkpdaaDoorRoS
namespace Go.Proofs.YtkolilbebkkpdaaDoor
open Go.RowKit Go.Maps

theorem RS.whose_bd {s : RS} {k : Nat} (hs : s.Ok k) (i : Idn) : 0 ≤ s.whose i ∧ s.whose i ≤ 4 := by
  rcases s.whose_cases i with ⟨h0, _⟩ | ⟨p, hp, _, h0⟩
  · omega
  · have := hs.mem p hp
    omega
theorem guards_bd {s : RS} {k : Nat} (hs : s.Ok k) (o : OpI) : 0 ≤ (s.guards o).1 ∧ (s.guards o).1 ≤ 4 := by
  have hw := RS.whose_bd hs o.f
  unfold RS.guards
  split
  · exact ⟨Int.le_refl _, by omega⟩
  · unfold grd1
    split
    · split
      · exact hw
      · exact ⟨Int.le_refl _, by decide⟩
    · exact ⟨Int.le_refl _, by decide⟩
set_option maxRecDepth 100000 in
set_option maxHeartbeats 4000000 in
theorem askVouch_any (w : World) (y : Lay) (s : RS) (o : OpI) (gp : Option Addr) (gc : Nat) (m : Int) (k : Nat) (_hk : k ≤ 1000) (hR : RollAt w y s) (hs : s.Ok k) (ho : o.Ok) :
    Calls Tryd.prog 131 #[.pointer (some ⟨y.r, 0, none⟩), .agg (opC o gp gc), .int .i64 m] w fun e w' => e = .returned (.int .i64 (s.askVouch o m)) ∧ Below w.heap.size w w' := by
  have hb0 := Below.lit w (.cells (opC o gp gc) 42)
  have hR0 := hR.below hb0
  have hO := OpAt.made w o gp gc
  have hd := i64_small ho.hd
  have hoo := i64_small ho.ho
  obtain ⟨q, hq⟩ : ∃ q, Hid (s.askVouch o m = q) := ⟨_, Lib.hid rfl⟩
  rw [hq.out]
  have hgb := guards_bd hs o
  obtain ⟨g1, hg1⟩ : ∃ g1, Hid ((s.guards o).1 = g1) := ⟨_, Lib.hid rfl⟩
  obtain ⟨g2, hg2⟩ : ∃ g2, Hid ((s.guards o).2 = g2) := ⟨_, Lib.hid rfl⟩
  rw [hg1.out] at hgb
  have hgo : i64ok g1 := by unfold i64ok; omega
  go_enter Tryd.func131, Tryd.ntmps131
  go_wp2_with (first | (refine wpList_load_row rfl 42 _ rfl w.heap.size rfl 42 (opC o gp gc) (0, 0) _ hO Tryd.underlying42 rfl (by kernel_rfl) ?_) | fail)
  refine (guards_any _ y s o gp gc k hR0 hs).mono ?_
  rintro e w1 ⟨rfl, hb1⟩
  rw [hg1.out, hg2.out]
  have hB := hb0.trans (hb1.mono hb0.size)
  have hR1 := hR0.below hb1
  have hO1 := hO.below hb1 (by simp)
  have k1 := hO1.cd
  have k2 := hO1.co
  have k3 := hO1.ca
  have c1 := hR1.c1
  clear hR0 hO c1
  have c1 := hR1.c1
  by_cases hz : g2 = 0
  · have t1 : (g2 != 0) = false := by rw [hz]; rfl
    have hz2 : (s.guards o).2 = 0 := hg2.out.trans hz
    by_cases hw : ofD o.d = g1
    · have t2 : (ofD o.d != g1) = false := by rw [hw]; exact bne_self_eq_false _
      cases hf : s.fresh o.d with
      | false =>
        have e : Hid (q = 17) := Lib.hid (by rw [← hq.out]; unfold RS.askVouch; rw [if_neg (by rw [hz2]; simp), if_neg (by rw [hg1.out, hw]; simp), if_pos hf])
        replace hf := Lib.hid hf
        replace hz2 := Lib.hid hz2
        replace hz := Lib.hid hz
        replace hw := Lib.hid hw
        go_wp2_with (first | (go_at_call 37; refine (of_any _ y s _ (by first | assumption | exact RollAt.drewN (by assumption) _) (by assumption)).mono ?_; rintro e w' ⟨rfl, rfl⟩) | (go_at_call 38; refine (fresh_any _ y s _ (by first | assumption | exact RollAt.drewN (by assumption) _) (by assumption)).mono ?_; rintro e w' ⟨rfl, rfl⟩; rw [hf.out]) | (go_at_call 122; refine (rules_any _ y s _ (by first | assumption | exact RollAt.drewN (by assumption) _) (by assumption)).mono ?_; rintro e w' ⟨rfl, rfl⟩; rw [hr.out]) | fail)
        go_ret
        exact ⟨ret_int e.out.symm, hB⟩
      | true =>
        have e : Hid (q = 0) := Lib.hid (by rw [← hq.out]; unfold RS.askVouch; rw [if_neg (by rw [hz2]; simp), if_neg (by rw [hg1.out, hw]; simp), if_neg (by rw [hf]; simp)])
        replace hf := Lib.hid hf
        replace hz2 := Lib.hid hz2
        replace hz := Lib.hid hz
        replace hw := Lib.hid hw
        go_wp2_with (first | (go_at_call 37; refine (of_any _ y s _ (by first | assumption | exact RollAt.drewN (by assumption) _) (by assumption)).mono ?_; rintro e w' ⟨rfl, rfl⟩) | (go_at_call 38; refine (fresh_any _ y s _ (by first | assumption | exact RollAt.drewN (by assumption) _) (by assumption)).mono ?_; rintro e w' ⟨rfl, rfl⟩; rw [hf.out]) | (go_at_call 122; refine (rules_any _ y s _ (by first | assumption | exact RollAt.drewN (by assumption) _) (by assumption)).mono ?_; rintro e w' ⟨rfl, rfl⟩; rw [hr.out]) | fail)
        go_ret
        exact ⟨ret_int e.out.symm, hB⟩
    · have t2 : (ofD o.d != g1) = true := bne_iff_ne.2 hw
      have e : Hid (q = 16) := Lib.hid (by rw [← hq.out]; unfold RS.askVouch; rw [if_neg (by rw [hz2]; simp), if_pos (by rw [hg1.out]; exact hw)])
      replace hz2 := Lib.hid hz2
      replace hz := Lib.hid hz
      clear hw
      go_wp2_with (first | (go_at_call 37; refine (of_any _ y s _ (by first | assumption | exact RollAt.drewN (by assumption) _) (by assumption)).mono ?_; rintro e w' ⟨rfl, rfl⟩) | (go_at_call 38; refine (fresh_any _ y s _ (by first | assumption | exact RollAt.drewN (by assumption) _) (by assumption)).mono ?_; rintro e w' ⟨rfl, rfl⟩; rw [hf.out]) | (go_at_call 122; refine (rules_any _ y s _ (by first | assumption | exact RollAt.drewN (by assumption) _) (by assumption)).mono ?_; rintro e w' ⟨rfl, rfl⟩; rw [hr.out]) | fail)
      go_ret
      exact ⟨ret_int e.out.symm, hB⟩
  · have t1 : (g2 != 0) = true := bne_iff_ne.2 hz
    have e : Hid (q = g2) := Lib.hid (by rw [← hq.out]; unfold RS.askVouch; rw [if_pos (by rw [hg2.out]; exact hz)]; exact hg2.out)
    clear hz
    go_wp2_with (first | (go_at_call 37; refine (of_any _ y s _ (by first | assumption | exact RollAt.drewN (by assumption) _) (by assumption)).mono ?_; rintro e w' ⟨rfl, rfl⟩) | (go_at_call 38; refine (fresh_any _ y s _ (by first | assumption | exact RollAt.drewN (by assumption) _) (by assumption)).mono ?_; rintro e w' ⟨rfl, rfl⟩; rw [hf.out]) | (go_at_call 122; refine (rules_any _ y s _ (by first | assumption | exact RollAt.drewN (by assumption) _) (by assumption)).mono ?_; rintro e w' ⟨rfl, rfl⟩; rw [hr.out]) | fail)
    go_ret
    exact ⟨ret_int e.out.symm, hB⟩
set_option maxRecDepth 100000 in
set_option maxHeartbeats 4000000 in
theorem askReplace_any (w : World) (y : Lay) (s : RS) (o : OpI) (gp : Option Addr) (gc : Nat) (m : Int) (k : Nat) (hk : k ≤ 1000) (hR : RollAt w y s) (hs : s.Ok k) (ho : o.Ok) :
    Calls Tryd.prog 132 #[.pointer (some ⟨y.r, 0, none⟩), .agg (opC o gp gc), .int .i64 m] w fun e w' => e = .returned (.int .i64 (s.askReplace o m)) ∧ Below w.heap.size w w' := by
  have hb0 := Below.lit w (.cells (opC o gp gc) 42)
  have hR0 := hR.below hb0
  have hO := OpAt.made w o gp gc
  have hd := i64_small ho.hd
  have hoo := i64_small ho.ho
  obtain ⟨q, hq⟩ : ∃ q, Hid (s.askReplace o m = q) := ⟨_, Lib.hid rfl⟩
  rw [hq.out]
  have hgb := guards_bd hs o
  obtain ⟨g1, hg1⟩ : ∃ g1, Hid ((s.guards o).1 = g1) := ⟨_, Lib.hid rfl⟩
  obtain ⟨g2, hg2⟩ : ∃ g2, Hid ((s.guards o).2 = g2) := ⟨_, Lib.hid rfl⟩
  rw [hg1.out] at hgb
  have hgo : i64ok g1 := by unfold i64ok; omega
  go_enter Tryd.func132, Tryd.ntmps132
  go_wp2_with (first | (refine wpList_load_row rfl 42 _ rfl w.heap.size rfl 42 (opC o gp gc) (0, 0) _ hO Tryd.underlying42 rfl (by kernel_rfl) ?_) | fail)
  refine (guards_any _ y s o gp gc k hR0 hs).mono ?_
  rintro e w1 ⟨rfl, hb1⟩
  rw [hg1.out, hg2.out]
  have hB := hb0.trans (hb1.mono hb0.size)
  have hR1 := hR0.below hb1
  have hO1 := hO.below hb1 (by simp)
  have k1 := hO1.cd
  have k2 := hO1.co
  have k3 := hO1.ca
  have c1 := hR1.c1
  clear hR0 hO c1
  have c1 := hR1.c1
  by_cases hz : g2 = 0
  · have t1 : (g2 != 0) = false := by rw [hz]; rfl
    have hz2 : (s.guards o).2 = 0 := hg2.out.trans hz
    cases hi : s.inB o.o with
    | false =>
      have e : Hid (q = 17) := Lib.hid (by rw [← hq.out]; unfold RS.askReplace; rw [if_neg (by rw [hz2]; simp), if_pos (.inl hi)])
      obtain ⟨hl, hl2⟩ := hR1.innN hoo hi
      replace hz2 := Lib.hid hz2
      replace hz := Lib.hid hz
      replace hi := Lib.hid hi
      go_wp2_with (first | (go_at_call 37; refine (of_any _ y s _ (by first | assumption | exact RollAt.drewN (by assumption) _) (by assumption)).mono ?_; rintro e w' ⟨rfl, rfl⟩) | (go_at_call 38; refine (fresh_any _ y s _ (by first | assumption | exact RollAt.drewN (by assumption) _) (by assumption)).mono ?_; rintro e w' ⟨rfl, rfl⟩; rw [hf.out]) | (go_at_call 122; refine (rules_any _ y s _ (by first | assumption | exact RollAt.drewN (by assumption) _) (by assumption)).mono ?_; rintro e w' ⟨rfl, rfl⟩; rw [hr.out]) | fail)
      go_quiet (first | (go_at_call 37; exact Calls.quietE (of_any _ y s _ (RollAt.drewN (by assumption) _) (by assumption))) | fail)
      go_wp2_with (first | (go_at_call 37; refine (of_any _ y s _ (by first | assumption | exact RollAt.drewN (by assumption) _) (by assumption)).mono ?_; rintro e w' ⟨rfl, rfl⟩) | (go_at_call 38; refine (fresh_any _ y s _ (by first | assumption | exact RollAt.drewN (by assumption) _) (by assumption)).mono ?_; rintro e w' ⟨rfl, rfl⟩; rw [hf.out]) | (go_at_call 122; refine (rules_any _ y s _ (by first | assumption | exact RollAt.drewN (by assumption) _) (by assumption)).mono ?_; rintro e w' ⟨rfl, rfl⟩; rw [hr.out]) | fail)
      go_ret
      exact ⟨ret_int e.out.symm, belowN hB _⟩
    | true =>
      obtain ⟨hl, hl2⟩ := hR1.innN hoo hi
      by_cases hw : ofD o.o = g1
      · have t2 : (ofD o.o != g1) = false := by rw [hw]; exact bne_self_eq_false _
        cases hf : s.fresh o.d with
        | false =>
          have e : Hid (q = 17) := Lib.hid (by rw [← hq.out]; unfold RS.askReplace; rw [if_neg (by rw [hz2]; simp), if_pos (.inr (.inr (.inl hf)))])
          replace hz2 := Lib.hid hz2
          replace hz := Lib.hid hz
          replace hi := Lib.hid hi
          replace hf := Lib.hid hf
          replace hw := Lib.hid hw
          go_wp2_with (first | (go_at_call 37; refine (of_any _ y s _ (by first | assumption | exact RollAt.drewN (by assumption) _) (by assumption)).mono ?_; rintro e w' ⟨rfl, rfl⟩) | (go_at_call 38; refine (fresh_any _ y s _ (by first | assumption | exact RollAt.drewN (by assumption) _) (by assumption)).mono ?_; rintro e w' ⟨rfl, rfl⟩; rw [hf.out]) | (go_at_call 122; refine (rules_any _ y s _ (by first | assumption | exact RollAt.drewN (by assumption) _) (by assumption)).mono ?_; rintro e w' ⟨rfl, rfl⟩; rw [hr.out]) | fail)
          go_quiet (first | (go_at_call 37; exact Calls.quietE (of_any _ y s _ (RollAt.drewN (by assumption) _) (by assumption))) | fail)
          go_wp2_with (first | (go_at_call 37; refine (of_any _ y s _ (by first | assumption | exact RollAt.drewN (by assumption) _) (by assumption)).mono ?_; rintro e w' ⟨rfl, rfl⟩) | (go_at_call 38; refine (fresh_any _ y s _ (by first | assumption | exact RollAt.drewN (by assumption) _) (by assumption)).mono ?_; rintro e w' ⟨rfl, rfl⟩; rw [hf.out]) | (go_at_call 122; refine (rules_any _ y s _ (by first | assumption | exact RollAt.drewN (by assumption) _) (by assumption)).mono ?_; rintro e w' ⟨rfl, rfl⟩; rw [hr.out]) | fail)
          go_ret
          exact ⟨ret_int e.out.symm, belowN hB _⟩
        | true =>
          by_cases hv : ofD o.d = g1
          · have t3 : (ofD o.d != g1) = false := by rw [hv]; exact bne_self_eq_false _
            have hnn : ¬ (s.inB o.o = false ∨ ofD o.o ≠ (s.guards o).1 ∨ s.fresh o.d = false ∨ ofD o.d ≠ (s.guards o).1) := by
              rw [hi, hf, hg1.out, hw, hv]; simp
            have hq2 : Hid (q = if (s.due g1 o.d).2 = 0 ∧ o.a < (s.due g1 o.d).1 then 27 else (s.due g1 o.d).2) := Lib.hid (by rw [← hq.out]; unfold RS.askReplace; rw [if_neg (by rw [hz2]; simp), if_neg hnn, hg1.out])
            replace hnn := Lib.hid hnn
            replace hz2 := Lib.hid hz2
            replace hz := Lib.hid hz
            replace hi := Lib.hid hi
            replace hf := Lib.hid hf
            replace hw := Lib.hid hw
            replace hv := Lib.hid hv
            go_wp2_with (first | (go_at_call 37; refine (of_any _ y s _ (by first | assumption | exact RollAt.drewN (by assumption) _) (by assumption)).mono ?_; rintro e w' ⟨rfl, rfl⟩) | (go_at_call 38; refine (fresh_any _ y s _ (by first | assumption | exact RollAt.drewN (by assumption) _) (by assumption)).mono ?_; rintro e w' ⟨rfl, rfl⟩; rw [hf.out]) | (go_at_call 122; refine (rules_any _ y s _ (by first | assumption | exact RollAt.drewN (by assumption) _) (by assumption)).mono ?_; rintro e w' ⟨rfl, rfl⟩; rw [hr.out]) | fail)
            go_quiet (first | (go_at_call 37; exact Calls.quietE (of_any _ y s _ (RollAt.drewN (by assumption) _) (by assumption))) | fail)
            go_wp2_with (first | (go_at_call 37; refine (of_any _ y s _ (by first | assumption | exact RollAt.drewN (by assumption) _) (by assumption)).mono ?_; rintro e w' ⟨rfl, rfl⟩) | (go_at_call 38; refine (fresh_any _ y s _ (by first | assumption | exact RollAt.drewN (by assumption) _) (by assumption)).mono ?_; rintro e w' ⟨rfl, rfl⟩; rw [hf.out]) | (go_at_call 122; refine (rules_any _ y s _ (by first | assumption | exact RollAt.drewN (by assumption) _) (by assumption)).mono ?_; rintro e w' ⟨rfl, rfl⟩; rw [hr.out]) | fail)
            refine (Due_any _ y s g1 o.d k hk (hR1.drewN _) hs hgo).mono ?_
            rintro e w2 ⟨rfl, hb2⟩
            have hB2 : Below w.heap.size w w2 := (belowN hB _).trans (hb2.mono (belowN hB _).size)
            have k4 := (hO1.below (w' := w2) (B := w1.heap.size) ((belowN (Below.refl _ w1) _).trans hb2) (by have := cell_lt k3; exact this)).ca
            obtain ⟨d1, hd1⟩ : ∃ d1, Hid ((s.due g1 o.d).1 = d1) := ⟨_, Lib.hid rfl⟩
            obtain ⟨d2, hd2⟩ : ∃ d2, Hid ((s.due g1 o.d).2 = d2) := ⟨_, Lib.hid rfl⟩
            rw [hd1.out, hd2.out]
            by_cases hz3 : d2 = 0
            · have t4 : (d2 == 0) = true := beq_iff_eq.2 hz3
              by_cases hlt : o.a < d1
              · have e : Hid (q = 27) := Lib.hid (by rw [hq2.out, if_pos ⟨hd2.out.trans hz3, by rw [hd1.out]; exact hlt⟩])
                replace hz3 := Lib.hid hz3
                go_wp2_with fail
                go_ret
                exact ⟨ret_int e.out.symm, hB2⟩
              · have e : Hid (q = d2) := Lib.hid (by rw [hq2.out, if_neg (by rw [hd1.out]; exact fun h => hlt h.2), hd2.out])
                replace hz3 := Lib.hid hz3
                go_wp2_with fail
                go_ret
                exact ⟨ret_int e.out.symm, hB2⟩
            · have t4 : (d2 == 0) = false := beq_eq_false_iff_ne.2 hz3
              have e : Hid (q = d2) := Lib.hid (by rw [hq2.out, if_neg (by rw [hd2.out]; exact fun h => hz3 h.1), hd2.out])
              clear hz3
              go_wp2_with fail
              go_ret
              exact ⟨ret_int e.out.symm, hB2⟩
          · have t3 : (ofD o.d != g1) = true := bne_iff_ne.2 hv
            have e : Hid (q = 17) := Lib.hid (by rw [← hq.out]; unfold RS.askReplace; rw [if_neg (by rw [hz2]; simp), if_pos (.inr (.inr (.inr (by rw [hg1.out]; exact hv))))])
            replace hz2 := Lib.hid hz2
            replace hz := Lib.hid hz
            replace hi := Lib.hid hi
            replace hf := Lib.hid hf
            replace hw := Lib.hid hw
            clear hv
            go_wp2_with (first | (go_at_call 37; refine (of_any _ y s _ (by first | assumption | exact RollAt.drewN (by assumption) _) (by assumption)).mono ?_; rintro e w' ⟨rfl, rfl⟩) | (go_at_call 38; refine (fresh_any _ y s _ (by first | assumption | exact RollAt.drewN (by assumption) _) (by assumption)).mono ?_; rintro e w' ⟨rfl, rfl⟩; rw [hf.out]) | (go_at_call 122; refine (rules_any _ y s _ (by first | assumption | exact RollAt.drewN (by assumption) _) (by assumption)).mono ?_; rintro e w' ⟨rfl, rfl⟩; rw [hr.out]) | fail)
            go_quiet (first | (go_at_call 37; exact Calls.quietE (of_any _ y s _ (RollAt.drewN (by assumption) _) (by assumption))) | fail)
            go_wp2_with (first | (go_at_call 37; refine (of_any _ y s _ (by first | assumption | exact RollAt.drewN (by assumption) _) (by assumption)).mono ?_; rintro e w' ⟨rfl, rfl⟩) | (go_at_call 38; refine (fresh_any _ y s _ (by first | assumption | exact RollAt.drewN (by assumption) _) (by assumption)).mono ?_; rintro e w' ⟨rfl, rfl⟩; rw [hf.out]) | (go_at_call 122; refine (rules_any _ y s _ (by first | assumption | exact RollAt.drewN (by assumption) _) (by assumption)).mono ?_; rintro e w' ⟨rfl, rfl⟩; rw [hr.out]) | fail)
            go_ret
            exact ⟨ret_int e.out.symm, belowN hB _⟩
      · have t2 : (ofD o.o != g1) = true := bne_iff_ne.2 hw
        have e : Hid (q = 17) := Lib.hid (by rw [← hq.out]; unfold RS.askReplace; rw [if_neg (by rw [hz2]; simp), if_pos (.inr (.inl (by rw [hg1.out]; exact hw)))])
        replace hz2 := Lib.hid hz2
        replace hz := Lib.hid hz
        replace hi := Lib.hid hi
        clear hw
        go_wp2_with (first | (go_at_call 37; refine (of_any _ y s _ (by first | assumption | exact RollAt.drewN (by assumption) _) (by assumption)).mono ?_; rintro e w' ⟨rfl, rfl⟩) | (go_at_call 38; refine (fresh_any _ y s _ (by first | assumption | exact RollAt.drewN (by assumption) _) (by assumption)).mono ?_; rintro e w' ⟨rfl, rfl⟩; rw [hf.out]) | (go_at_call 122; refine (rules_any _ y s _ (by first | assumption | exact RollAt.drewN (by assumption) _) (by assumption)).mono ?_; rintro e w' ⟨rfl, rfl⟩; rw [hr.out]) | fail)
        go_quiet (first | (go_at_call 37; exact Calls.quietE (of_any _ y s _ (RollAt.drewN (by assumption) _) (by assumption))) | fail)
        go_wp2_with (first | (go_at_call 37; refine (of_any _ y s _ (by first | assumption | exact RollAt.drewN (by assumption) _) (by assumption)).mono ?_; rintro e w' ⟨rfl, rfl⟩) | (go_at_call 38; refine (fresh_any _ y s _ (by first | assumption | exact RollAt.drewN (by assumption) _) (by assumption)).mono ?_; rintro e w' ⟨rfl, rfl⟩; rw [hf.out]) | (go_at_call 122; refine (rules_any _ y s _ (by first | assumption | exact RollAt.drewN (by assumption) _) (by assumption)).mono ?_; rintro e w' ⟨rfl, rfl⟩; rw [hr.out]) | fail)
        go_ret
        exact ⟨ret_int e.out.symm, belowN hB _⟩
  · have t1 : (g2 != 0) = true := bne_iff_ne.2 hz
    have e : Hid (q = g2) := Lib.hid (by rw [← hq.out]; unfold RS.askReplace; rw [if_pos (by rw [hg2.out]; exact hz)]; exact hg2.out)
    clear hz
    go_wp2_with (first | (go_at_call 37; refine (of_any _ y s _ (by first | assumption | exact RollAt.drewN (by assumption) _) (by assumption)).mono ?_; rintro e w' ⟨rfl, rfl⟩) | (go_at_call 38; refine (fresh_any _ y s _ (by first | assumption | exact RollAt.drewN (by assumption) _) (by assumption)).mono ?_; rintro e w' ⟨rfl, rfl⟩; rw [hf.out]) | (go_at_call 122; refine (rules_any _ y s _ (by first | assumption | exact RollAt.drewN (by assumption) _) (by assumption)).mono ?_; rintro e w' ⟨rfl, rfl⟩; rw [hr.out]) | fail)
    go_ret
    exact ⟨ret_int e.out.symm, hB⟩
end Go.Proofs.YtkolilbebkkpdaaDoor
