/-
  What a Vouch, and a Replace, are asked first; what a Guard is asked.
-/
import Derived.Test.YtkolilbebkkpdaaDoorRoO
import Derived.Test.YtkolilbebkkpdaaDoorRoA2
namespace Go.Proofs.YtkolilbebkkpdaaDoor
open Go.RowKit Go.Maps

theorem UI.drewN {w : World} {p : Option Addr} {n : Nat} {xs : List Int} (h : UI w p n xs) (k : Nat) : UI (w.drewN k) p n xs := h.below (belowN (Below.refl _ w) k)
theorem same_rec : ∀ {l : List MRec} {x z : MRec}, (l.map MRec.n).Nodup → x ∈ l → z ∈ l → x.n = z.n → x = z := by
  intro l
  induction l with
  | nil => intro x z _ hx; cases hx
  | cons a l ih =>
    intro x z hd hx hz e
    rw [List.map_cons, List.nodup_cons] at hd
    rcases List.mem_cons.1 hx with h1 | h1 <;> rcases List.mem_cons.1 hz with h2 | h2
    · rw [h1, h2]
    · exact absurd (List.mem_map.2 ⟨z, h2, by rw [← e, h1]⟩) hd.1
    · exact absurd (List.mem_map.2 ⟨x, h1, by rw [e, h2]⟩) hd.1
    · exact ih hd.2 h1 h2 e
theorem RollAt.same {w : World} {y : Lay} {s : RS} (h : RollAt w y s) {x z : MRec} (hx : x ∈ y.l) (hz : z ∈ y.l) (e : x.n = z.n) : x = z :=
  same_rec (by have := h.ms.nd; rwa [keys_memV] at this) hx hz e
set_option maxRecDepth 100000 in
theorem guards_any (w : World) (y : Lay) (s : RS) (o : OpI) (gp : Option Addr) (gc : Nat) (k : Nat) (hR : RollAt w y s) (hs : s.Ok k) :
    Calls Tryd.prog 42 #[.pointer (some ⟨y.r, 0, none⟩), .agg (opC o gp gc)] w fun e w' => e = .returned (.tuple #[.int .i64 (s.guards o).1, .int .i64 (s.guards o).2]) ∧ Below w.heap.size w w' := by
  have hb0 := Below.lit w (.cells (opC o gp gc) 42)
  have hR0 := hR.below hb0
  have hO := OpAt.made w o gp gc
  have k1 := hO.cfb
  have k2 := hO.cfs
  have k3 := hO.cfu
  obtain ⟨q, hq⟩ : ∃ q, Hid ((Ending.returned (.tuple #[.int .i64 (s.guards o).1, .int .i64 (s.guards o).2])) = q) := ⟨_, Lib.hid rfl⟩
  rw [hq.out]
  go_enter Tryd.func42, Tryd.ntmps42
  go_wp2_with fail
  refine (whose_any _ y s o.f hR0 hs.ids).mono ?_
  rintro e w1 ⟨rfl, hb1⟩
  rcases s.whose_cases o.f with ⟨h0, _⟩ | ⟨p, hp, hid, h0⟩
  · have e : Hid (q = .returned (.tuple #[.int .i64 0, .int .i64 25])) := Lib.hid (by rw [← hq.out]; unfold RS.guards; rw [if_pos h0])
    replace h0 := Lib.hid h0
    rw [h0.out]
    go_wp2_with fail
    go_ret2
    exact ⟨e.out.symm, hb0.trans (hb1.mono hb0.size)⟩
  · obtain ⟨x, hx, rfl⟩ := hR0.ofS hp
    have hxz := hs.mem _ hp
    simp only at h0 hxz hid
    have hR1 := hR0.below hb1
    have hO1 := hO.below hb1 (by simp)
    have k4 := hO1.cb
    have hnx : i64ok x.n := by unfold i64ok; omega
    have hms : s.memb x.n = some x.m := lk_of_mem hR.msnd hp
    have c3 := hR1.c3
    have hnz : (x.n == 0) = false := beq_eq_false_iff_ne.2 (by omega)
    have hM := hR1.mb x hx
    have q1 := hM.c1
    cases hg : x.m.g with
    | none => rw [hg] at hid; cases hid
    | some d =>
      rw [hg] at q1
      replace q1 : w1.cell? ⟨x.a, 1, none⟩ = some (.pointer (some ⟨x.g, 0, none⟩)) := q1
      have hD := hM.gd d hg
      have g3 := hD.c3
      have hgs := hD.gs
      have hgn : d.gs.length ≤ 9223372036854775806 := Nat.le_trans (hs.gd _ hp d hg).gl (by omega)
      rcases hR1.memN hnx with ⟨h1, _⟩ | ⟨z, hz2, hzn, h1, hl, hl2⟩
      · rw [hms] at h1; cases h1
      · have hza : z.a = x.a := by rw [hR.same hz2 hx hzn]
        rw [hza] at hl hl2
        clear hza
        have hgr : s.guards o = grd1 o x.n (some d) := by
          unfold RS.guards
          rw [h0, if_neg (by omega), hms]
          show grd1 o x.n x.m.g = _
          rw [hg]
        replace h0 := Lib.hid h0
        rw [h0.out]
        by_cases hc : o.b ∈ d.gs
        · have e : Hid (q = .returned (.tuple #[.int .i64 x.n, .int .i64 0])) := Lib.hid (by have e : s.guards o = (x.n, 0) := (by rw [hgr]; exact if_pos hc); rw [← hq.out, e])
          have hr : Hid (true = decide (o.b ∈ d.gs)) := Lib.hid (decide_eq_true hc).symm
          replace hg := Lib.hid hg
          replace hms := Lib.hid hms
          replace h1 := Lib.hid h1
          replace hgr := Lib.hid hgr
          clear hc hid hxz hzn
          go_wp2_with fail
          go_quiet ((go_at_call 73; refine Calls.quietE (Contains_any _ _ d.gs _ _ _ (hgs.drewN _) hgn true hr)))
          go_wp2_with fail
          go_ret2
          exact ⟨e.out.symm, hb0.trans ((belowN hb1 _).mono hb0.size)⟩
        · have e : Hid (q = .returned (.tuple #[.int .i64 0, .int .i64 14])) := Lib.hid (by have e : s.guards o = (0, 14) := (by rw [hgr]; exact if_neg hc); rw [← hq.out, e])
          have hr : Hid (false = decide (o.b ∈ d.gs)) := Lib.hid (decide_eq_false hc).symm
          replace hg := Lib.hid hg
          replace hms := Lib.hid hms
          replace h1 := Lib.hid h1
          replace hgr := Lib.hid hgr
          clear hc hid hxz hzn
          go_wp2_with fail
          go_quiet ((go_at_call 73; exact Calls.quietE (Contains_any _ _ d.gs _ _ _ (hgs.drewN _) hgn false hr)))
          go_wp2_with fail
          go_ret2
          exact ⟨e.out.symm, hb0.trans ((belowN hb1 _).mono hb0.size)⟩
end Go.Proofs.YtkolilbebkkpdaaDoor
