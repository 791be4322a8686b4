/-
  What an Add, a Remove, a Promote, an Erase are asked.
-/
import Derived.Test.YtkolilbebkkpdaaDoorRoJ
namespace Go.Proofs.YtkolilbebkkpdaaDoor
open Go.RowKit Go.Maps

theorem Calls.quietE {P : Program} {f : FuncId} {args : Array Value} {w : World} {n : Nat} {v : Value}
    (h : Calls P f args (w.drewN n) fun e w' => e = .returned v ∧ w.drewN n = w') : Calls P f args (w.drewN n) fun e w'' => e = .returned v ∧ ∃ m, w'' = w.drewN m :=
  h.mono fun _ _ ⟨he, hm⟩ => ⟨he, n, hm.symm⟩
theorem RollAt.innN {w : World} {y : Lay} {s : RS} (h : RollAt w y s) {d : Int} (hd : i64ok d) {b : Bool} (hb : s.inB d = b) :
    (Instr.lookup 78 (.map (some y.i)) (.int .i64 d) false).run Tryd.prog w = .ok (.bool b) w ∧ ∀ n, (Instr.lookup 78 (.map (some y.i)) (.int .i64 d) false).run Tryd.prog (w.drewN n) = .ok (.bool b) (w.drewN n) := by
  subst hb
  exact ⟨h.inn hd, fun n => (h.drewN n).inn hd⟩
theorem RollAt.memN {w : World} {y : Lay} {s : RS} (h : RollAt w y s) {n : Int} (hn : i64ok n) :
    (s.memb n = none ∧ (Instr.lookup 79 (.map (some y.m)) (.int .i64 n) false).run Tryd.prog w = .ok (.pointer none) w ∧ ∀ k, (Instr.lookup 79 (.map (some y.m)) (.int .i64 n) false).run Tryd.prog (w.drewN k) = .ok (.pointer none) (w.drewN k)) ∨
    ∃ x ∈ y.l, x.n = n ∧ s.memb n = some x.m ∧ (Instr.lookup 79 (.map (some y.m)) (.int .i64 n) false).run Tryd.prog w = .ok (.pointer (some ⟨x.a, 0, none⟩)) w ∧ ∀ k, (Instr.lookup 79 (.map (some y.m)) (.int .i64 n) false).run Tryd.prog (w.drewN k) = .ok (.pointer (some ⟨x.a, 0, none⟩)) (w.drewN k) := by
  have hl := fun w' (hR : RollAt w' y s) => hR.ms.look (K := KI) Tryd.underlying79 (zero_ptr w') hn
  unfold RS.memb
  rw [← h.eq]
  rcases lay_look (l := y.l) (n := n) with ⟨h1, h2⟩ | ⟨x, hx, h1, h2, h3⟩
  · rw [h2] at hl; exact .inl ⟨h1, hl _ h, fun k => hl _ (h.drewN k)⟩
  · rw [h3] at hl; exact .inr ⟨x, hx, h1, h2, hl _ h, fun k => hl _ (h.drewN k)⟩
set_option maxRecDepth 100000 in
theorem askAdd_any (w : World) (y : Lay) (s : RS) (o : OpI) (gp : Option Addr) (gc : Nat) (m : Int) (hR : RollAt w y s) (hm : i64ok m) (ho : o.Ok) :
    Calls Tryd.prog 121 #[.pointer (some ⟨y.r, 0, none⟩), .agg (opC o gp gc), .int .i64 m] w fun e w' => e = .returned (.int .i64 (s.askAdd o m)) ∧ Below w.heap.size w w' := by
  have hb0 := Below.lit w (.cells (opC o gp gc) 42)
  have hR0 := hR.below hb0
  have hO := OpAt.made w o gp gc
  have hd := i64_small ho.hd
  have hmm := i64_small ho.hm
  have hfb := i64_small ho.hfb
  have k1 := hO.cd
  have k2 := hO.cm
  have k3 := hO.cfb
  have c1 := hR0.c1
  have c3 := hR0.c3
  obtain ⟨q, hq⟩ : ∃ q, Hid (s.askAdd o m = q) := ⟨_, Lib.hid rfl⟩
  rw [hq.out]
  cases hf : s.fresh o.d with
  | false =>
    have e : Hid (q = 17) := Lib.hid (by rw [← hq.out]; exact if_pos hf)
    replace hf := Lib.hid hf
    go_enter Tryd.func121, Tryd.ntmps121
    go_wp2_with (first | (go_at_call 37; refine (of_any _ y s _ (by first | assumption | exact RollAt.drewN (by assumption) _) (by assumption)).mono ?_; rintro e w' ⟨rfl, rfl⟩) | (go_at_call 38; refine (fresh_any _ y s _ (by first | assumption | exact RollAt.drewN (by assumption) _) (by assumption)).mono ?_; rintro e w' ⟨rfl, rfl⟩; rw [hf.out]) | (go_at_call 122; refine (rules_any _ y s _ (by first | assumption | exact RollAt.drewN (by assumption) _) (by assumption)).mono ?_; rintro e w' ⟨rfl, rfl⟩; rw [hr.out]) | fail)
    go_ret
    exact ⟨ret_int e.out.symm, hb0⟩
  | true =>
    cases hr : s.rules m with
    | true =>
      have e : Hid (q = 0) := Lib.hid (by rw [← hq.out]; unfold RS.askAdd; rw [if_neg (by rw [hf]; simp), if_neg (by rw [hr]; simp)])
      replace hf := Lib.hid hf
      replace hr := Lib.hid hr
      go_enter Tryd.func121, Tryd.ntmps121
      go_wp2_with (first | (go_at_call 37; refine (of_any _ y s _ (by first | assumption | exact RollAt.drewN (by assumption) _) (by assumption)).mono ?_; rintro e w' ⟨rfl, rfl⟩) | (go_at_call 38; refine (fresh_any _ y s _ (by first | assumption | exact RollAt.drewN (by assumption) _) (by assumption)).mono ?_; rintro e w' ⟨rfl, rfl⟩; rw [hf.out]) | (go_at_call 122; refine (rules_any _ y s _ (by first | assumption | exact RollAt.drewN (by assumption) _) (by assumption)).mono ?_; rintro e w' ⟨rfl, rfl⟩; rw [hr.out]) | fail)
      go_ret
      exact ⟨ret_int e.out.symm, hb0⟩
    | false =>
      by_cases hof : ofD o.d = m
      · have t : (ofD o.d != m) = false := by rw [hof]; exact bne_self_eq_false _
        have e : Hid (q = 0) := Lib.hid (by rw [← hq.out]; unfold RS.askAdd; rw [if_neg (by rw [hf]; simp), if_neg (by rw [hof]; simp)])
        replace hf := Lib.hid hf
        replace hr := Lib.hid hr
        clear hof
        go_enter Tryd.func121, Tryd.ntmps121
        go_wp2_with (first | (go_at_call 37; refine (of_any _ y s _ (by first | assumption | exact RollAt.drewN (by assumption) _) (by assumption)).mono ?_; rintro e w' ⟨rfl, rfl⟩) | (go_at_call 38; refine (fresh_any _ y s _ (by first | assumption | exact RollAt.drewN (by assumption) _) (by assumption)).mono ?_; rintro e w' ⟨rfl, rfl⟩; rw [hf.out]) | (go_at_call 122; refine (rules_any _ y s _ (by first | assumption | exact RollAt.drewN (by assumption) _) (by assumption)).mono ?_; rintro e w' ⟨rfl, rfl⟩; rw [hr.out]) | fail)
        go_ret
        exact ⟨ret_int e.out.symm, hb0⟩
      · have t : (ofD o.d != m) = true := bne_iff_ne.2 hof
        have e : Hid (q = 14) := Lib.hid (by rw [← hq.out]; unfold RS.askAdd; rw [if_neg (by rw [hf]; simp), if_pos ⟨hr, hof⟩])
        replace hf := Lib.hid hf
        replace hr := Lib.hid hr
        clear hof
        go_enter Tryd.func121, Tryd.ntmps121
        go_wp2_with (first | (go_at_call 37; refine (of_any _ y s _ (by first | assumption | exact RollAt.drewN (by assumption) _) (by assumption)).mono ?_; rintro e w' ⟨rfl, rfl⟩) | (go_at_call 38; refine (fresh_any _ y s _ (by first | assumption | exact RollAt.drewN (by assumption) _) (by assumption)).mono ?_; rintro e w' ⟨rfl, rfl⟩; rw [hf.out]) | (go_at_call 122; refine (rules_any _ y s _ (by first | assumption | exact RollAt.drewN (by assumption) _) (by assumption)).mono ?_; rintro e w' ⟨rfl, rfl⟩; rw [hr.out]) | fail)
        go_ret
        exact ⟨ret_int e.out.symm, hb0⟩
set_option maxRecDepth 100000 in
theorem askPromote_any (w : World) (y : Lay) (s : RS) (o : OpI) (gp : Option Addr) (gc : Nat) (m : Int) (hR : RollAt w y s) (hm : i64ok m) (ho : o.Ok) :
    Calls Tryd.prog 124 #[.pointer (some ⟨y.r, 0, none⟩), .agg (opC o gp gc), .int .i64 m] w fun e w' => e = .returned (.int .i64 (s.askPromote o m)) ∧ Below w.heap.size w w' := by
  have hb0 := Below.lit w (.cells (opC o gp gc) 42)
  have hR0 := hR.below hb0
  have hO := OpAt.made w o gp gc
  have hd := i64_small ho.hd
  have hmm := i64_small ho.hm
  have hfb := i64_small ho.hfb
  have k1 := hO.cd
  have k2 := hO.cm
  have k3 := hO.cfb
  have c1 := hR0.c1
  have c3 := hR0.c3
  obtain ⟨q, hq⟩ : ∃ q, Hid (s.askPromote o m = q) := ⟨_, Lib.hid rfl⟩
  rw [hq.out]
  cases hr : s.rules m with
  | false =>
    have e : Hid (q = 14) := Lib.hid (by rw [← hq.out]; exact if_pos hr)
    replace hr := Lib.hid hr
    go_enter Tryd.func124, Tryd.ntmps124
    go_wp2_with (first | (go_at_call 37; refine (of_any _ y s _ (by first | assumption | exact RollAt.drewN (by assumption) _) (by assumption)).mono ?_; rintro e w' ⟨rfl, rfl⟩) | (go_at_call 38; refine (fresh_any _ y s _ (by first | assumption | exact RollAt.drewN (by assumption) _) (by assumption)).mono ?_; rintro e w' ⟨rfl, rfl⟩; rw [hf.out]) | (go_at_call 122; refine (rules_any _ y s _ (by first | assumption | exact RollAt.drewN (by assumption) _) (by assumption)).mono ?_; rintro e w' ⟨rfl, rfl⟩; rw [hr.out]) | fail)
    go_ret
    exact ⟨ret_int e.out.symm, hb0⟩
  | true =>
    rcases hR0.memN hmm with ⟨h1, hl, hl2⟩ | ⟨x, hx, hxn, h1, hl, hl2⟩
    · have e : Hid (q = 16) := Lib.hid (by rw [← hq.out]; unfold RS.askPromote; rw [if_neg (by rw [hr]; simp), if_pos h1])
      replace hr := Lib.hid hr
      go_enter Tryd.func124, Tryd.ntmps124
      go_wp2_with (first | (go_at_call 37; refine (of_any _ y s _ (by first | assumption | exact RollAt.drewN (by assumption) _) (by assumption)).mono ?_; rintro e w' ⟨rfl, rfl⟩) | (go_at_call 38; refine (fresh_any _ y s _ (by first | assumption | exact RollAt.drewN (by assumption) _) (by assumption)).mono ?_; rintro e w' ⟨rfl, rfl⟩; rw [hf.out]) | (go_at_call 122; refine (rules_any _ y s _ (by first | assumption | exact RollAt.drewN (by assumption) _) (by assumption)).mono ?_; rintro e w' ⟨rfl, rfl⟩; rw [hr.out]) | fail)
      go_quiet (first | (go_at_call 37; exact Calls.quietE (of_any _ y s _ (RollAt.drewN (by assumption) _) (by assumption))) | fail)
      go_wp2_with (first | (go_at_call 37; refine (of_any _ y s _ (by first | assumption | exact RollAt.drewN (by assumption) _) (by assumption)).mono ?_; rintro e w' ⟨rfl, rfl⟩) | (go_at_call 38; refine (fresh_any _ y s _ (by first | assumption | exact RollAt.drewN (by assumption) _) (by assumption)).mono ?_; rintro e w' ⟨rfl, rfl⟩; rw [hf.out]) | (go_at_call 122; refine (rules_any _ y s _ (by first | assumption | exact RollAt.drewN (by assumption) _) (by assumption)).mono ?_; rintro e w' ⟨rfl, rfl⟩; rw [hr.out]) | fail)
      go_ret
      exact ⟨ret_int e.out.symm, belowN hb0 _⟩
    · have e : Hid (q = 0) := Lib.hid (by rw [← hq.out]; unfold RS.askPromote; rw [if_neg (by rw [hr]; simp), if_neg (by rw [h1]; simp)])
      replace hr := Lib.hid hr
      clear hxn
      replace h1 := Lib.hid h1
      go_enter Tryd.func124, Tryd.ntmps124
      go_wp2_with (first | (go_at_call 37; refine (of_any _ y s _ (by first | assumption | exact RollAt.drewN (by assumption) _) (by assumption)).mono ?_; rintro e w' ⟨rfl, rfl⟩) | (go_at_call 38; refine (fresh_any _ y s _ (by first | assumption | exact RollAt.drewN (by assumption) _) (by assumption)).mono ?_; rintro e w' ⟨rfl, rfl⟩; rw [hf.out]) | (go_at_call 122; refine (rules_any _ y s _ (by first | assumption | exact RollAt.drewN (by assumption) _) (by assumption)).mono ?_; rintro e w' ⟨rfl, rfl⟩; rw [hr.out]) | fail)
      go_quiet (first | (go_at_call 37; exact Calls.quietE (of_any _ y s _ (RollAt.drewN (by assumption) _) (by assumption))) | fail)
      go_wp2_with (first | (go_at_call 37; refine (of_any _ y s _ (by first | assumption | exact RollAt.drewN (by assumption) _) (by assumption)).mono ?_; rintro e w' ⟨rfl, rfl⟩) | (go_at_call 38; refine (fresh_any _ y s _ (by first | assumption | exact RollAt.drewN (by assumption) _) (by assumption)).mono ?_; rintro e w' ⟨rfl, rfl⟩; rw [hf.out]) | (go_at_call 122; refine (rules_any _ y s _ (by first | assumption | exact RollAt.drewN (by assumption) _) (by assumption)).mono ?_; rintro e w' ⟨rfl, rfl⟩; rw [hr.out]) | fail)
      go_ret
      exact ⟨ret_int e.out.symm, belowN hb0 _⟩
set_option maxRecDepth 100000 in
theorem askErase_any (w : World) (y : Lay) (s : RS) (o : OpI) (gp : Option Addr) (gc : Nat) (m : Int) (hR : RollAt w y s) (hm : i64ok m) (ho : o.Ok) :
    Calls Tryd.prog 126 #[.pointer (some ⟨y.r, 0, none⟩), .agg (opC o gp gc), .int .i64 m] w fun e w' => e = .returned (.int .i64 (s.askErase o m)) ∧ Below w.heap.size w w' := by
  have hb0 := Below.lit w (.cells (opC o gp gc) 42)
  have hR0 := hR.below hb0
  have hO := OpAt.made w o gp gc
  have hd := i64_small ho.hd
  have hmm := i64_small ho.hm
  have hfb := i64_small ho.hfb
  have k1 := hO.cd
  have k2 := hO.cm
  have k3 := hO.cfb
  have c1 := hR0.c1
  have c3 := hR0.c3
  obtain ⟨q, hq⟩ : ∃ q, Hid (s.askErase o m = q) := ⟨_, Lib.hid rfl⟩
  rw [hq.out]
  cases hr : s.rules m with
  | true =>
    have e : Hid (q = 0) := Lib.hid (by rw [← hq.out]; unfold RS.askErase; rw [if_neg (by rw [hr]; simp)])
    replace hr := Lib.hid hr
    go_enter Tryd.func126, Tryd.ntmps126
    go_wp2_with (first | (go_at_call 37; refine (of_any _ y s _ (by first | assumption | exact RollAt.drewN (by assumption) _) (by assumption)).mono ?_; rintro e w' ⟨rfl, rfl⟩) | (go_at_call 38; refine (fresh_any _ y s _ (by first | assumption | exact RollAt.drewN (by assumption) _) (by assumption)).mono ?_; rintro e w' ⟨rfl, rfl⟩; rw [hf.out]) | (go_at_call 122; refine (rules_any _ y s _ (by first | assumption | exact RollAt.drewN (by assumption) _) (by assumption)).mono ?_; rintro e w' ⟨rfl, rfl⟩; rw [hr.out]) | fail)
    go_ret
    exact ⟨ret_int e.out.symm, hb0⟩
  | false =>
    by_cases hof : ofD o.f.b = m
    · have t : (ofD o.f.b != m) = false := by rw [hof]; exact bne_self_eq_false _
      have e : Hid (q = 0) := Lib.hid (by rw [← hq.out]; unfold RS.askErase; rw [if_neg (by rw [hof]; simp)])
      replace hr := Lib.hid hr
      clear hof
      go_enter Tryd.func126, Tryd.ntmps126
      go_wp2_with (first | (go_at_call 37; refine (of_any _ y s _ (by first | assumption | exact RollAt.drewN (by assumption) _) (by assumption)).mono ?_; rintro e w' ⟨rfl, rfl⟩) | (go_at_call 38; refine (fresh_any _ y s _ (by first | assumption | exact RollAt.drewN (by assumption) _) (by assumption)).mono ?_; rintro e w' ⟨rfl, rfl⟩; rw [hf.out]) | (go_at_call 122; refine (rules_any _ y s _ (by first | assumption | exact RollAt.drewN (by assumption) _) (by assumption)).mono ?_; rintro e w' ⟨rfl, rfl⟩; rw [hr.out]) | fail)
      go_ret
      exact ⟨ret_int e.out.symm, hb0⟩
    · have t : (ofD o.f.b != m) = true := bne_iff_ne.2 hof
      have e : Hid (q = 14) := Lib.hid (by rw [← hq.out]; unfold RS.askErase; exact if_pos ⟨hr, hof⟩)
      replace hr := Lib.hid hr
      clear hof
      go_enter Tryd.func126, Tryd.ntmps126
      go_wp2_with (first | (go_at_call 37; refine (of_any _ y s _ (by first | assumption | exact RollAt.drewN (by assumption) _) (by assumption)).mono ?_; rintro e w' ⟨rfl, rfl⟩) | (go_at_call 38; refine (fresh_any _ y s _ (by first | assumption | exact RollAt.drewN (by assumption) _) (by assumption)).mono ?_; rintro e w' ⟨rfl, rfl⟩; rw [hf.out]) | (go_at_call 122; refine (rules_any _ y s _ (by first | assumption | exact RollAt.drewN (by assumption) _) (by assumption)).mono ?_; rintro e w' ⟨rfl, rfl⟩; rw [hr.out]) | fail)
      go_ret
      exact ⟨ret_int e.out.symm, hb0⟩
set_option maxRecDepth 100000 in
theorem askRemove_any (w : World) (y : Lay) (s : RS) (o : OpI) (gp : Option Addr) (gc : Nat) (m : Int) (hR : RollAt w y s) (hm : i64ok m) (ho : o.Ok) :
    Calls Tryd.prog 123 #[.pointer (some ⟨y.r, 0, none⟩), .agg (opC o gp gc), .int .i64 m] w fun e w' => e = .returned (.int .i64 (s.askRemove o m)) ∧ Below w.heap.size w w' := by
  have hb0 := Below.lit w (.cells (opC o gp gc) 42)
  have hR0 := hR.below hb0
  have hO := OpAt.made w o gp gc
  have hd := i64_small ho.hd
  have hmm := i64_small ho.hm
  have hfb := i64_small ho.hfb
  have k1 := hO.cd
  have k2 := hO.cm
  have k3 := hO.cfb
  have c1 := hR0.c1
  have c3 := hR0.c3
  obtain ⟨q, hq⟩ : ∃ q, Hid (s.askRemove o m = q) := ⟨_, Lib.hid rfl⟩
  rw [hq.out]
  by_cases h0 : o.d = 0
  · have t0 : (o.d != 0) = false := by rw [h0]; rfl
    rcases hR0.memN hmm with ⟨h1, hl, hl2⟩ | ⟨x, hx, hxn, h1, hl, hl2⟩
    · have e : Hid (q = 16) := Lib.hid (by rw [← hq.out]; unfold RS.askRemove; rw [if_neg (by simpa using h0), if_pos h1])
      replace h0 := Lib.hid h0
      go_enter Tryd.func123, Tryd.ntmps123
      go_wp2_with (first | (go_at_call 37; refine (of_any _ y s _ (by first | assumption | exact RollAt.drewN (by assumption) _) (by assumption)).mono ?_; rintro e w' ⟨rfl, rfl⟩) | (go_at_call 38; refine (fresh_any _ y s _ (by first | assumption | exact RollAt.drewN (by assumption) _) (by assumption)).mono ?_; rintro e w' ⟨rfl, rfl⟩; rw [hf.out]) | (go_at_call 122; refine (rules_any _ y s _ (by first | assumption | exact RollAt.drewN (by assumption) _) (by assumption)).mono ?_; rintro e w' ⟨rfl, rfl⟩; rw [hr.out]) | fail)
      go_quiet (first | (go_at_call 37; exact Calls.quietE (of_any _ y s _ (RollAt.drewN (by assumption) _) (by assumption))) | fail)
      go_wp2_with (first | (go_at_call 37; refine (of_any _ y s _ (by first | assumption | exact RollAt.drewN (by assumption) _) (by assumption)).mono ?_; rintro e w' ⟨rfl, rfl⟩) | (go_at_call 38; refine (fresh_any _ y s _ (by first | assumption | exact RollAt.drewN (by assumption) _) (by assumption)).mono ?_; rintro e w' ⟨rfl, rfl⟩; rw [hf.out]) | (go_at_call 122; refine (rules_any _ y s _ (by first | assumption | exact RollAt.drewN (by assumption) _) (by assumption)).mono ?_; rintro e w' ⟨rfl, rfl⟩; rw [hr.out]) | fail)
      go_ret
      exact ⟨ret_int e.out.symm, belowN hb0 _⟩
    · clear hxn
      cases hr : s.rules m with
      | true =>
        have e : Hid (q = 0) := Lib.hid (by rw [← hq.out]; unfold RS.askRemove; rw [if_neg (by simpa using h0), if_neg (by rw [h1]; simp), if_neg (by rw [hr]; simp)])
        replace h0 := Lib.hid h0
        replace hr := Lib.hid hr
        replace h1 := Lib.hid h1
        go_enter Tryd.func123, Tryd.ntmps123
        go_wp2_with (first | (go_at_call 37; refine (of_any _ y s _ (by first | assumption | exact RollAt.drewN (by assumption) _) (by assumption)).mono ?_; rintro e w' ⟨rfl, rfl⟩) | (go_at_call 38; refine (fresh_any _ y s _ (by first | assumption | exact RollAt.drewN (by assumption) _) (by assumption)).mono ?_; rintro e w' ⟨rfl, rfl⟩; rw [hf.out]) | (go_at_call 122; refine (rules_any _ y s _ (by first | assumption | exact RollAt.drewN (by assumption) _) (by assumption)).mono ?_; rintro e w' ⟨rfl, rfl⟩; rw [hr.out]) | fail)
        go_quiet (first | (go_at_call 37; exact Calls.quietE (of_any _ y s _ (RollAt.drewN (by assumption) _) (by assumption))) | fail)
        go_wp2_with (first | (go_at_call 37; refine (of_any _ y s _ (by first | assumption | exact RollAt.drewN (by assumption) _) (by assumption)).mono ?_; rintro e w' ⟨rfl, rfl⟩) | (go_at_call 38; refine (fresh_any _ y s _ (by first | assumption | exact RollAt.drewN (by assumption) _) (by assumption)).mono ?_; rintro e w' ⟨rfl, rfl⟩; rw [hf.out]) | (go_at_call 122; refine (rules_any _ y s _ (by first | assumption | exact RollAt.drewN (by assumption) _) (by assumption)).mono ?_; rintro e w' ⟨rfl, rfl⟩; rw [hr.out]) | fail)
        go_ret
        exact ⟨ret_int e.out.symm, belowN hb0 _⟩
      | false =>
        by_cases hof : o.m = m
        · have t : (o.m != m) = false := by rw [hof]; exact bne_self_eq_false _
          have e : Hid (q = 0) := Lib.hid (by rw [← hq.out]; unfold RS.askRemove; rw [if_neg (by simpa using h0), if_neg (by rw [h1]; simp), if_neg (by rw [hof]; simp)])
          replace h0 := Lib.hid h0
          replace hr := Lib.hid hr
          replace h1 := Lib.hid h1
          clear hof
          go_enter Tryd.func123, Tryd.ntmps123
          go_wp2_with (first | (go_at_call 37; refine (of_any _ y s _ (by first | assumption | exact RollAt.drewN (by assumption) _) (by assumption)).mono ?_; rintro e w' ⟨rfl, rfl⟩) | (go_at_call 38; refine (fresh_any _ y s _ (by first | assumption | exact RollAt.drewN (by assumption) _) (by assumption)).mono ?_; rintro e w' ⟨rfl, rfl⟩; rw [hf.out]) | (go_at_call 122; refine (rules_any _ y s _ (by first | assumption | exact RollAt.drewN (by assumption) _) (by assumption)).mono ?_; rintro e w' ⟨rfl, rfl⟩; rw [hr.out]) | fail)
          go_quiet (first | (go_at_call 37; exact Calls.quietE (of_any _ y s _ (RollAt.drewN (by assumption) _) (by assumption))) | fail)
          go_wp2_with (first | (go_at_call 37; refine (of_any _ y s _ (by first | assumption | exact RollAt.drewN (by assumption) _) (by assumption)).mono ?_; rintro e w' ⟨rfl, rfl⟩) | (go_at_call 38; refine (fresh_any _ y s _ (by first | assumption | exact RollAt.drewN (by assumption) _) (by assumption)).mono ?_; rintro e w' ⟨rfl, rfl⟩; rw [hf.out]) | (go_at_call 122; refine (rules_any _ y s _ (by first | assumption | exact RollAt.drewN (by assumption) _) (by assumption)).mono ?_; rintro e w' ⟨rfl, rfl⟩; rw [hr.out]) | fail)
          go_ret
          exact ⟨ret_int e.out.symm, belowN hb0 _⟩
        · have t : (o.m != m) = true := bne_iff_ne.2 hof
          have e : Hid (q = 14) := Lib.hid (by rw [← hq.out]; unfold RS.askRemove; rw [if_neg (by simpa using h0), if_neg (by rw [h1]; simp), if_pos ⟨hr, hof⟩])
          replace h0 := Lib.hid h0
          replace hr := Lib.hid hr
          replace h1 := Lib.hid h1
          clear hof
          go_enter Tryd.func123, Tryd.ntmps123
          go_wp2_with (first | (go_at_call 37; refine (of_any _ y s _ (by first | assumption | exact RollAt.drewN (by assumption) _) (by assumption)).mono ?_; rintro e w' ⟨rfl, rfl⟩) | (go_at_call 38; refine (fresh_any _ y s _ (by first | assumption | exact RollAt.drewN (by assumption) _) (by assumption)).mono ?_; rintro e w' ⟨rfl, rfl⟩; rw [hf.out]) | (go_at_call 122; refine (rules_any _ y s _ (by first | assumption | exact RollAt.drewN (by assumption) _) (by assumption)).mono ?_; rintro e w' ⟨rfl, rfl⟩; rw [hr.out]) | fail)
          go_quiet (first | (go_at_call 37; exact Calls.quietE (of_any _ y s _ (RollAt.drewN (by assumption) _) (by assumption))) | fail)
          go_wp2_with (first | (go_at_call 37; refine (of_any _ y s _ (by first | assumption | exact RollAt.drewN (by assumption) _) (by assumption)).mono ?_; rintro e w' ⟨rfl, rfl⟩) | (go_at_call 38; refine (fresh_any _ y s _ (by first | assumption | exact RollAt.drewN (by assumption) _) (by assumption)).mono ?_; rintro e w' ⟨rfl, rfl⟩; rw [hf.out]) | (go_at_call 122; refine (rules_any _ y s _ (by first | assumption | exact RollAt.drewN (by assumption) _) (by assumption)).mono ?_; rintro e w' ⟨rfl, rfl⟩; rw [hr.out]) | fail)
          go_ret
          exact ⟨ret_int e.out.symm, belowN hb0 _⟩
  · have t0 : (o.d != 0) = true := bne_iff_ne.2 h0
    cases hi : s.inB o.d with
    | false =>
      have e : Hid (q = 17) := Lib.hid (by rw [← hq.out]; unfold RS.askRemove; rw [if_pos h0, if_pos hi])
      obtain ⟨hl, hl2⟩ := hR0.innN hd hi
      replace h0 := Lib.hid h0
      replace hi := Lib.hid hi
      go_enter Tryd.func123, Tryd.ntmps123
      go_wp2_with (first | (go_at_call 37; refine (of_any _ y s _ (by first | assumption | exact RollAt.drewN (by assumption) _) (by assumption)).mono ?_; rintro e w' ⟨rfl, rfl⟩) | (go_at_call 38; refine (fresh_any _ y s _ (by first | assumption | exact RollAt.drewN (by assumption) _) (by assumption)).mono ?_; rintro e w' ⟨rfl, rfl⟩; rw [hf.out]) | (go_at_call 122; refine (rules_any _ y s _ (by first | assumption | exact RollAt.drewN (by assumption) _) (by assumption)).mono ?_; rintro e w' ⟨rfl, rfl⟩; rw [hr.out]) | fail)
      go_quiet (first | (go_at_call 37; exact Calls.quietE (of_any _ y s _ (RollAt.drewN (by assumption) _) (by assumption))) | fail)
      go_wp2_with (first | (go_at_call 37; refine (of_any _ y s _ (by first | assumption | exact RollAt.drewN (by assumption) _) (by assumption)).mono ?_; rintro e w' ⟨rfl, rfl⟩) | (go_at_call 38; refine (fresh_any _ y s _ (by first | assumption | exact RollAt.drewN (by assumption) _) (by assumption)).mono ?_; rintro e w' ⟨rfl, rfl⟩; rw [hf.out]) | (go_at_call 122; refine (rules_any _ y s _ (by first | assumption | exact RollAt.drewN (by assumption) _) (by assumption)).mono ?_; rintro e w' ⟨rfl, rfl⟩; rw [hr.out]) | fail)
      go_ret
      exact ⟨ret_int e.out.symm, belowN hb0 _⟩
    | true =>
      cases hr : s.rules m with
      | true =>
        have e : Hid (q = 0) := Lib.hid (by rw [← hq.out]; unfold RS.askRemove; rw [if_pos h0, if_neg (by rw [hi]; simp), if_neg (by rw [hr]; simp)])
        obtain ⟨hl, hl2⟩ := hR0.innN hd hi
        replace h0 := Lib.hid h0
        replace hr := Lib.hid hr
        replace hi := Lib.hid hi
        go_enter Tryd.func123, Tryd.ntmps123
        go_wp2_with (first | (go_at_call 37; refine (of_any _ y s _ (by first | assumption | exact RollAt.drewN (by assumption) _) (by assumption)).mono ?_; rintro e w' ⟨rfl, rfl⟩) | (go_at_call 38; refine (fresh_any _ y s _ (by first | assumption | exact RollAt.drewN (by assumption) _) (by assumption)).mono ?_; rintro e w' ⟨rfl, rfl⟩; rw [hf.out]) | (go_at_call 122; refine (rules_any _ y s _ (by first | assumption | exact RollAt.drewN (by assumption) _) (by assumption)).mono ?_; rintro e w' ⟨rfl, rfl⟩; rw [hr.out]) | fail)
        go_quiet (first | (go_at_call 37; exact Calls.quietE (of_any _ y s _ (RollAt.drewN (by assumption) _) (by assumption))) | fail)
        go_wp2_with (first | (go_at_call 37; refine (of_any _ y s _ (by first | assumption | exact RollAt.drewN (by assumption) _) (by assumption)).mono ?_; rintro e w' ⟨rfl, rfl⟩) | (go_at_call 38; refine (fresh_any _ y s _ (by first | assumption | exact RollAt.drewN (by assumption) _) (by assumption)).mono ?_; rintro e w' ⟨rfl, rfl⟩; rw [hf.out]) | (go_at_call 122; refine (rules_any _ y s _ (by first | assumption | exact RollAt.drewN (by assumption) _) (by assumption)).mono ?_; rintro e w' ⟨rfl, rfl⟩; rw [hr.out]) | fail)
        go_ret
        exact ⟨ret_int e.out.symm, belowN hb0 _⟩
      | false =>
        by_cases hof : ofD o.d = m
        · have t : (ofD o.d != m) = false := by rw [hof]; exact bne_self_eq_false _
          have e : Hid (q = 0) := Lib.hid (by rw [← hq.out]; unfold RS.askRemove; rw [if_pos h0, if_neg (by rw [hi]; simp), if_neg (by rw [hof]; simp)])
          obtain ⟨hl, hl2⟩ := hR0.innN hd hi
          replace h0 := Lib.hid h0
          replace hr := Lib.hid hr
          replace hi := Lib.hid hi
          clear hof
          go_enter Tryd.func123, Tryd.ntmps123
          go_wp2_with (first | (go_at_call 37; refine (of_any _ y s _ (by first | assumption | exact RollAt.drewN (by assumption) _) (by assumption)).mono ?_; rintro e w' ⟨rfl, rfl⟩) | (go_at_call 38; refine (fresh_any _ y s _ (by first | assumption | exact RollAt.drewN (by assumption) _) (by assumption)).mono ?_; rintro e w' ⟨rfl, rfl⟩; rw [hf.out]) | (go_at_call 122; refine (rules_any _ y s _ (by first | assumption | exact RollAt.drewN (by assumption) _) (by assumption)).mono ?_; rintro e w' ⟨rfl, rfl⟩; rw [hr.out]) | fail)
          go_quiet (first | (go_at_call 37; exact Calls.quietE (of_any _ y s _ (RollAt.drewN (by assumption) _) (by assumption))) | fail)
          go_wp2_with (first | (go_at_call 37; refine (of_any _ y s _ (by first | assumption | exact RollAt.drewN (by assumption) _) (by assumption)).mono ?_; rintro e w' ⟨rfl, rfl⟩) | (go_at_call 38; refine (fresh_any _ y s _ (by first | assumption | exact RollAt.drewN (by assumption) _) (by assumption)).mono ?_; rintro e w' ⟨rfl, rfl⟩; rw [hf.out]) | (go_at_call 122; refine (rules_any _ y s _ (by first | assumption | exact RollAt.drewN (by assumption) _) (by assumption)).mono ?_; rintro e w' ⟨rfl, rfl⟩; rw [hr.out]) | fail)
          go_ret
          exact ⟨ret_int e.out.symm, belowN hb0 _⟩
        · have t : (ofD o.d != m) = true := bne_iff_ne.2 hof
          have e : Hid (q = 14) := Lib.hid (by rw [← hq.out]; unfold RS.askRemove; rw [if_pos h0, if_neg (by rw [hi]; simp), if_pos ⟨hr, hof⟩])
          obtain ⟨hl, hl2⟩ := hR0.innN hd hi
          replace h0 := Lib.hid h0
          replace hr := Lib.hid hr
          replace hi := Lib.hid hi
          clear hof
          go_enter Tryd.func123, Tryd.ntmps123
          go_wp2_with (first | (go_at_call 37; refine (of_any _ y s _ (by first | assumption | exact RollAt.drewN (by assumption) _) (by assumption)).mono ?_; rintro e w' ⟨rfl, rfl⟩) | (go_at_call 38; refine (fresh_any _ y s _ (by first | assumption | exact RollAt.drewN (by assumption) _) (by assumption)).mono ?_; rintro e w' ⟨rfl, rfl⟩; rw [hf.out]) | (go_at_call 122; refine (rules_any _ y s _ (by first | assumption | exact RollAt.drewN (by assumption) _) (by assumption)).mono ?_; rintro e w' ⟨rfl, rfl⟩; rw [hr.out]) | fail)
          go_quiet (first | (go_at_call 37; exact Calls.quietE (of_any _ y s _ (RollAt.drewN (by assumption) _) (by assumption))) | fail)
          go_wp2_with (first | (go_at_call 37; refine (of_any _ y s _ (by first | assumption | exact RollAt.drewN (by assumption) _) (by assumption)).mono ?_; rintro e w' ⟨rfl, rfl⟩) | (go_at_call 38; refine (fresh_any _ y s _ (by first | assumption | exact RollAt.drewN (by assumption) _) (by assumption)).mono ?_; rintro e w' ⟨rfl, rfl⟩; rw [hf.out]) | (go_at_call 122; refine (rules_any _ y s _ (by first | assumption | exact RollAt.drewN (by assumption) _) (by assumption)).mono ?_; rintro e w' ⟨rfl, rfl⟩; rw [hr.out]) | fail)
          go_ret
          exact ⟨ret_int e.out.symm, belowN hb0 _⟩
end Go.Proofs.YtkolilbebkkpdaaDoor
