/-
  What a Refresh, and an Object, are asked; slices.Contains; what a Vouch, and a Replace, are asked first.
-/
import Derived.Test.YtkolilbebkkpdaaDoorRoN
namespace Go.Proofs.YtkolilbebkkpdaaDoor
open Go.RowKit Go.Maps

set_option maxRecDepth 100000 in
theorem id_neq (i j : Idn) (w : World) : (binOp .neq 34 (.agg #[.int .i64 i.b, .int .i64 i.s, .int .u64 i.u]) (.agg #[.int .i64 j.b, .int .i64 j.s, .int .u64 j.u])).run Tryd.prog w = .ok (.bool (!decide (i = j))) w := by
  have h := id_eql i j w
  rw [run_eql_struct] at h
  rw [run_neq_struct]
  cases hx : (Op.equalIn 10000 34 (.agg #[.int .i64 i.b, .int .i64 i.s, .int .u64 i.u]) (.agg #[.int .i64 j.b, .int .i64 j.s, .int .u64 j.u])).run Tryd.prog w with
  | ok b w' =>
    rw [hx] at h
    simp only [Result.andThen_ok] at h ⊢
    injection h with h1 h2
    injection h1 with h1
    rw [h1, h2]
  | _ => rw [hx] at h; cases h
set_option maxRecDepth 100000 in
theorem own_any (w : World) (y : Lay) (s : RS) (o : OpI) (gp : Option Addr) (gc : Nat) (m : Int) (hR : RollAt w y s) (hm : i64ok m) :
    Calls Tryd.prog 130 #[.pointer (some ⟨y.r, 0, none⟩), .agg (opC o gp gc), .int .i64 m] w fun e w' => e = .returned (.int .i64 (s.askOwn o m)) ∧ Below w.heap.size w w' := by
  have hb0 := Below.lit w (.cells (opC o gp gc) 42)
  have hR0 := hR.below hb0
  have hO := OpAt.made w o gp gc
  have k1 := hO.cfb
  have k2 := hO.cfs
  have k3 := hO.cfu
  have c3 := hR0.c3
  have hst := id_stood
  have hgd := id_guard
  obtain ⟨q, hq⟩ : ∃ q, Hid (s.askOwn o m = q) := ⟨_, Lib.hid rfl⟩
  rw [hq.out]
  rcases hR0.memN hm with ⟨h1, hl, hl2⟩ | ⟨x, hx, hxn, h1, hl, hl2⟩
  · have e : Hid (q = 25) := Lib.hid (by rw [← hq.out]; unfold RS.askOwn; rw [h1]; rfl)
    go_enter Tryd.func130, Tryd.ntmps130
    go_wp2_with fail
    go_quiet (fail)
    go_wp2_with fail
    go_ret
    exact ⟨ret_int e.out.symm, belowN hb0 _⟩
  · clear hxn
    have hM := hR0.mb x hx
    have q1 := hM.c1
    cases hg : x.m.g with
    | none =>
      have e : Hid (q = 25) := Lib.hid (by rw [← hq.out]; unfold RS.askOwn; rw [h1]; show (if isId o.f x.m.g = true then _ else _) = _; rw [hg]; rfl)
      rw [hg] at q1
      replace q1 : (w.alloc (.cells (opC o gp gc) 42)).cell? ⟨x.a, 1, none⟩ = some (.pointer none) := q1
      replace hg := Lib.hid hg
      replace h1 := Lib.hid h1
      go_enter Tryd.func130, Tryd.ntmps130
      go_wp2_with fail
      go_quiet (fail)
      go_wp2_with fail
      go_ret
      exact ⟨ret_int e.out.symm, belowN hb0 _⟩
    | some d =>
      rw [hg] at q1
      replace q1 : (w.alloc (.cells (opC o gp gc) 42)).cell? ⟨x.a, 1, none⟩ = some (.pointer (some ⟨x.g, 0, none⟩)) := q1
      have hD := hM.gd d hg
      have g0 := hD.c0
      have g1 := hD.c1
      have g2 := hD.c2
      have hie := id_neq d.id o.f
      by_cases hdi : d.id = o.f
      · have e : Hid (q = 0) := Lib.hid (by rw [← hq.out]; unfold RS.askOwn; rw [h1]; show (if isId o.f x.m.g = true then _ else _) = _; rw [hg]; exact if_pos (decide_eq_true hdi))
        rw [decide_eq_true hdi] at hie
        clear hdi
        replace hg := Lib.hid hg
        replace h1 := Lib.hid h1
        go_enter Tryd.func130, Tryd.ntmps130
        go_wp2_with fail
        go_quiet (fail)
        go_wp2_with fail
        go_ret
        exact ⟨ret_int e.out.symm, belowN hb0 _⟩
      · have e : Hid (q = 25) := Lib.hid (by rw [← hq.out]; unfold RS.askOwn; rw [h1]; show (if isId o.f x.m.g = true then _ else _) = _; rw [hg]; exact if_neg (by unfold isId; simpa using hdi))
        rw [decide_eq_false hdi] at hie
        clear hdi
        replace hg := Lib.hid hg
        replace h1 := Lib.hid h1
        go_enter Tryd.func130, Tryd.ntmps130
        go_wp2_with fail
        go_quiet (fail)
        go_wp2_with fail
        go_ret
        exact ⟨ret_int e.out.symm, belowN hb0 _⟩
set_option maxRecDepth 100000 in
theorem Index_any (p : Option Addr) (n : Nat) (xs : List Int) (c : Nat) (x : Int) (w : World) (hU : UI w p n xs) (hn : n ≤ 9223372036854775806) :
    Calls Tryd.prog 83 #[.slice p n c, .int .i64 x] w fun e w' => ∃ i : Int, e = .returned (.int .i64 i) ∧ -1 ≤ i ∧ i ≤ 9223372036854775806 ∧ Hid (0 ≤ i ↔ x ∈ xs) ∧ w = w' := by
  have hX := Lib.hid hU.len
  go_enter Tryd.func83, Tryd.ntmps83
  go_wp2
  go_loopw [8] (fun i wr => ∃ k : Nat, k ≤ n ∧ i = .int .i64 k ∧ Hid (∀ j, j < k → nth xs j ≠ x) ∧ w = wr)
    (fun i _ => n - (intOf i).toNat)
  case atStart => exact ⟨0, Nat.zero_le _, rfl, Lib.hid (fun j hj => absurd hj (by omega)), rfl⟩
  case round =>
    obtain ⟨k, hk, rfl, hno, rfl⟩ := hrel
    by_cases hlt : k < n
    · obtain ⟨b, off, rfl, _, hc, _⟩ := hU.look hlt
      by_cases he : nth xs k = x
      · have he' : (x == nth xs k) = true := by rw [beq_iff_eq]; exact he.symm
        have hfin : Hid (x ∈ xs) := Lib.hid (by rw [← he]; exact nth_mem (by rw [hX.out]; exact hlt))
        clear he
        go_wp2
        go_ret
        exact ⟨k, rfl, by omega, by omega, Lib.hid ⟨fun _ => hfin.out, fun _ => by omega⟩, rfl⟩
      · have he' : (x == nth xs k) = false := beq_eq_false_iff_ne.2 fun e => he e.symm
        have hno' : Hid (∀ j, j < k + 1 → nth xs j ≠ x) := Lib.hid (fun j hj => by
          by_cases hjk : j = k
          · subst hjk; exact he
          · exact hno.out j (by omega))
        clear he hno
        go_wp2
        go_roundw
        case rel => exact ⟨k + 1, by omega, by go_num, hno', trivial⟩
        case measure => simp [intOf]; omega
    · have hfin : Hid (x ∉ xs) := Lib.hid (by
        intro hm
        obtain ⟨j, hj, hjx⟩ := List.getElem_of_mem hm
        exact hno.out j (by rw [hX.out] at hj; omega) (by rw [nth_eq hj]; exact hjx))
      clear hno
      go_wp2
      go_ret
      exact ⟨-1, rfl, by omega, by omega, Lib.hid ⟨fun h => absurd h (by omega), fun h => absurd h hfin.out⟩, rfl⟩
set_option maxRecDepth 100000 in
theorem Contains_any (p : Option Addr) (n : Nat) (xs : List Int) (c : Nat) (x : Int) (w : World) (hU : UI w p n xs) (hn : n ≤ 9223372036854775806) (r : Bool) (hr : Hid (r = decide (x ∈ xs))) :
    Calls Tryd.prog 73 #[.slice p n c, .int .i64 x] w fun e w' => e = .returned (.bool r) ∧ w = w' := by
  go_enter Tryd.func73, Tryd.ntmps73
  go_wp2_with fail
  refine (Index_any p n xs c x w hU hn).mono ?_
  rintro e w' ⟨i, rfl, hi1, hi2, hi, rfl⟩
  by_cases h : 0 ≤ i
  · have hf : Hid (r = true) := Lib.hid (by rw [hr.out]; exact decide_eq_true (hi.out.1 h))
    go_wp2_with fail
    go_ret
    exact ⟨ret_bool hf.out.symm, rfl⟩
  · have hf : Hid (r = false) := Lib.hid (by rw [hr.out]; exact decide_eq_false fun h2 => h (hi.out.2 h2))
    go_wp2_with fail
    go_ret
    exact ⟨ret_bool (by rw [hf.out]; exact decide_eq_false (by omega)), rfl⟩
end Go.Proofs.YtkolilbebkkpdaaDoor
