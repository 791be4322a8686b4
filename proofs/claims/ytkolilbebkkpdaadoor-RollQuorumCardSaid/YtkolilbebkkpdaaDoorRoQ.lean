/-
  What a Guard is asked.
-/
import Derived.Test.YtkolilbebkkpdaaDoorRoP
namespace Go.Proofs.YtkolilbebkkpdaaDoor
open Go.RowKit Go.Maps

set_option maxRecDepth 100000 in
theorem notIn_any (w : World) (y : Lay) (s : RS) (d : Int) (g : Nat) (hR : RollAt w y s) (hd : i64ok d) (hg : w.cell? ⟨g, 0, none⟩ = some (.pointer (some ⟨y.r, 0, none⟩))) :
    Calls Tryd.prog 129 #[.int .i64 d, .pointer (some ⟨g, 0, none⟩)] w fun e w' => e = .returned (.bool (!s.inB d)) ∧ w = w' := by
  have c1 := hR.c1
  have hl := hR.inn hd
  go_enter Tryd.func129, Tryd.ntmps129
  go_wp2_with fail
  go_ret
  exact ⟨rfl, rfl⟩
set_option maxRecDepth 100000 in
theorem IndexFunc_any (p : Option Addr) (n : Nat) (xs : List Int) (c : Nat) (w : World) (y : Lay) (s : RS) (g : Nat) (hR : RollAt w y s) (hg : w.cell? ⟨g, 0, none⟩ = some (.pointer (some ⟨y.r, 0, none⟩))) (hU : UI w p n xs) (hn : n ≤ 9223372036854775806) :
    Calls Tryd.prog 133 #[.slice p n c, .func (.func 129) #[] #[.pointer (some ⟨g, 0, none⟩)]] w fun e w' => ∃ i : Int, e = .returned (.int .i64 i) ∧ -1 ≤ i ∧ i ≤ 9223372036854775806 ∧ Hid (i < 0 ↔ ∀ x ∈ xs, x ∈ s.ins) ∧ w = w' := by
  have hX := Lib.hid hU.len
  go_enter Tryd.func133, Tryd.ntmps133
  go_wp2
  go_loopw [8] (fun i wr => ∃ k : Nat, k ≤ n ∧ i = .int .i64 k ∧ Hid (∀ j, j < k → nth xs j ∈ s.ins) ∧ w = wr)
    (fun i _ => n - (intOf i).toNat)
  case atStart => exact ⟨0, Nat.zero_le _, rfl, Lib.hid (fun j hj => absurd hj (by omega)), rfl⟩
  case round =>
    obtain ⟨k, hk, rfl, hno, rfl⟩ := hrel
    by_cases hlt : k < n
    · obtain ⟨b, off, rfl, _, hc, hb1, hb2⟩ := hU.look hlt
      have hxk : Hid (nth xs k ∈ xs) := Lib.hid (nth_mem (by rw [hX.out]; exact hlt))
      have hok : i64ok (nth xs k) := ⟨hb1, hb2⟩
      cases he : s.inB (nth xs k) with
      | false =>
        have hf : Hid (nth xs k ∉ s.ins) := Lib.hid (of_decide_eq_false he)
        replace he := Lib.hid he
        go_wp2_with (first | (go_at_call 129; refine (notIn_any _ y s _ g hR hok hg).mono ?_; rintro e w' ⟨rfl, rfl⟩; rw [he.out]) | fail)
        go_ret
        exact ⟨k, rfl, by omega, by omega, Lib.hid ⟨fun h => absurd h (by omega), fun h => absurd (h _ hxk.out) hf.out⟩, rfl⟩
      | true =>
        have hf : Hid (nth xs k ∈ s.ins) := Lib.hid (of_decide_eq_true he)
        have hno' : Hid (∀ j, j < k + 1 → nth xs j ∈ s.ins) := Lib.hid (fun j hj => by
          by_cases hjk : j = k
          · subst hjk; exact hf.out
          · exact hno.out j (by omega))
        replace he := Lib.hid he
        go_wp2_with (first | (go_at_call 129; refine (notIn_any _ y s _ g hR hok hg).mono ?_; rintro e w' ⟨rfl, rfl⟩; rw [he.out]) | fail)
        go_roundw
        case rel => exact ⟨k + 1, by omega, by go_num, hno', trivial⟩
        case measure => simp [intOf]; omega
    · have hfin : Hid (∀ x ∈ xs, x ∈ s.ins) := Lib.hid (by
        intro x hm
        obtain ⟨j, hj, hjx⟩ := List.getElem_of_mem hm
        have := hno.out j (by rw [hX.out] at hj; omega)
        rw [nth_eq hj, hjx] at this
        exact this)
      clear hno
      go_wp2_with fail
      go_ret
      exact ⟨-1, rfl, by omega, by omega, Lib.hid ⟨fun _ => hfin.out, fun _ => by omega⟩, rfl⟩
set_option maxRecDepth 100000 in
theorem ContainsFunc_any (p : Option Addr) (n : Nat) (xs : List Int) (c : Nat) (w : World) (y : Lay) (s : RS) (g : Nat) (hR : RollAt w y s) (hg : w.cell? ⟨g, 0, none⟩ = some (.pointer (some ⟨y.r, 0, none⟩))) (hU : UI w p n xs) (hn : n ≤ 9223372036854775806) (r : Bool) (hr : Hid (r = !decide (∀ x ∈ xs, x ∈ s.ins))) :
    Calls Tryd.prog 128 #[.slice p n c, .func (.func 129) #[] #[.pointer (some ⟨g, 0, none⟩)]] w fun e w' => e = .returned (.bool r) ∧ w = w' := by
  go_enter Tryd.func128, Tryd.ntmps128
  go_wp2_with fail
  refine (IndexFunc_any p n xs c w y s g hR hg hU hn).mono ?_
  rintro e w' ⟨i, rfl, hi1, hi2, hi, rfl⟩
  by_cases h : 0 ≤ i
  · have hf : Hid (r = true) := Lib.hid (by rw [hr.out, decide_eq_false fun h2 => absurd (hi.out.2 h2) (by omega)]; rfl)
    go_wp2_with fail
    go_ret
    exact ⟨ret_bool hf.out.symm, rfl⟩
  · have hf : Hid (r = false) := Lib.hid (by rw [hr.out, decide_eq_true (hi.out.1 (by omega))]; rfl)
    go_wp2_with fail
    go_ret
    exact ⟨ret_bool (by rw [hf.out]; exact decide_eq_false (by omega)), rfl⟩
set_option maxRecDepth 100000 in
theorem askGuard_any (w : World) (y : Lay) (s : RS) (o : OpI) (gp : Option Addr) (gc : Nat) (m : Int) (hR : RollAt w y s) (hU : UI w gp o.gs.length o.gs) (hn : o.gs.length ≤ 1000) :
    Calls Tryd.prog 127 #[.pointer (some ⟨y.r, 0, none⟩), .agg (opC o gp gc), .int .i64 m] w fun e w' => e = .returned (.int .i64 (s.askGuard o m)) ∧ Below w.heap.size w w' := by
  have hb1 := Below.lit w (.cells #[.pointer (some ⟨y.r, 0, none⟩)] 23)
  have hg1 : (w.alloc (.cells #[.pointer (some ⟨y.r, 0, none⟩)] 23)).cell? ⟨w.heap.size, 0, none⟩ = some (.pointer (some ⟨y.r, 0, none⟩)) := cell_of_one (World.alloc_heap_new w _)
  have hz : (w.alloc (.cells #[.pointer (some ⟨y.r, 0, none⟩)] 23)).heap.size = w.heap.size + 1 := by simp
  have hb2 := Below.lit (w.alloc (.cells #[.pointer (some ⟨y.r, 0, none⟩)] 23)) (.cells (opC o gp gc) 42)
  have hb : Below w.heap.size w ((w.alloc (.cells #[.pointer (some ⟨y.r, 0, none⟩)] 23)).alloc (.cells (opC o gp gc) 42)) := hb1.trans (hb2.mono hb1.size)
  have hR2 := hR.below hb
  have hO := OpAt.made (w.alloc (.cells #[.pointer (some ⟨y.r, 0, none⟩)] 23)) o gp gc
  have k1 := hO.cgs
  rw [hz] at k1
  have hg2 := (hb2.cell (p := ⟨w.heap.size, 0, none⟩) (by show w.heap.size < _; omega)).trans hg1
  have hU2 := hU.below hb
  obtain ⟨q, hq⟩ : ∃ q, Hid (s.askGuard o m = q) := ⟨_, Lib.hid rfl⟩
  rw [hq.out]
  by_cases h : ∀ d ∈ o.gs, d ∈ s.ins
  · have e : Hid (q = 0) := Lib.hid (by rw [← hq.out]; exact if_pos h)
    have hr : Hid (false = !decide (∀ x ∈ o.gs, x ∈ s.ins)) := Lib.hid (by rw [decide_eq_true h]; rfl)
    clear h
    go_enter Tryd.func127, Tryd.ntmps127
    go_wp2_with (first | (go_at_call 128; refine (ContainsFunc_any _ _ o.gs _ _ y s w.heap.size hR2 hg2 hU2 (by omega) false hr).mono ?_; rintro e w' ⟨rfl, rfl⟩) | fail)
    go_ret
    exact ⟨ret_int e.out.symm, hb⟩
  · have e : Hid (q = 17) := Lib.hid (by rw [← hq.out]; exact if_neg h)
    have hr : Hid (true = !decide (∀ x ∈ o.gs, x ∈ s.ins)) := Lib.hid (by rw [decide_eq_false h]; rfl)
    clear h
    go_enter Tryd.func127, Tryd.ntmps127
    go_wp2_with (first | (go_at_call 128; refine (ContainsFunc_any _ _ o.gs _ _ y s w.heap.size hR2 hg2 hU2 (by omega) true hr).mono ?_; rintro e w' ⟨rfl, rfl⟩) | fail)
    go_ret
    exact ⟨ret_int e.out.symm, hb⟩
end Go.Proofs.YtkolilbebkkpdaaDoor
