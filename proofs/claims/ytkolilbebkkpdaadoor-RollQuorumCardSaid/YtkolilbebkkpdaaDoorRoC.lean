/-
  Rolls: what is asked of one, in short: whose a device is, fresh, Has, Was, Role, Back.
-/
import Derived.Test.YtkolilbebkkpdaaDoorRoB
namespace Go.Proofs.YtkolilbebkkpdaaDoor
open Go.RowKit Go.Maps

set_option maxRecDepth 100000 in
theorem of_any (w : World) (y : Lay) (s : RS) (d : Int) (hR : RollAt w y s) (hd : i64ok d) :
    Calls Tryd.prog 37 #[.pointer (some ⟨y.r, 0, none⟩), .int .i64 d] w fun e w' => e = .returned (.int .i64 (ofD d)) ∧ w = w' := by
  obtain ⟨a, b, c, e, hl⟩ := hR.of hd
  have h0 := hR.c0
  have hf : (Instr.field 69 (.agg #[.int .i64 a, .int .i64 (ofD d), .int .u64 b, .int .u64 c, .int .u64 e]) 1).run Tryd.prog w = .ok (.int .i64 (ofD d)) w := by kernel_rfl
  clear hR
  go_enter Tryd.func37, Tryd.ntmps37
  go_wp2_with fail
  go_ret
  exact ⟨rfl, rfl⟩
set_option maxRecDepth 100000 in
theorem fresh_any (w : World) (y : Lay) (s : RS) (d : Int) (hR : RollAt w y s) (hd : i64ok d) :
    Calls Tryd.prog 38 #[.pointer (some ⟨y.r, 0, none⟩), .int .i64 d] w fun e w' => e = .returned (.bool (s.fresh d)) ∧ w = w' := by
  have hl := hR.wasn hd
  have h2 := hR.c2
  have hb := ofD_bd d
  by_cases h : 0 < ofD d
  · have e : s.fresh d = !s.wasB d := by unfold RS.fresh; rw [decide_eq_true h, Bool.true_and]
    rw [e]
    go_enter Tryd.func38, Tryd.ntmps38
    go_wp2_with (go_at_call 37; refine (of_any _ y s d hR hd).mono ?_; rintro e w' ⟨rfl, rfl⟩)
    go_ret
    exact ⟨rfl, rfl⟩
  · have e : s.fresh d = false := by unfold RS.fresh; rw [decide_eq_false h, Bool.false_and]
    rw [e]
    have hz : ofD d = 0 := by omega
    replace hz := Lib.hid hz
    go_enter Tryd.func38, Tryd.ntmps38
    go_wp2_with (go_at_call 37; refine (of_any _ y s d hR hd).mono ?_; rintro e w' ⟨rfl, rfl⟩; rw [hz.out])
    go_ret
    exact ⟨rfl, rfl⟩
set_option maxRecDepth 100000 in
theorem Has_any (w : World) (y : Lay) (s : RS) (d : Int) (hR : RollAt w y s) (hd : i64ok d) :
    Calls Tryd.prog 18 #[.pointer (some ⟨y.r, 0, none⟩), .int .i64 d] w fun e w' => e = .returned (.bool (s.inB d)) ∧ w = w' := by
  have hl := hR.inn hd
  have h1 := hR.c1
  clear hR
  go_enter Tryd.func18, Tryd.ntmps18
  go_wp2_with fail
  go_ret
  exact ⟨rfl, rfl⟩
set_option maxRecDepth 100000 in
theorem Was_any (w : World) (y : Lay) (s : RS) (d : Int) (hR : RollAt w y s) (hd : i64ok d) :
    Calls Tryd.prog 61 #[.pointer (some ⟨y.r, 0, none⟩), .int .i64 d] w fun e w' => e = .returned (.bool (s.wasB d)) ∧ w = w' := by
  have hl := hR.wasn hd
  have h2 := hR.c2
  clear hR
  go_enter Tryd.func61, Tryd.ntmps61
  go_wp2_with fail
  go_ret
  exact ⟨rfl, rfl⟩
set_option maxRecDepth 100000 in
theorem Back_any (w : World) (y : Lay) (s : RS) (hR : RollAt w y s) :
    Calls Tryd.prog 44 #[.pointer (some ⟨y.r, 0, none⟩)] w fun e w' => e = .returned (.int .i64 s.bk) ∧ w = w' := by
  have h4 := hR.c4
  clear hR
  go_enter Tryd.func44, Tryd.ntmps44
  go_wp2_with fail
  go_ret
  exact ⟨rfl, rfl⟩
set_option maxRecDepth 100000 in
theorem Role_any (w : World) (y : Lay) (s : RS) (n : Int) (hR : RollAt w y s) (hn : i64ok n) :
    Calls Tryd.prog 19 #[.pointer (some ⟨y.r, 0, none⟩), .int .i64 n] w fun e w' => e = .returned (.int .i64 (s.role n)) ∧ w = w' := by
  have h3 := hR.c3
  rcases hR.mem hn with ⟨h1, hl⟩ | ⟨x, hx, hxn, h1, hl⟩
  · have e : s.role n = 0 := by unfold RS.role; rw [h1]; rfl
    rw [e]
    replace h1 := Lib.hid h1
    clear hR
    go_enter Tryd.func19, Tryd.ntmps19
    go_wp2_with fail
    go_ret
    exact ⟨rfl, rfl⟩
  · have e : s.role n = x.m.r := by unfold RS.role; rw [h1]; rfl
    rw [e]
    have hc := (hR.mb x hx).c0
    replace h1 := Lib.hid h1
    clear hR hxn
    go_enter Tryd.func19, Tryd.ntmps19
    go_wp2_with fail
    go_ret
    exact ⟨rfl, rfl⟩
set_option maxRecDepth 100000 in
theorem rules_any (w : World) (y : Lay) (s : RS) (n : Int) (hR : RollAt w y s) (hn : i64ok n) :
    Calls Tryd.prog 122 #[.pointer (some ⟨y.r, 0, none⟩), .int .i64 n] w fun e w' => e = .returned (.bool (s.rules n)) ∧ w = w' := by
  go_enter Tryd.func122, Tryd.ntmps122
  go_wp2_with fail
  refine (Role_any _ y s n hR hn).mono ?_
  rintro e w' ⟨rfl, rfl⟩
  obtain ⟨q, hq⟩ : ∃ q, Hid (s.rules n = q) := ⟨_, Lib.hid rfl⟩
  by_cases h : s.role n = 3
  · have e1 : (s.role n == 3) = true := beq_iff_eq.2 h
    have eq : Hid (q = true) := Lib.hid (by rw [← hq.out]; unfold RS.rules; exact decide_eq_true h)
    clear h
    go_wp2_with fail
    go_ret
    exact ⟨by rw [hq.out, eq.out]; rfl, rfl⟩
  · have e1 : (s.role n == 3) = false := beq_eq_false_iff_ne.2 h
    have eq : Hid (q = false) := Lib.hid (by rw [← hq.out]; unfold RS.rules; exact decide_eq_false h)
    clear h
    go_wp2_with fail
    go_ret
    exact ⟨by rw [hq.out, eq.out]; rfl, rfl⟩
end Go.Proofs.YtkolilbebkkpdaaDoor
