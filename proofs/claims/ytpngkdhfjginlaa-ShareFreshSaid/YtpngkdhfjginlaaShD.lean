/-
  The contracts of shares (4): what shares tell at a number.
-/
import Derived.Test.YtpngkdhfjginlaaShC
import Derived.Deep.RegionLaw
import Derived.Handy
namespace Go.Proofs.Ytpngkdhfjginlaa
open Go.RowKit
attribute [local go_sem] T_V

/-- The values of shares. -/
def vals (l : List (Int × Int)) : List Int := l.map (·.2)
def plcI (l : List (Int × Int)) : List Int := l.map (·.1)

theorem plcI_take (l : List (Int × Int)) (k : Nat) (h : k < l.length) : (plcI l).take (k + 1) = (plcI l).take k ++ [(sh l k).1] := by
  rw [List.take_succ_eq_append_getElem (by simpa [plcI] using h), sh_eq h]; simp [plcI]
theorem vals_take (l : List (Int × Int)) (k : Nat) (h : k < l.length) : (vals l).take (k + 1) = (vals l).take k ++ [(sh l k).2] := by
  rw [List.take_succ_eq_append_getElem (by simpa [vals] using h), sh_eq h]; simp [vals]
theorem plc_I (l : List (Int × Int)) : (plcI l).map T = plc l := by simp [plcI, plc]
theorem plcI_length (l : List (Int × Int)) : (plcI l).length = l.length := by simp [plcI]
theorem vals_length (l : List (Int × Int)) : (vals l).length = l.length := by simp [vals]

set_option maxRecDepth 100000 in
set_option maxHeartbeats 1000000 in
theorem At_ok (p : Option Addr) (n : Nat) (l : List (Int × Int)) (c : Nat) (x : Int) (w : World) (hL : Sh w p n l) (hn : n ≤ 1000000) (hn0 : 0 < n) (hap : apartB l = true) (hx0 : 0 ≤ x) (hx1 : x < 18446744073709551616) :
    Calls Try.prog 16 #[.slice p n c, .int .u64 x] w fun e w' => ∃ fs, e = .returned (.tuple #[.int .u64 (V (ev fs (T x))), .int .i64 0]) ∧ FromOk (plc l) ((vals l).map T) fs ∧ Below w.heap.size w w' := by
  have hl := Lib.hid hL.len
  have h1 : ((n : Int) == 0) = false := by rw [beq_eq_false_iff_ne]; omega
  go_enter Try.func16, Try.ntmps16
  go_wp2_with fail
  refine (apart_any p n l c w hL hn).mono ?_
  rintro e w1 ⟨rfl, hb1⟩
  rw [hap]
  go_wp2
  go_loopw [6, 7, 20] (fun xv yv i wr => ∃ k : Nat, k ≤ n ∧ i = .int .i64 k ∧ Own wr w1.heap.size xv k ((plcI l).take k) ∧ Own wr w1.heap.size yv k ((vals l).take k) ∧ (∀ g, xv.ownBlock = some g → yv.ownBlock ≠ some g) ∧ Below w1.heap.size w1 wr)
    (fun _ _ i _ => n - (intOf i).toNat)
  case atStart => exact ⟨0, Nat.zero_le _, rfl, Own.nil _ _, Own.nil _ _, by simp [Value.ownBlock], Below.refl _ _⟩
  case round =>
    obtain ⟨k, hk, rfl, hX, hY, hsep, hb⟩ := hrel
    by_cases hlt : k < n
    · obtain ⟨b, off, rfl, _, hc1, hc2⟩ := ((hL.below hb1).below hb).look hlt
      obtain ⟨hs1, hs2⟩ := hL.look_bd hlt
      have hneX : Hid (∀ b', wr.heap.size ≤ b' → some b' ≠ u6.ownBlock) := Lib.hid fun b' hb' e => by have := (hX.lt e.symm).2; omega
      have hsepY : u7.ownBlock = none ∨ u7.ownBlock ≠ u6.ownBlock := by
        cases h7 : u7.ownBlock with
        | none => exact .inl rfl
        | some g => exact .inr fun e => hsep g e.symm h7
      have hbs := hb.size
      have hst1 := Lib.hid (plcI_take l k (by rw [hl.out]; exact hlt))
      have hst2 := Lib.hid (vals_take l k (by rw [hl.out]; exact hlt))
      go_wp2
      go_region_law (first
        | (refine app_step rfl (.tmp 24) (.tmp 27) rfl (hX.below (by go_grown)) rfl rfl (by go_cell) hs1 (by omega) (by simp; omega) ?_
           intro g1 cap1 wA hX1 hgA hatA hltA
           have hY1 := (hY.below (by go_grown)).far hgA hsepY
           have hsA : wr.heap.size ≤ wA.heap.size := Nat.le_trans (by simp; omega) hgA.size
           have hvA := cell_keep (a := ⟨wr.heap.size, 1, none⟩) (v := .int .u64 (sh l k).2) hgA (by go_cell) (hneX.out _ (Nat.le_refl _))
           (try (refine (fun hvA1 => ?_) (cell_keep (a := ⟨wr.heap.size + 1, 0, none⟩) (v := .int .u64 (sh l k).2) hgA ?_ ?_); rotate_left 1; (focus (go_cell; done)); (exact hneX.out _ (Nat.le_add_right wr.heap.size 1))))
           (try (refine (fun hvA2 => ?_) (cell_keep (a := ⟨wr.heap.size + 1 + 1, 0, none⟩) (v := .int .u64 (sh l k).2) hgA ?_ ?_); rotate_left 1; (focus (go_cell; done)); (exact hneX.out _ (Nat.le_add_right wr.heap.size 2)))))
        | (refine app_step rfl (.tmp 29) (.tmp 32) rfl (hY1.below (by go_grown)) rfl rfl (by go_cell) hs2 (by omega) (by first | omega | (simp; omega)) ?_
           intro g2 cap2 wB hY2 hgB hatB hltB))
      all_goals
        have hfin := two_step hX hY hsep (by go_grown) hX1 hgA hatA hltA (by go_grown) hY2 hgB hatB hbs
        clear hX1 hgA hatA hY1 hgB hatB hsepY hneX hX hY hsA hvA
        obtain ⟨hX3, hne, hb3⟩ := hfin
        go_simp
        go_wp2
        go_roundw
        case rel => exact ⟨k + 1, by omega, by go_num, by rw [hst1.out]; exact hX3, by rw [hst2.out]; exact hY2, by simp [Value.ownBlock]; exact hne.symm, hb.trans hb3⟩
        case measure => simp [intOf]; omega
    · obtain rfl : k = n := by omega
      rw [List.take_of_length_le (by rw [plcI_length, hl.out]; exact Nat.le_refl _)] at hX
      rw [List.take_of_length_le (by rw [vals_length, hl.out]; exact Nat.le_refl _)] at hY
      obtain ⟨px, cx, rfl, _, hXu⟩ := hX.u
      obtain ⟨py, cy, rfl, _, hYu⟩ := hY.u
      clear hX hY hsep
      go_wp2_with fail
      refine (From_any px py k (plcI l) (vals l) cx cy _ hXu hYu (by omega)).mono ?_
      rintro e w2 ⟨v, rfl, ⟨fs, ⟨pf, nf, cf, rfl, _, hF⟩, hok⟩, hb2⟩
      rw [plc_I] at hok
      go_wp2_with fail
      refine (evalF pf nf fs cf x _ hF ?_ hx0 hx1).mono ?_
      · have h := hok.len
        have h2 := Fs.len hF
        rw [plc_length, hl.out] at h
        by_cases hd : (plc l).Nodup
        · have := h hd; omega
        · have := hok.no hd; rw [this] at h2; simp at h2; omega
      rintro e w3 ⟨rfl, hb3⟩
      go_wp2_with fail
      go_ret2
      exact ⟨fs, rfl, hok, (hb1.trans (hb.mono hb1.size)).trans ((hb2.trans (hb3.mono hb2.size)).mono (Nat.le_trans hb1.size hb.size))⟩

set_option maxRecDepth 100000 in
theorem At_bad (p : Option Addr) (n : Nat) (l : List (Int × Int)) (c : Nat) (x : Int) (w : World) (hL : Sh w p n l) (hn : n ≤ 1000000) (hbad : n = 0 ∨ apartB l = false) :
    Calls Try.prog 16 #[.slice p n c, .int .u64 x] w fun e w' => e = .returned (.tuple #[.int .u64 0, .int .i64 29]) ∧ Below w.heap.size w w' := by
  by_cases h0 : n = 0
  · have h1 : ((n : Int) == 0) = true := by rw [beq_iff_eq]; omega
    clear h0 hbad
    go_enter Try.func16, Try.ntmps16
    go_wp2_with fail
    go_ret2
    exact ⟨rfl, Below.refl _ _⟩
  · have hap : apartB l = false := hbad.resolve_left h0
    have h1 : ((n : Int) == 0) = false := by rw [beq_eq_false_iff_ne]; omega
    clear hbad
    go_enter Try.func16, Try.ntmps16
    go_wp2_with fail
    refine (apart_any p n l c w hL hn).mono ?_
    rintro e w1 ⟨rfl, hb1⟩
    rw [hap]
    go_wp2
    go_ret2
    exact ⟨rfl, hb1⟩

set_option maxRecDepth 100000 in
theorem Join_ok (p : Option Addr) (n : Nat) (l : List (Int × Int)) (c : Nat) (w : World) (hL : Sh w p n l) (hn : n ≤ 1000000) (hn0 : 0 < n) (hap : apartB l = true) :
    Calls Try.prog 18 #[.slice p n c] w fun e w' => ∃ fs, e = .returned (.tuple #[.int .u64 (V (ev fs 0)), .int .i64 0]) ∧ FromOk (plc l) ((vals l).map T) fs ∧ Below w.heap.size w w' := by
  go_enter Try.func18, Try.ntmps18
  go_wp2_with fail
  refine (At_ok p n l c 0 w hL hn hn0 hap (by omega) (by omega)).mono ?_
  rintro e w1 ⟨fs, rfl, hok, hb1⟩
  rw [T_zero]
  go_wp2_with fail
  go_ret2
  exact ⟨fs, rfl, hok, hb1⟩
set_option maxRecDepth 100000 in
theorem Join_bad (p : Option Addr) (n : Nat) (l : List (Int × Int)) (c : Nat) (w : World) (hL : Sh w p n l) (hn : n ≤ 1000000) (hbad : n = 0 ∨ apartB l = false) :
    Calls Try.prog 18 #[.slice p n c] w fun e w' => e = .returned (.tuple #[.int .u64 0, .int .i64 29]) ∧ Below w.heap.size w w' := by
  go_enter Try.func18, Try.ntmps18
  go_wp2_with fail
  refine (At_bad p n l c 0 w hL hn hbad).mono ?_
  rintro e w1 ⟨rfl, hb1⟩
  go_wp2_with fail
  go_ret2
  exact ⟨rfl, hb1⟩
end Go.Proofs.Ytpngkdhfjginlaa
