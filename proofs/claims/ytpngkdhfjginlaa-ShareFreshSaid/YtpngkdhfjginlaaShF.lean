/-
  Shares (6): the references' contracts: are shares wrong; what they tell at a number.
-/
import Derived.Test.YtpngkdhfjginlaaShE
namespace Go.Proofs.Ytpngkdhfjginlaa
open Go.RowKit
attribute [local go_sem] T_V

theorem not_apart_zero {l : List (Int × Int)} {i : Nat} (hi : i < l.length) (h : T (sh l i).1 = 0) : apartB l = false := by
  unfold apartB
  rw [decide_eq_false_iff_not, List.nodup_cons]
  rintro ⟨h1, _⟩
  apply h1
  rw [← h, ← plc_coef l i hi, coef_lt (by rw [plc_length]; exact hi)]
  exact List.getElem_mem _
theorem not_apart_same {l : List (Int × Int)} {i k : Nat} (hi : i < l.length) (hk : k < i) (h : T (sh l k).1 = T (sh l i).1) : apartB l = false := by
  unfold apartB
  rw [decide_eq_false_iff_not, List.nodup_cons]
  rintro ⟨_, h2⟩
  rw [← plc_coef l i hi, ← plc_coef l k (by omega), coef_lt (by rw [plc_length]; omega), coef_lt (by rw [plc_length]; omega)] at h
  have := (List.getElem_inj h2).1 h
  omega
theorem apart_next {l : List (Int × Int)} {i : Nat} (hi : i < l.length) (hd : (0 :: (plc l).take i).Nodup) (h0 : T (sh l i).1 ≠ 0) (hk : ∀ k, k < i → T (sh l k).1 ≠ T (sh l i).1) : (0 :: (plc l).take (i + 1)).Nodup := by
  refine (nodup_seen l i hi).2 ⟨hd, fun hm => ?_⟩
  rcases List.mem_cons.1 hm with h | h
  · exact h0 h
  · obtain ⟨k, hk1, hk2⟩ := List.mem_take_iff_getElem.1 h
    rw [plc_length] at hk1
    refine hk k (by omega) ?_
    rw [← hk2, ← plc_coef l k (by omega), coef_lt]

set_option maxRecDepth 100000 in
set_option maxHeartbeats 1000000 in
theorem rWrong_any (p : Option Addr) (n : Nat) (l : List (Int × Int)) (c : Nat) (w : World) (hL : Sh w p n l) (hn : n ≤ 1000000) (hn0 : 0 < n) (r : Int) (hr : Hid (r = if apartB l = true then 0 else 29)) :
    Calls Try.prog 28 #[.slice p n c] w fun e w' => e = .returned (.int .i64 r) ∧ Below w.heap.size w w' := by
  have hl := Lib.hid hL.len
  have hz0 : ((n : Int) == 0) = false := by rw [beq_eq_false_iff_ne]; omega
  go_enter Try.func28, Try.ntmps28
  go_wp2
  go_loopw [3] (fun i wr => ∃ k : Nat, k ≤ n ∧ i = .int .i64 k ∧ (0 :: (plc l).take k).Nodup ∧ Below w.heap.size w wr)
    (fun i _ => n - (intOf i).toNat)
  case atStart => exact ⟨0, Nat.zero_le _, rfl, by simp, Below.refl _ _⟩
  case round =>
    obtain ⟨i, hi, rfl, hnd, hb⟩ := hrel
    by_cases hlt : i < n
    · obtain ⟨b, off, rfl, _, hc1, _⟩ := (hL.below hb).look hlt
      obtain ⟨⟨hx0, hx1⟩, _, _⟩ := hL.look_bd hlt
      have hil : i < l.length := by rw [hl.out]; exact hlt
      by_cases hz : T (sh l i).1 = 0
      · have hz' : (V (T (sh l i).1) == 0) = true := by rw [V_inj_zero, beq_iff_eq]; exact hz
        have hfin := Lib.hid (not_apart_zero hil hz)
        clear hz hnd
        go_wp2_with (go_at_call 38; refine (rnum_any _ _ hx0 hx1).mono ?_; rintro e w' ⟨rfl, rfl⟩)
        go_ret
        exact ⟨ret_int (by rw [hr.out, hfin.out]; rfl), hb⟩
      · have hz' : (V (T (sh l i).1) == 0) = false := by rw [V_inj_zero, beq_eq_false_iff_ne]; exact hz
        obtain ⟨wo, rfl⟩ : ∃ wo : World, wo = wr := ⟨_, rfl⟩
        have hz2 := Lib.hid hz
        clear hz
        go_wp2_with (go_at_call 38; refine (rnum_any _ _ hx0 hx1).mono ?_; rintro e w' ⟨rfl, rfl⟩)
        go_loopw [4] (fun j wr => ∃ k : Nat, k ≤ i ∧ j = .int .i64 k ∧ Hid (∀ j, j < k → T (sh l j).1 ≠ T (sh l i).1) ∧ Below wo.heap.size wo wr)
          (fun j _ => i - (intOf j).toNat)
        case atStart => exact ⟨0, Nat.zero_le _, rfl, Lib.hid (fun j hj => absurd hj (by omega)), Below.refl _ _⟩
        case round =>
          clear hc1
          obtain ⟨k, hk, rfl, hdk, hbi⟩ := hrel
          have hb2 := hb.trans (hbi.mono hb.size)
          by_cases hlt2 : k < i
          · obtain ⟨hc1, _⟩ := (hL.below hb2).cell hlt
            obtain ⟨hc2, _⟩ := (hL.below hb2).cell (i := k) (by omega)
            obtain ⟨⟨hy0, hy1⟩, _, _⟩ := hL.look_bd (i := k) (by omega)
            go_wp2
            have hix1 : (0 : Int) ≤ (i : Int) := by omega
            have hix2 : (i : Int) < (n : Int) := by omega
            have hix3 : (0 : Int) ≤ (k : Int) := by omega
            have hix4 : (k : Int) < (n : Int) := by omega
            refine wp_region_quiet (C := Gr wr) (by kernel_rfl) (by kernel_rfl) (Gr.start wr) ?_
            repeat
              refine wpQuiet_step (fun K hK => ?_)
              rw [if_pos (by rfl)]
              apply Exists.intro
              refine ⟨fun W hW => ?_, hK _ ?_⟩
              · have hl1 := hW.cell hc1
                have hl2 := hW.cell hc2
                unfold Oper.quietAt
                go_simp
                first
                  | (with_reducible rfl)
                  | (refine (rnum_any (sh l i).1 W hx0 hx1).mono ?_; rintro e w'' ⟨rfl, rfl⟩; exact ⟨rfl, hW⟩)
                  | (refine (rnum_any (sh l k).1 W hy0 hy1).mono ?_; rintro e w'' ⟨rfl, rfl⟩; exact ⟨rfl, hW⟩)
              clear hK K
            refine wpQuiet_nil ?_
            intro w2 hw2
            clear hix1 hix2 hix3 hix4 hc1 hc2
            have hbf := hb2.trans (Below.mono hw2 hb2.size)
            have hbg := hbi.trans (Below.mono hw2 hbi.size)
            clear hw2
            by_cases he : T (sh l k).1 = T (sh l i).1
            · have he' : (V (T (sh l k).1) == V (T (sh l i).1)) = true := by rw [he]; exact beq_self_eq_true _
              have hfin := Lib.hid (not_apart_same hil hlt2 he)
              clear he
              go_simp
              go_wp2
              go_ret
              exact ⟨ret_int (by rw [hr.out, hfin.out]; rfl), hbf⟩
            · have he' : (V (T (sh l k).1) == V (T (sh l i).1)) = false := beq_eq_false_iff_ne.2 fun h => he (V_inj h)
              have hdk' : Hid (∀ j, j < k + 1 → T (sh l j).1 ≠ T (sh l i).1) := Lib.hid (fun j hj => by
                by_cases hjk : j = k
                · subst hjk; exact he
                · exact hdk.out j (by omega))
              clear he hdk
              go_simp
              go_wp2
              go_roundw
              case rel => exact ⟨k + 1, by omega, by go_num, hdk', hbg⟩
              case measure => simp [intOf]; omega
          · have hki : k = i := by omega
            have hnd2 := apart_next hil hnd hz2.out (fun j hj => hdk.out j (by omega))
            clear hki hnd hdk
            go_wp2
            go_roundw
            case rel => exact ⟨i + 1, by omega, by go_num, hnd2, hb2⟩
            case measure => simp [intOf]; omega
    · have hfin : Hid (apartB l = true) := Lib.hid (by
        unfold apartB
        rw [decide_eq_true_eq]
        rwa [List.take_of_length_le (by rw [plc_length, hl.out]; omega)] at hnd)
      clear hnd
      go_wp2
      go_ret
      exact ⟨ret_int (by rw [hr.out, hfin.out]; rfl), hb⟩

set_option maxRecDepth 100000 in
theorem rWrong_none (p : Option Addr) (c : Nat) (w : World) :
    Calls Try.prog 28 #[.slice p 0 c] w fun e w' => e = .returned (.int .i64 29) ∧ Below w.heap.size w w' := by
  go_enter Try.func28, Try.ntmps28
  go_wp2
  go_ret
  exact ⟨rfl, Below.refl _ _⟩
end Go.Proofs.Ytpngkdhfjginlaa
