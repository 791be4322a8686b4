/-
  The contracts of shares (3): are places apart.
-/
import Derived.Test.YtpngkdhfjginlaaShB
import Derived.Test.YtpngkdhfjginlaaSet
namespace Go.Proofs.Ytpngkdhfjginlaa
open Go.RowKit
attribute [local go_sem] T_V

/-- The places, modulo P. -/
def plc (l : List (Int × Int)) : List F := l.map fun s => T s.1
/-- .. that stand in the map after k rounds. -/
def seen (l : List (Int × Int)) (k : Nat) : List Int := ((0 :: (plc l).take k).map V).reverse
theorem plc_length (l : List (Int × Int)) : (plc l).length = l.length := by simp [plc]
theorem plc_coef (l : List (Int × Int)) (k : Nat) (h : k < l.length) : coef (plc l) k = T (sh l k).1 := by
  rw [coef_lt (by rw [plc_length]; exact h), sh_eq h]; simp [plc]
theorem seen_succ (l : List (Int × Int)) (k : Nat) (h : k < l.length) : seen l (k + 1) = V (T (sh l k).1) :: seen l k := by
  unfold seen
  rw [List.take_succ_eq_append_getElem (by rw [plc_length]; exact h), ← coef_lt, plc_coef l k h]
  simp
theorem mem_seen (l : List (Int × Int)) (k : Nat) (x : F) : V x ∈ seen l k ↔ x ∈ 0 :: (plc l).take k := by
  unfold seen
  rw [List.mem_reverse, List.mem_map]
  constructor
  · rintro ⟨y, hy, he⟩; rw [← V_inj he]; exact hy
  · intro h; exact ⟨x, h, rfl⟩
theorem nodup_seen (l : List (Int × Int)) (k : Nat) (h : k < l.length) : (0 :: (plc l).take (k + 1)).Nodup ↔ (0 :: (plc l).take k).Nodup ∧ ¬ (T (sh l k).1 ∈ 0 :: (plc l).take k) := by
  rw [List.take_succ_eq_append_getElem (by rw [plc_length]; exact h), ← coef_lt, plc_coef l k h, ← List.cons_append, List.nodup_append]
  constructor
  · rintro ⟨h1, _, h3⟩
    exact ⟨h1, fun hm => h3 _ hm _ (by simp) rfl⟩
  · rintro ⟨h1, h2⟩
    refine ⟨h1, by simp, fun a ha b hb e => ?_⟩
    rw [List.mem_singleton] at hb
    subst hb; subst e
    exact h2 ha
/-- Are the places apart, and is none 0? -/
def apartB (l : List (Int × Int)) : Bool := decide (0 :: plc l).Nodup

theorem ret_bool {a b : Bool} (h : a = b) : Ending.returned (.bool a) = .returned (.bool b) := by rw [h]
theorem wf_V (x : F) : (Lit.int .u64 (V x)).wf = true := WalkArith.wf_u64 ⟨V_lo x, by have := V_64 x; omega⟩

set_option maxRecDepth 100000 in
set_option maxHeartbeats 1000000 in
theorem apart_any (p : Option Addr) (n : Nat) (l : List (Int × Int)) (c : Nat) (w : World) (hL : Sh w p n l) (hn : n ≤ 1000000) :
    Calls Try.prog 27 #[.slice p n c] w fun e w' => e = .returned (.bool (apartB l)) ∧ Below w.heap.size w w' := by
  have hmm := @run_makeMap Try.prog
  have hl := Lib.hid hL.len
  have hb0 : Below w.heap.size w (w.alloc (.map #[] 0)) := (Below.refl _ _).alloc (Nat.le_refl _) _
  have hh := Had.made w
  go_enter Try.func27, Try.ntmps27
  go_wp2_with (refine wp_put rfl (.tmp 6) (.const (.int .u64 0)) (.const (.bool true)) (.inr rfl) hh rfl rfl rfl (wf_V 0) (by unfold maxLen; omega) ?_; intro w1 hh1 hg1)
  have hb1 : Below w.heap.size w w1 := hb0.grown hg1 hb0.size (fun k e => by cases e; exact Nat.le_refl _)
  clear hh hg1 hb0
  go_loopw [10] (fun i wr => ∃ k : Nat, k ≤ n ∧ i = .int .i64 k ∧ Had wr w.heap.size (k + 1) (seen l k) ∧ (0 :: (plc l).take k).Nodup ∧ Below w.heap.size w wr)
    (fun i _ => n - (intOf i).toNat)
  case atStart => exact ⟨0, Nat.zero_le _, rfl, hh1, by simp, hb1⟩
  case round =>
    clear hh1 hb1 hmm
    obtain ⟨k, hk, rfl, hh, hnd, hb⟩ := hrel
    by_cases hlt : k < n
    · obtain ⟨b, off, rfl, _, hc1, hc2⟩ := (hL.below hb).look hlt
      obtain ⟨⟨hx0, hx1⟩, hy0, hy1⟩ := hL.look_bd hlt
      have hkl : k < l.length := by rw [hl.out]; exact hlt
      have hms := mem_seen l k (T (sh l k).1)
      have hnn := Lib.hid (nodup_seen l k hkl)
      have hst := Lib.hid (seen_succ l k hkl)
      have hb2 : Below wr.heap.size wr (wr.alloc (.cells #[.int .u64 (sh l k).1, .int .u64 (sh l k).2] 33)) := (Below.refl _ _).alloc (Nat.le_refl _) _
      have hh2 := hh.kept hb2
      by_cases hm : V (T (sh l k).1) ∈ seen l k
      · have hfin : Hid (apartB l = false) := Lib.hid (by
          unfold apartB
          rw [decide_eq_false_iff_not]
          intro hd
          have hd2 : (0 :: (plc l).take (k + 1)).Nodup := hd.sublist (List.Sublist.cons_cons _ (List.take_sublist _ _))
          exact (hnn.out.1 hd2).2 (hms.1 hm))
        clear hms hnd
        go_wp2_with (first
          | (go_at_call 20; refine (num_any _ _ hx0 hx1).mono ?_; rintro e w' ⟨rfl, rfl⟩)
          | (at_lookup; refine wp_look rfl _ _ rfl hh2 rfl rfl (wf_V _) ?_))
        go_ret
        exact ⟨ret_bool hfin.out.symm, hb.trans (hb2.mono hb.size)⟩
      · have hnd2 : (0 :: (plc l).take (k + 1)).Nodup := hnn.out.2 ⟨hnd, fun h => hm (hms.2 h)⟩
        clear hms hnd
        go_wp2_with (first
          | (go_at_call 20; refine (num_any _ _ hx0 hx1).mono ?_; rintro e w' ⟨rfl, rfl⟩)
          | (at_lookup; refine wp_look rfl _ _ rfl hh2 rfl rfl (wf_V _) ?_)
          | (refine wp_put rfl (.tmp 19) (.tmp 22) (.const (.bool true)) (.inl rfl) hh2 rfl rfl rfl (wf_V _) (by unfold maxLen; omega) ?_; intro w3 hh3 hg3))
        go_roundw
        case rel => exact ⟨k + 1, by omega, by go_num, by rw [hst.out]; exact hh3, hnd2, (hb.trans (hb2.mono hb.size)).grown hg3 (by have := hb.size; simp; omega) (fun k e => by cases e; exact Nat.le_refl _)⟩
        case measure => simp [intOf]; omega
    · have hfin : Hid (apartB l = true) := Lib.hid (by
        unfold apartB
        rw [decide_eq_true_eq]
        rwa [List.take_of_length_le (by rw [plc_length, hl.out]; omega)] at hnd)
      clear hnd
      go_wp2
      go_ret
      exact ⟨ret_bool hfin.out.symm, hb⟩
end Go.Proofs.Ytpngkdhfjginlaa
