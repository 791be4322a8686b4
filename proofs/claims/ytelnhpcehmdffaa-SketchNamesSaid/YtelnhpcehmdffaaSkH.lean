/-
  The contracts of sketches (2): copies, elements, what fits; no equations at all.
-/
import Derived.Test.YtelnhpcehmdffaaSkG
import Derived.Lib.SliceRun
namespace Go.Proofs.Ytelnhpcehmdffaa
open Go.RowKit
attribute [local go_sem] T_V

/-- A list of no numbers, of the call's own. -/
theorem Own.none_at (w : World) : Own (w.alloc (.cells #[] 40)) w.heap.size (.slice (some ⟨w.heap.size, 0, none⟩) 0 0) 0 [] := by
  refine ⟨rfl, ⟨rfl, .inr ⟨w.heap.size, 0, #[], rfl, Nat.le_refl _, ?_, Nat.zero_le _, by unfold maxLen; omega, by simp, by simp⟩⟩, fun _ h => by cases h⟩
  have := Arr.new w 40 []
  exact this
set_option maxRecDepth 100000 in
theorem Clone_any (p : Option Addr) (n : Nat) (xs : List Int) (c : Nat) (w : World) (hU : U w p n xs) (hp : p = none → c = 0) (hn : n ≤ 1000000) :
    Calls Try.prog 29 #[.slice p n c] w fun e w' => ∃ v, e = .returned v ∧ Own w' w.heap.size v n xs ∧ Below w.heap.size w w' := by
  cases p with
  | none =>
    obtain rfl : c = 0 := hp rfl
    have hn0 : n = 0 := by
      rcases Nat.eq_zero_or_pos n with h0 | h0
      · exact h0
      · obtain ⟨_, _, he, _⟩ := hU.look h0
        cases he
    subst hn0
    have hx : xs = [] := List.eq_nil_of_length_eq_zero hU.len
    subst hx
    have hnil : (binOp .eql 22 (.slice none 0 0) (.slice none 0 0)).run Try.prog w = .ok (.bool true) w := Lib.run_eql_slice_nil w _ _ _ _ _ _ _ Try.underlying22
    clear hp
    go_enter Try.func29, Try.ntmps29
    go_wp2
    go_ret
    exact ⟨_, rfl, Own.nil _ _, Below.refl _ _⟩
  | some q =>
    have hb0 : Below w.heap.size w (w.alloc (.cells #[] 40)) := Below.lit w _
    have hown := Own.none_at w
    have hnil : (binOp .eql 22 (.slice (some q) n c) (.slice none 0 0)).run Try.prog w = .ok (.bool false) w := Lib.run_eql_slice_nil w _ _ _ _ _ _ _ Try.underlying22
    clear hp
    have hU1 := hU.below hb0
    go_enter Try.func29, Try.ntmps29
    go_wp2_with (at_builtin; refine app_many rfl _ _ rfl hown rfl rfl hU1 (fun h => by cases h) (by omega) hb0.size ?_; intro v' w1 hown1 hb1)
    go_ret
    rw [Nat.zero_add, List.nil_append] at hown1
    exact ⟨v', rfl, hown1, hb0.trans hb1⟩
/-- No element. -/
def Bad (x : Int) : Prop := x < 1 ∨ 1152921504606846976 < x
set_option maxRecDepth 100000 in
theorem elem1_any (x : Int) (w : World) (hx0 : 0 ≤ x) (hx1 : x < 18446744073709551616) :
    Calls Try.prog 52 #[.int .u64 x] w fun e w' => ((e = .returned (.bool false) ∧ ¬ Bad x) ∨ (e = .returned (.bool true) ∧ Bad x)) ∧ w' = w := by
  by_cases h1 : x < 1
  · go_enter Try.func52, Try.ntmps52
    go_wp2
    go_ret
    exact ⟨.inr ⟨rfl, .inl h1⟩, rfl⟩
  · by_cases h2 : 1152921504606846976 < x
    · have h3 : decide (1152921504606846976 < x) = true := decide_eq_true h2
      have h4 := Lib.hid h2
      clear h2
      go_enter Try.func52, Try.ntmps52
      go_wp2
      go_ret
      exact ⟨.inr ⟨by first | rfl | (simp [h3]), .inr h4.out⟩, rfl⟩
    · go_enter Try.func52, Try.ntmps52
      go_wp2
      go_ret
      exact ⟨.inl ⟨by first | rfl | simp [h2], fun h => h.elim (fun h => by omega) (fun h => by omega)⟩, rfl⟩
set_option maxRecDepth 100000 in
theorem index_any (p : Option Addr) (n : Nat) (xs : List Int) (c : Nat) (w : World) (hU : U w p n xs) (hn : n ≤ 1000000) :
    Calls Try.prog 67 #[.slice p n c, .func (Fn.func 52) #[] #[]] w fun e w' => ((∃ k : Nat, e = .returned (.int .i64 k) ∧ k < n ∧ Bad (nth xs k)) ∨ (e = .returned (.int .i64 (-1)) ∧ ∀ k, k < n → ¬ Bad (nth xs k))) ∧ w' = w := by
  go_enter Try.func67, Try.ntmps67
  go_wp2_with fail
  go_loop [8] (fun iv => ∃ i : Nat, i ≤ n ∧ iv = .int .i64 i ∧ Hid (∀ k, k < i → ¬ Bad (nth xs k))) (fun iv => n - (intOf iv).toNat)
  case atStart => exact ⟨0, Nat.zero_le _, rfl, Lib.hid fun k h => by omega⟩
  case round =>
    obtain ⟨i, hi, rfl, hny⟩ := hrel
    by_cases hlt : i < n
    · obtain ⟨b, off, rfl, hbb, hcell, hx0, hx1⟩ := hU.look hlt
      go_wp2_with fail
      refine (elem1_any _ _ hx0 hx1).mono ?_
      rintro e w1 ⟨⟨rfl, hbad⟩ | ⟨rfl, hbad⟩, rfl⟩
      · have hny2 : Hid (∀ k, k < i + 1 → ¬ Bad (nth xs k)) := Lib.hid fun k h => by
          by_cases e : k = i
          · rw [e]; exact hbad
          · exact hny.out k (by omega)
        clear hny hbad
        go_wp2_with fail
        go_round
        case rel => exact ⟨i + 1, by omega, by go_num, hny2⟩
        case measure => simp [intOf]; omega
      · have hb := Lib.hid hbad
        clear hny hbad
        go_wp2_with fail
        go_ret
        exact ⟨.inl ⟨i, rfl, hlt, hb.out⟩, rfl⟩
    · obtain rfl : i = n := by omega
      go_wp2_with fail
      go_ret
      exact ⟨.inr ⟨rfl, hny.out⟩, rfl⟩
set_option maxRecDepth 100000 in
theorem contains_any (p : Option Addr) (n : Nat) (xs : List Int) (c : Nat) (w : World) (hU : U w p n xs) (hn : n ≤ 1000000) :
    Calls Try.prog 51 #[.slice p n c, .func (Fn.func 52) #[] #[]] w fun e w' => ((e = .returned (.bool true) ∧ ∃ k, k < n ∧ Bad (nth xs k)) ∨ (e = .returned (.bool false) ∧ ∀ k, k < n → ¬ Bad (nth xs k))) ∧ w' = w := by
  go_enter Try.func51, Try.ntmps51
  go_wp2_with fail
  refine (index_any p n xs c _ hU hn).mono ?_
  rintro e w1 ⟨⟨k, rfl, hk, hbad⟩ | ⟨rfl, hbad⟩, rfl⟩
  · have ik : decide ((0 : Int) ≤ (k : Int)) = true := decide_eq_true (by omega)
    have hb := Lib.hid hbad
    clear hbad
    go_wp2_with fail
    go_ret
    exact ⟨.inl ⟨by first | rfl | simp [ik], k, hk, hb.out⟩, rfl⟩
  · have hb := Lib.hid hbad
    clear hbad
    go_wp2_with fail
    go_ret
    exact ⟨.inr ⟨by first | rfl | simp, hb.out⟩, rfl⟩
set_option maxRecDepth 100000 in
theorem solve_nil (M0 : Nat → Nat → F) (w : World) : Calls Try.prog 28 #[.slice none 0 0, .int .i64 0] w (SolveTo w.heap.size 0 0 M0 w) := by
  have hmk := make_ints 0 (by omega)
  rw [show ((0 : Nat) : Int) = 0 from rfl] at hmk
  go_enter Try.func28, Try.ntmps28
  go_wp2
  go_step3
  go_wp2
  go_step3
  go_wp2
  go_loop [7, 22] (fun av iv => iv = .int .i64 0 ∧ av = .slice (some ⟨w.heap.size, 0, none⟩) 0 0) (fun _ _ => 0)
  case atStart => exact ⟨rfl, rfl⟩
  case round =>
    obtain ⟨rfl, rfl⟩ := hrel
    have hmk2 : ∀ W, (Instr.makeSlice 22 (.int .i64 0) (.int .i64 0)).run Try.prog W = .ok (.slice (some ⟨W.heap.size, 0, none⟩) 0 0) (W.alloc (.cells #[] 40)) := by
      intro W
      have := make_row Try.prog 22 40 _ _ Try.underlying22 rfl rfl rfl rfl rfl (0 : Int) (by omega) (by omega) W
      rw [this]; rfl
    have hsl : ∀ W, (Instr.slice 51 (.slice none 0 0) (some (.int .i64 0)) none none).run Try.prog W = .ok (.slice none 0 0) W := by
      intro W
      have hs : (sizeOf (Try.prog.elem 51)).run Try.prog W = .ok 1 W := by kernel_rfl
      have := run_slice_l (P := Try.prog) W 51 none 0 0 (by kernel_rfl) .i64 (0 : Int) (by omega) (by omega)
      rw [this, hs]
      rfl
    go_wp2_with fail
    go_loop [125] (fun iv => iv = .int .i64 0) (fun _ => 0)
    case atStart => rfl
    case round =>
      subst hrel
      go_wp2_with fail
      go_loop [139] (fun iv => iv = .int .i64 0) (fun _ => 0)
      case atStart => rfl
      case round =>
        subst hrel
        go_wp2_with fail
        (try rw [Exit.noGoto_ret])
        go_ret2
        refine ⟨(Below.lit w _).alloc (by simp) _, .inl ⟨_, fun _ => 0, rfl, ?_, ?_, fun i hi => by omega⟩⟩
        · exact ⟨rfl, .inr ⟨_, 0, rfl, fun i h => by simp at h⟩, fun _ h => by cases h⟩
        · simp
set_option maxRecDepth 100000 in
theorem elements_any (p : Option Addr) (n c : Nat) (A : Pol) (w : World) (hA : Sp w p n A) (hn : n ≤ 13) (h0 : 0 < n) :
    Calls Try.prog 32 #[.slice p n c] w fun e w' => ∃ rs, RootsOk A rs ∧ (((rs.length + 1 = n ∧ ∀ x, x ∈ rs → 1 ≤ V x ∧ V x ≤ 1152921504606846976) ∧ ∃ v, e = .returned (.tuple #[v, .bool true]) ∧ Own w' w.heap.size v rs.length (rs.map V)) ∨ (¬ (rs.length + 1 = n ∧ ∀ x, x ∈ rs → 1 ≤ V x ∧ V x ≤ 1152921504606846976) ∧ e = .returned (.tuple #[.slice none 0 0, .bool false]))) ∧ Below w.heap.size w w' := by
  have hrp := hA.rp
  go_enter Try.func32, Try.ntmps32
  go_wp2_with fail
  refine (Roots_p c hrp hn).mono ?_
  rintro e w1 ⟨⟨q, m, d, rs, rfl, hUq, hmn, ⟨hmd, hown⟩, hroots⟩, hb⟩
  have hlm : Hid (m = rs.length) := Lib.hid (by have := hUq.len; rw [List.length_map] at this; exact this.symm)
  by_cases hlen : m + 1 = n
  · subst hlen
    go_wp2_with fail
    refine (contains_any q m _ d _ hUq (by omega)).mono ?_
    rintro e w2 ⟨⟨rfl, hbad⟩ | ⟨rfl, hbad⟩, rfl⟩
    · replace hbad := Lib.hid hbad
      go_wp2_with fail
      go_ret2
      refine ⟨rs, hroots.out, .inr ⟨fun h => ?_, rfl⟩, hb⟩
      obtain ⟨k, hk, hk2⟩ := hbad.out
      have hl : k < rs.length := by rw [← hlm.out]; exact hk
      rw [nth_V hl] at hk2
      have := h.2 _ (List.getElem_mem hl)
      unfold Bad at hk2
      omega
    · replace hbad := Lib.hid hbad
      go_wp2_with fail
      go_ret2
      refine ⟨rs, hroots.out, .inl ⟨⟨by rw [← hlm.out], fun x hx => ?_⟩, _, rfl, by rw [← hlm.out]; exact hown⟩, hb⟩
      obtain ⟨k, hk, rfl⟩ := List.mem_iff_getElem.1 hx
      have h2 := hbad.out k (by rw [hlm.out]; exact hk)
      rw [nth_V hk] at h2
      unfold Bad at h2
      exact ⟨by omega, by omega⟩
  · go_wp2_with fail
    go_ret2
    exact ⟨rs, hroots.out, .inr ⟨fun h => hlen (by rw [hlm.out]; exact h.1), rfl⟩, hb⟩
end Go.Proofs.Ytelnhpcehmdffaa
