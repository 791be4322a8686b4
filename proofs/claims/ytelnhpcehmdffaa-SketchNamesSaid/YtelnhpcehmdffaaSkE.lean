/-
  The contracts of sketches (2): one of the equations; a row less another one.
-/
import Derived.Test.YtelnhpcehmdffaaSkD
import Derived.StillTail
import Derived.StillTailTactics
namespace Go.Proofs.Ytelnhpcehmdffaa
open Go.RowKit
attribute [local go_sem] T_V

theorem pow_snoc (z : F) (i : Nat) : z ^ i * z = z ^ (i + 1) := by grind
/-- The first numbers of an equation. -/
def eqnL (a b z : F) (one two i : Nat) : List F := (List.range i).map (eqn a b z one two)
theorem eqnL_snoc (a b z : F) (one two i : Nat) : (eqnL a b z one two (i + 1)).map V = (eqnL a b z one two i).map V ++ [V (eqn a b z one two i)] := range_snoc _ _
/-- A power, under a name. -/
def pwF (z : F) (i : Nat) : F := z ^ i
theorem pwF_zero (z : F) : pwF z 0 = 1 := pow_zero' z
theorem pwF_snoc (z : F) (i : Nat) : pwF z i * z = pwF z (i + 1) := pow_snoc z i
theorem eqn_lo {a b z : F} {one two i : Nat} (h : i < one) : eqn a b z one two i = b * pwF z i := by unfold eqn; rw [if_pos h]; rfl
theorem eqn_mid {a b z : F} {one two i : Nat} (h : i < two) : eqn a b z one two (one + i) = -(a * pwF z i) := by unfold eqn; rw [if_neg (by omega), if_pos (by omega), show one + i - one = i by omega]; rfl
theorem eqn_hi {a b z : F} {one two : Nat} : eqn a b z one two (one + two) = -(b * pwF z one) + a * pwF z two := by unfold eqn; rw [if_neg (by omega), if_neg (by omega)]; rfl

set_option maxRecDepth 100000 in
set_option maxHeartbeats 1000000 in
theorem equation_any (a b : F) (k one two : Nat) (w : World) (hk : k < 1000) (h1 : one ≤ 1000) (h2 : two ≤ 1000) :
    Calls Try.prog 27 #[.int .u64 (V a), .int .u64 (V b), .int .i64 k, .int .i64 one, .int .i64 two] w fun e w' => ∃ v, e = .returned v ∧ Own w' w.heap.size v (one + two + 1) ((eqnL a b (ptF k) one two (one + two + 1)).map V) ∧ Below w.heap.size w w' := by
  go_enter Try.func27, Try.ntmps27
  go_wp2_with fail
  refine (point_any k _ hk).mono ?_
  rintro e w1 ⟨rfl, rfl⟩
  obtain ⟨z, hz⟩ : ∃ z, Hid (ptF k = z) := ⟨_, Lib.hid rfl⟩
  rw [hz.out]
  go_wp2_with fail
  go_loopw [11, 13, 18] (fun ov pv iv wr => ∃ i : Nat, i ≤ one ∧ iv = .int .i64 i ∧ pv = .int .u64 (V (pwF z i)) ∧ Own wr w.heap.size ov i ((eqnL a b z one two i).map V) ∧ Below w.heap.size w wr)
    (fun _ _ iv _ => one - (intOf iv).toNat)
  case atStart => exact ⟨0, Nat.zero_le _, rfl, by rw [pwF_zero]; rfl, Own.nil _ _, Below.refl _ _⟩
  case round =>
    obtain ⟨i, hi, rfl, rfl, hown, hb⟩ := hrel
    by_cases hlt : i < one
    · have hst := Lib.hid (eqnL_snoc a b z one two i)
      have hv := Lib.hid (eqn_lo (a := a) (b := b) (z := z) (two := two) hlt)
      have hp := Lib.hid (pwF_snoc z i)
      have hsz := hb.size
      generalize pwF z i = p at *
      go_wp2_with fail
      refine (mul_any _ _ _ (V_lo _) (V_64 _) (V_lo _) (V_64 _)).mono ?_
      rintro e w1 ⟨rfl, rfl⟩
      rw [T_V, T_V, ← hv.out]
      go_wp2_with (first
        | (at_builtin; refine app_one rfl _ _ rfl hown rfl rfl ⟨V_lo _, V_64 _⟩ (by omega) hsz ?_; intro v' w3 hown3 hb3)
        | (go_at_call 22; refine (mul_any _ _ _ (V_lo _) (V_64 _) (V_lo _) (V_64 _)).mono ?_; rintro e w1 ⟨rfl, rfl⟩; rw [T_V, T_V, hp.out]))
      go_roundw
      case rel => exact ⟨i + 1, by omega, by go_num, rfl, by rw [hst.out]; exact hown3, hb.trans hb3⟩
      case measure => simp [intOf]; omega
    · obtain rfl : i = one := by omega
      clear hlt
      obtain ⟨y, hy⟩ : ∃ y, Hid (-(b * pwF z i) = y) := ⟨_, Lib.hid rfl⟩
      go_wp2_with fail
      refine (mul_any _ _ _ (V_lo _) (V_64 _) (V_lo _) (V_64 _)).mono ?_
      rintro e w1 ⟨rfl, rfl⟩
      rw [T_V, T_V]
      go_wp2_with fail
      refine (neg_any _ _ (V_lo _) (V_64 _)).mono ?_
      rintro e w1 ⟨rfl, rfl⟩
      rw [T_V, hy.out]
      go_wp2_with fail
      go_loopw [11, 13, 35] (fun ov pv jv wy => ∃ j : Nat, j ≤ two ∧ jv = .int .i64 j ∧ pv = .int .u64 (V (pwF z j)) ∧ Own wy w.heap.size ov (i + j) ((eqnL a b z i two (i + j)).map V) ∧ Below w.heap.size w wy)
        (fun _ _ jv _ => two - (intOf jv).toNat)
      case atStart => exact ⟨0, Nat.zero_le _, rfl, by rw [pwF_zero]; rfl, hown, hb⟩
      case round =>
        clear hown hb
        obtain ⟨j, hj, rfl, rfl, hown, hb⟩ := hrel
        have hsz := hb.size
        by_cases hlt2 : j < two
        · have hst := Lib.hid (eqnL_snoc a b z i two (i + j))
          have hv := Lib.hid (eqn_mid (a := a) (b := b) (z := z) (one := i) hlt2)
          have hp := Lib.hid (pwF_snoc z j)
          generalize pwF z j = p at *
          go_wp2_with fail
          refine (mul_any _ _ _ (V_lo _) (V_64 _) (V_lo _) (V_64 _)).mono ?_
          rintro e w1 ⟨rfl, rfl⟩
          rw [T_V, T_V]
          go_wp2_with fail
          refine (neg_any _ _ (V_lo _) (V_64 _)).mono ?_
          rintro e w1 ⟨rfl, rfl⟩
          rw [T_V, ← hv.out]
          go_wp2_with (first
            | (at_builtin; refine app_one rfl _ _ rfl hown rfl rfl ⟨V_lo _, V_64 _⟩ (by omega) hsz ?_; intro v' w3 hown3 hb3)
            | (go_at_call 22; refine (mul_any _ _ _ (V_lo _) (V_64 _) (V_lo _) (V_64 _)).mono ?_; rintro e w1 ⟨rfl, rfl⟩; rw [T_V, T_V, hp.out]))
          go_roundw
          case rel => exact ⟨j + 1, by omega, by go_num, rfl, by rw [← Nat.add_assoc, hst.out]; exact hown3, hb.trans hb3⟩
          case measure => simp [intOf]; omega
        · obtain rfl : j = two := by omega
          have hst := Lib.hid (eqnL_snoc a b z i j (i + j))
          have hv : Hid (y + a * pwF z j = eqn a b z i j (i + j)) := Lib.hid (by rw [← hy.out]; exact eqn_hi.symm)
          generalize pwF z j = p at *
          go_wp2_with fail
          refine (mul_any _ _ _ (V_lo _) (V_64 _) (V_lo _) (V_64 _)).mono ?_
          rintro e w1 ⟨rfl, rfl⟩
          rw [T_V, T_V]
          go_wp2_with fail
          refine (add_any _ _ _ (V_lo _) (V_64 _) (V_lo _) (V_64 _)).mono ?_
          rintro e w1 ⟨rfl, rfl⟩
          rw [T_V, T_V, hv.out]
          go_wp2_with (at_builtin; refine app_one rfl _ _ rfl hown rfl rfl ⟨V_lo _, V_64 _⟩ (by omega) hsz ?_; intro v' w3 hown3 hb3)
          rw [← hst.out] at hown3
          go_ret
          exact ⟨_, rfl, by rw [hz.out]; exact hown3, hb.trans hb3⟩

/-- A row of numbers in a block, its first n. -/
structure RowAt (w : World) (b n : Nat) (f : Nat → F) : Prop where
  cell : ∀ j, j < n → w.cell? ⟨b, j, none⟩ = some (.int .u64 (V (f j)))
  free : ∀ j, w.frozen? ⟨b, j, none⟩ = false
  lt : b < w.heap.size
theorem RowAt.far {w w' : World} {b g n : Nat} {f : Nat → F} (h : RowAt w b n f) (hg : w.grownBy w' (some g)) (hne : b ≠ g) : RowAt w' b n f := by
  have hbk := hg.block b h.lt (by intro e; injection e with e; exact hne e)
  refine ⟨fun j hj => ?_, fun j => ?_, Nat.lt_of_lt_of_le h.lt hg.size⟩
  · rw [World.cell?_of_block hbk]; exact h.cell j hj
  · have := h.free j
    unfold World.frozen? at this ⊢
    rw [hbk]; exact this
theorem RowAt.drawn {w : World} {b n : Nat} {f : Nat → F} (h : RowAt w b n f) : RowAt w.drew b n f := ⟨h.cell, h.free, h.lt⟩
theorem RowAt.congr {w : World} {b n : Nat} {f g : Nat → F} (h : RowAt w b n f) (e : ∀ j, j < n → f j = g j) : RowAt w b n g := ⟨fun j hj => by rw [← e j hj]; exact h.cell j hj, h.free, h.lt⟩
theorem RowAt.put {w : World} {b n : Nat} {f : Nat → F} (h : RowAt w b n f) {k : Nat} (hk : k < n) (x : F) : RowAt (w.setCell ⟨b, k, none⟩ (.int .u64 (V x))) b n (Pol.upd f k x) := by
  refine ⟨fun j hj => ?_, fun j => ?_, by simpa [World.setCell] using h.lt⟩
  · unfold Pol.upd
    by_cases e : j = k
    · rw [if_pos e, e]; exact World.cell?_setCell_same _ _ _ (h.cell k hk)
    · rw [if_neg e, World.cell?_setCell_other _ _ _ _ (by intro e'; injection e' with _ e'; exact e e'.symm)]; exact h.cell j hj
  · rw [World.frozen?_setCell]; exact h.free j
theorem RowAt.of_own {w : World} {base g n cap : Nat} {f : Nat → F} (h : Own w base (.slice (some ⟨g, 0, none⟩) n cap) n (((List.range n).map f).map V)) : RowAt w g n f := by
  refine ⟨fun j hj => ?_, h.free, (h.lt (g := g) rfl).2⟩
  have h1 := (h.at_ (k := j) hj).1
  rw [nth_V (by simpa using hj)] at h1
  simpa using h1
/-- A row, less so many times another one, of its first k numbers. -/
def mixR (f g : Nat → F) (t : F) (k : Nat) : Nat → F := fun j => if j < k then f j - t * g j else f j
theorem mixR_at (f g : Nat → F) (t : F) (k : Nat) : mixR f g t k k = f k := by unfold mixR; rw [if_neg (by omega)]
theorem mixR_step (f g : Nat → F) (t : F) (k j : Nat) : Pol.upd (mixR f g t k) k (f k - t * g k) j = mixR f g t (k + 1) j := by
  unfold Pol.upd mixR
  by_cases e : j = k
  · subst e; rw [if_pos rfl, if_pos (by omega)]
  · rw [if_neg e]
    by_cases h : j < k
    · rw [if_pos h, if_pos (by omega)]
    · rw [if_neg h, if_neg (by omega)]
theorem grown_refl (w : World) (r : Option Nat) : w.grownBy w r := ⟨rfl, rfl, rfl, Nat.le_refl _, fun _ _ _ => rfl⟩
theorem grown_drew {w w' : World} {r : Option Nat} (h : w.grownBy w' r) : w.grownBy w'.drew r := ⟨h.os, h.tape, h.output, h.size, h.block⟩

set_option maxRecDepth 100000 in
set_option maxHeartbeats 1000000 in
theorem lessRow_any (b1 b2 n c1 c2 : Nat) (f g : Nat → F) (t : F) (w : World) (h1 : RowAt w b1 n f) (h2 : RowAt w b2 n g) (hne : b1 ≠ b2) (hn : n ≤ 1000000) :
    Calls Try.prog 45 #[.slice (some ⟨b1, 0, none⟩) n c1, .slice (some ⟨b2, 0, none⟩) n c2, .int .u64 (V t)] w fun e w' => e = .returned (.tuple #[]) ∧ RowAt w' b1 n (fun j => f j - t * g j) ∧ w.grownBy w' (some b1) := by
  have h0 : RowAt w b1 n (mixR f g t 0) := h1.congr fun j _ => by unfold mixR; rw [if_neg (by omega)]
  go_enter Try.func45, Try.ntmps45
  go_wp2
  go_loopw [9] (fun kv wr => ∃ k : Nat, k ≤ n ∧ kv = .int .i64 k ∧ RowAt wr b1 n (mixR f g t k) ∧ w.grownBy wr (some b1)) (fun kv _ => n - (intOf kv).toNat)
  case atStart => exact ⟨0, Nat.zero_le _, rfl, h0, grown_refl _ _⟩
  case round =>
    clear h0
    obtain ⟨k, hk, rfl, hr, hg⟩ := hrel
    by_cases hlt : k < n
    · have hc1 := hr.cell k hlt
      rw [mixR_at] at hc1
      have hc2 := (h2.far hg (fun e => hne e.symm)).cell k hlt
      have hf1 := hr.free k
      have k1 : (0 : Int) ≤ (k : Int) := by omega
      have k2 : (k : Int) < (n : Int) := by omega
      go_wp2_with fail
      refine wp_region_still_tail 14 (by kernel_rfl) (by kernel_rfl) ?_
      simp only [List.take_succ_cons, List.take_zero, List.drop_succ_cons, List.drop_zero]
      repeat (first
        | still_step
        | (still_call (still_of (mul_any _ _ _ (V_lo _) (V_64 _) (V_lo _) (V_64 _))))
        | (still_call (still_of (sub_any _ _ _ (V_lo _) (V_64 _) (V_lo _) (V_64 _)))))
      refine wpStill_nil ?_
      clear k1 k2
      change wpList _ _ _ _ _ wr.drew
      have hr2 := (hr.drawn.put hlt (f k - t * g k)).congr fun j _ => mixR_step f g t k j
      have hg2 := grown_put (grown_drew hg) k (.int .u64 (V (f k - t * g k)))
      go_wp2
      go_roundw
      case rel => exact ⟨k + 1, by omega, by go_num, hr2, hg2⟩
      case measure => simp [intOf]; omega
    · obtain rfl : k = n := by omega
      have hfin : Hid (RowAt wr b1 k (fun j => f j - t * g j)) := Lib.hid (hr.congr fun j hj => by unfold mixR; rw [if_pos hj])
      go_wp2
      go_returns
      exact ⟨rfl, hfin.out, hg⟩
end Go.Proofs.Ytelnhpcehmdffaa
