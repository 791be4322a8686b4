/-
  Chains of keys (3): Key.
-/
import Derived.Test.YtcnhgkgabddjmaaChB
import Derived.Maps.RangeWalk
namespace Go.Proofs.Ytcnhgkgabddjmaa
open Go.RowKit Go.Maps

/-- A key laid into a chain's map. -/
theorem put_run {w : World} {c b : Nat} {m : Ch} (h : ChAt w c b m) (hm : m.ks.length ≤ 1000) {k v : Int} (hk : valK m.ks k = none) (h0 : -9223372036854775808 ≤ k) (h1 : k ≤ 9223372036854775807) (v0 : 0 ≤ v) (v1 : v ≤ 18446744073709551615) :
    ∃ w', (Instr.mapUpdate 69 (.map (some b)) (.int .i64 k) (.int .u64 v)).run Try.prog w = .ok () w' ∧ ChAt w' c b ⟨m.num, m.st, m.ks ++ [(k, v)]⟩ ∧ w.grownBy w' (some b) := by
  obtain ⟨n, D, ho, hD, hn⟩ := h.map
  obtain ⟨w', hrun, h4, h5⟩ := ho.update key_law Try.underlying69 (by unfold maxLen; omega) (key_of h0 h1) (plainElem_int (q := .u64) (a := v) Try.underlying22 (by simp only [Lit.wf, Bool.and_eq_true, decide_eq_true_eq]; exact ⟨v0, v1⟩))
  exact ⟨w', hrun, ⟨(h5.block c h.lt (by intro e; injection e with e; exact h.ne e.symm)).trans h.blk, KeptM.of h4 (hD.put k v hk)⟩, h5⟩
theorem Two.drew (w : World) (c b : Nat) : Two w w.drew c b := ⟨rfl, rfl, rfl, Nat.le_refl _, fun _ _ _ _ => rfl⟩
theorem ChAt.drew {w : World} {c b : Nat} {m : Ch} (h : ChAt w c b m) : ChAt w.drew c b m := h.below (Below.refl _ _).drew
set_option maxRecDepth 100000 in
set_option maxHeartbeats 4000000 in
theorem Key_any (c b : Nat) (m : Ch) (n : Int) (w : World) (hC : ChAt w c b m) (hn : m.num ≤ 1152921504606846976) (hok : m.Ok) (n0 : -9223372036854775808 ≤ n) (n1 : n ≤ 9223372036854775807) :
    Calls Try.prog 14 #[.pointer (some ⟨c, 0, none⟩), .int .i64 n] w fun e w' => e = .returned (.tuple #[.int .u64 (m.ask n).2.1, .int .i64 (m.ask n).2.2]) ∧ ChAt w' c b (m.ask n).1 ∧ Two w w' c b := by
  have x0 := hC.c0
  have x1 := hC.c1
  have x2 := hC.c2
  have hfew := hok.few
  have hst : 0 ≤ m.st ∧ m.st < 18446744073709551616 := by rcases hok.st with h | h <;> omega
  replace hok := Lib.hid hok
  obtain ⟨nn, D, hown, hD, hnn⟩ := hC.map
  have hkey := key_of n0 n1
  by_cases hz : m.st = 0
  · have t : (m.st == 0) = true := by rw [hz]; rfl
    have hnx := Lib.hid (Ch.ask_zero n hz)
    rw [hnx.out]
    clear hz
    go_enter Try.func14, Try.ntmps14
    go_wp2_with fail
    go_ret2
    exact ⟨rfl, hC, Two.refl _ _ _⟩
  · have t : (m.st == 0) = false := beq_eq_false_iff_ne.2 hz
    cases hv : valK m.ks n with
    | some v =>
      have hnx := Lib.hid (Ch.ask_some hz hv)
      rw [hnx.out]
      have hhas : Maps.has D (.int .i64 n) = true := by rw [hD.has, hv]; rfl
      have hat := Lib.hid (hD.at_ n v (.lit (.int .u64 0)) hv)
      replace hv := Lib.hid hv
      clear hz
      go_enter Try.func14, Try.ntmps14
      go_wp2_with (first
        | (at_lookup; refine wpList_lookup_own_ok_int _ rfl _ _ 69 rfl 3 22 .u64 key_law Try.underlying69 Try.underlying22 (zero_u64 _) b nn D rfl hown _ _ rfl hkey ?_; intro c1 hat1 hwc; rw [hhas]; rw [hat.out] at hat1; injection hat1 with hat1; injection hat1 with _ hat1; subst hat1)
        | (at_delete; refine wpList_delete_own _ rfl _ _ 69 3 rfl 22 key_law Try.underlying69 _ b nn D rfl hown _ _ rfl hkey ?_; intro w1 hown1 hturn1))
      have hg := hturn1.grown
      have hCn : ChAt w1 c b ⟨m.num, m.st, dropK m.ks n⟩ := ⟨(hg.block c hC.lt (by intro e; injection e with e; exact hC.ne e.symm)).trans hC.blk, KeptM.of hown1 (hD.drop hok.out.rise n)⟩
      go_wp2_with fail
      go_ret2
      exact ⟨rfl, hCn, Two.of_grown hg (.inr rfl)⟩
    | none =>
      have hhas : Maps.has D (.int .i64 n) = false := by rw [hD.has, hv]; rfl
      by_cases hlt : n < m.num
      · have hnx := Lib.hid (Ch.ask_used hz hv hlt)
        rw [hnx.out]
        have tl : decide (n < (m.num : Int)) = true := decide_eq_true hlt
        replace hv := Lib.hid hv
        clear hz
        go_enter Try.func14, Try.ntmps14
        go_wp2_with (at_lookup; refine wpList_lookup_own_ok_int _ rfl _ _ 69 rfl 3 22 .u64 key_law Try.underlying69 Try.underlying22 (zero_u64 _) b nn D rfl hown _ _ rfl hkey ?_; intro c1 hat1 hwc; rw [hhas]; clear hat1)
        go_ret2
        exact ⟨rfl, hC, Two.refl _ _ _⟩
      · have tl : decide (n < (m.num : Int)) = false := decide_eq_false hlt
        have hsz := hD.size
        obtain ⟨L, hL⟩ : ∃ L, m.ks.length = L := ⟨_, rfl⟩
        rw [hL] at hsz hfew
        have hlen : ∀ ty, (Builtin.len_ #[69] ty #[.map (some b)]).run Try.prog w.drew = .ok (.int .i64 L) w.drew := fun ty => by
          have := hown.drew.len Try.underlying69 ty
          rwa [hsz] at this
        obtain ⟨df, hdf⟩ : ∃ df : Nat, n - m.num = (df : Int) := ⟨(n - m.num).toNat, by omega⟩
        have hw1 : IntKind.i64.wrap (50 - (L : Int)) = 50 - (L : Int) := IntWalk.i64_in _ (by omega)
        have hw2 : IntKind.i64.wrap (df : Int) = (df : Int) := IntWalk.i64_in _ (by omega)
        by_cases hf : 50 - (m.ks.length : Int) < n - m.num
        · have hnx := Lib.hid (Ch.ask_full hz hv hlt hf)
          rw [hnx.out]
          rw [hL, hdf] at hf
          have tf : decide ((50 : Int) - (L : Int) < (df : Int)) = true := decide_eq_true hf
          replace hv := Lib.hid hv
          clear hz hlt
          go_enter Try.func14, Try.ntmps14
          go_wp2_with (at_lookup; refine wpList_lookup_own_ok_int _ rfl _ _ 69 rfl 3 22 .u64 key_law Try.underlying69 Try.underlying22 (zero_u64 _) b nn D rfl hown _ _ rfl hkey ?_; intro c1 hat1 hwc; rw [hhas]; clear hat1)
          refine wp_region_still_lit (by kernel_rfl) (by kernel_rfl) ?_
          repeat still_step
          refine wpStill_nil ?_
          change Exit.then _ _ _ _ w.drew
          go_wp2_with fail
          go_ret2
          exact ⟨rfl, hC.drew, Two.drew _ _ _⟩
        · have hnx := Lib.hid (Ch.ask_ok hz hv hlt hf)
          rw [hnx.out]
          rw [hL, hdf] at hf
          have tf : decide ((50 : Int) - (L : Int) < (df : Int)) = false := decide_eq_false hf
          have hdn : Hid ((n - m.num).toNat = df) := Lib.hid (by omega)
          rw [hdn.out]
          have hz' := Lib.hid hz
          replace hv := Lib.hid hv
          have hLd : L + df ≤ 50 := by omega
          have hnd : Hid (n = m.num + df) := Lib.hid (by omega)
          replace hL := Lib.hid hL
          have hCd := hC.drew
          have hTd := Two.drew w c b
          clear hz hlt
          go_enter Try.func14, Try.ntmps14
          go_wp2_with (at_lookup; refine wpList_lookup_own_ok_int _ rfl _ _ 69 rfl 3 22 .u64 key_law Try.underlying69 Try.underlying22 (zero_u64 _) b nn D rfl hown _ _ rfl hkey ?_; intro c1 hat1 hwc; rw [hhas]; clear hat1)
          refine wp_region_still_lit (by kernel_rfl) (by kernel_rfl) ?_
          repeat still_step
          refine wpStill_nil ?_
          change Exit.then _ _ _ _ w.drew
          clear hlen x0 x1 x2 hhas hkey hC hdf tf tl hf t hsz hnn
          go_wp2_with fail
          go_loopw [8] (fun _ wr => ∃ j : Nat, j ≤ df ∧ ChAt wr c b (m.fill j) ∧ Two w wr c b) (fun _ wr => match wr.cell? ⟨c, 0, none⟩ with | some (.int _ k) => (n - k).toNat | _ => 0)
          case atStart => exact ⟨0, Nat.zero_le _, hCd, hTd⟩
          case round =>
            clear hCd hTd
            obtain ⟨j, hj, hCj, hTj⟩ := hrel
            have hnum := Ch.fill_num m j
            have hstj := hok.out.fill (j := j) (by rw [hL.out]; omega)
            have y0 := hCj.c0
            have hkl := m.fill_len j
            have hne := Ch.fill_st hz'.out j
            have hsj : 0 ≤ (m.fill j).st ∧ (m.fill j).st < 18446744073709551616 := by rcases hstj.st with h | h <;> omega
            have hnj := hnd.out
            by_cases hlj : j < df
            · have tn : decide (((m.fill j).num : Int) < n) = true := by rw [decide_eq_true_eq]; omega
              have hCd := hCj.drew
              have hTd := Two.drew wr c b
              have z2 := hCd.c2
              have hky := secI_bd msgL [(m.fill j).st]
              have hnk := hstj.new_key
              have hb1 : (m.fill j).num ≤ 4611686018427387904 := by omega
              have hb2 : (m.fill j).ks.length ≤ 1000 := by have := hL.out; omega
              have hb3 : -9223372036854775808 ≤ ((m.fill j).num : Int) ∧ ((m.fill j).num : Int) ≤ 9223372036854775807 := by omega
              replace hnj := Lib.hid hnj
              replace hnum := Lib.hid hnum
              replace hkl := Lib.hid hkl
              replace hnk := Lib.hid hnk
              go_wp2_with fail
              go_region_held3 (fun W => W.cell? ⟨c, 2, none⟩ = some (.map (some b)) ∧ Two wr W c b) (first | exact ⟨z2, hTd⟩ | exact ⟨z22, hTd.trans hT2⟩ | exact ⟨z23, (hTd.trans hT2).trans hT3⟩) (first
                | (go_simp; go_at_call 34; (with_reducible refine (step_any c b (m.fill j) _ hCd hb1 hsj.1 hsj.2).mono ?_); rintro e w2 ⟨rfl, hC2, hT2⟩; obtain ⟨w3, hrun, hC3, hg3⟩ := put_run hC2 (k := ((m.fill j).num : Int)) (v := (m.fill j).key) hb2 hnk.out hb3.1 hb3.2 (by have := hky.1; unfold Ch.key; omega) (by have := hky.2; unfold Ch.key; omega); have z22 := hC2.c2; have z23 := hC3.c2; have hT3 : Two w2 w3 c b := Two.of_grown hg3 (.inr rfl))
                | fail)
              all_goals
                have hC4 : ChAt w3 c b (m.fill (j + 1)) := hC3
                have hT4 := (hTj.trans hTd).trans (hT2.trans (Two.of_grown hg3 (.inr rfl)))
                have y4 := hC4.c0
                have hn4 := Ch.fill_num m (j + 1)
                clear hrun hC3 hC2 z22 hg3
                go_wp2
                go_roundw
                case rel => exact ⟨j + 1, by omega, hC4, hT4⟩
                case measure => rw [y4, y0]; have := hnj.out; have := hnum.out; simp only; omega
            · obtain rfl : j = df := by omega
              have tn : decide (((m.fill j).num : Int) < n) = false := by rw [decide_eq_false_iff_not]; omega
              have hb1 : (m.fill j).num ≤ 4611686018427387904 := by omega
              replace hnj := Lib.hid hnj
              replace hnum := Lib.hid hnum
              replace hkl := Lib.hid hkl
              go_wp2_with fail
              refine (step_any c b (m.fill j) _ hCj hb1 hsj.1 hsj.2).mono ?_
              rintro e w2 ⟨rfl, hC2, hT2⟩
              go_wp2_with fail
              go_ret2
              exact ⟨rfl, hC2, hTj.trans hT2⟩
end Go.Proofs.Ytcnhgkgabddjmaa
