/-
  The contracts of the program's polynomials (6): quotients.
-/
import Derived.Test.YtelnhpcehmdffaaPolyE
namespace Go.Proofs.Ytelnhpcehmdffaa
open Go.RowKit
attribute [local go_sem] T_V

theorem arrF_fs {n k : Nat} {f : Nat → F} {w : World} {b : Nat} {t : TypeId} (h : Arr w b t (arrF n f)) (hk : k ≤ n) : U w (some ⟨b, 0, none⟩) k (((List.range k).map f).map V) := by
  have := h.fs.take hk
  rwa [← List.map_take, ← List.map_take, List.take_range, Nat.min_eq_left hk] at this
theorem range_coef {n : Nat} {l : List F} (h : (trimF l).length ≤ n) : trimF ((List.range n).map (coef l)) = trimF l := by
  apply trimF_congr
  intro i
  rw [coef_range]
  by_cases hi : i < n
  · rw [if_pos hi]
  · rw [if_neg hi, ← coef_trimF l i, coef_ge (by omega)]
theorem Arr.other {w : World} {b b' : Nat} {t : TypeId} {vs : List Value} (h : Arr w b t vs) (hne : b' ≠ b) (i : Nat) (v : Value) : Arr (w.setCell ⟨b', i, none⟩ v) b t vs := by
  unfold Arr at h ⊢
  show (w.heap.modify b' _)[b]? = _
  rw [Array.getElem?_modify, if_neg hne, h]
/-- A polynomial as a result. -/
def Ps (w : World) (v : Value) (P : Pol) : Prop := ∃ p c, v = .slice p P.len c ∧ P.len ≤ c ∧ U w p P.len (P.l.map V)
theorem Ps.nil (w : World) : Ps w (.slice none 0 0) 0 := ⟨none, 0, by rw [Pol.len_zero], by rw [Pol.len_zero]; exact Nat.le_refl _, by rw [Pol.len_zero, Pol.zero_l]; exact U.nil⟩
theorem Ps.below {w w' : World} {v : Value} {P : Pol} (h : Ps w v P) (hb : Below w.heap.size w w') : Ps w' v P := by
  obtain ⟨p, c, hv, hc, hU⟩ := h
  exact ⟨p, c, hv, hc, hU.below hb⟩
/-- A slice in a block from B on. -/
def Fresh (v : Value) (B : Nat) : Prop := ∀ a n c, v = .slice (some a) n c → B ≤ a.block
theorem Fresh.nil (n c B : Nat) : Fresh (.slice none n c) B := fun a _ _ h => by injection h with h; cases h
theorem Fresh.of {b n c B : Nat} (h : B ≤ b) : Fresh (.slice (some ⟨b, 0, none⟩) n c) B := fun a _ _ e => by
  injection e with e
  injection e with e
  rw [← e]; exact h
theorem Fresh.mono {v : Value} {B B' : Nat} (h : Fresh v B) (hB : B' ≤ B) : Fresh v B' := fun a n c e => Nat.le_trans hB (h a n c e)
/-- The array's head as a polynomial. -/
theorem ps_arr {n k : Nat} {f : Nat → F} {w : World} {b c : Nat} {t : TypeId} (h : Arr w b t (arrF n f)) (hk : k ≤ n) (hc : n ≤ c) : Ps w (.slice (some ⟨b, 0, none⟩) (trimF ((List.range k).map f)).length c) (Pol.pf k f) := by
  have hl : (trimF ((List.range k).map f)).length ≤ k := by
    have := trimF_length ((List.range k).map f)
    rwa [List.length_map, List.length_range] at this
  refine ⟨_, _, rfl, Nat.le_trans hl (by omega), ?_⟩
  have h1 := (arrF_fs h hk).take hl
  have e : (((List.range k).map f).map V).take (trimF ((List.range k).map f)).length = (Pol.pf k f).l.map V := by
    rw [← List.map_take, trimF_prefix]; rfl
  rw [e] at h1
  exact h1

set_option maxRecDepth 100000 in
set_option maxHeartbeats 4000000 in
theorem DivMod_any (p q : Option Addr) (n m : Nat) (xs ys : List Int) (c d : Nat) (w : World) (hX : U w p n xs) (hY : U w q m ys) (hn : n ≤ 17592186044416) (hm : m ≤ 17592186044416) :
    Calls Try.prog 31 #[.slice p n c, .slice q m d] w fun e w' => ∃ v1 v2 Q R, e = .returned (.tuple #[v1, v2]) ∧ (Ps w' v1 Q ∧ Fresh v1 w.heap.size) ∧ (Ps w' v2 R ∧ Fresh v2 w.heap.size) ∧ Pol.DivIs (Pol.mk' (xs.map T)) (Pol.mk' (ys.map T)) Q R ∧ Below w.heap.size w w' := by
  have hXl := Lib.hid hX.len
  have hYl := Lib.hid hY.len
  have hna : (trimF (xs.map T)).length ≤ n := by have := trimF_length (xs.map T); rwa [List.length_map, hXl.out] at this
  have hnb : (trimF (ys.map T)).length ≤ m := by have := trimF_length (ys.map T); rwa [List.length_map, hYl.out] at this
  have hcA : Hid (∀ i, coef (Pol.mk' (xs.map T)).l i = if i < n then coef (xs.map T) i else 0) := Lib.hid fun i => by
    rw [Pol.coef_mk]
    by_cases hi : i < n
    · rw [if_pos hi]
    · rw [if_neg hi, coef_ge (by rw [List.length_map, hXl.out]; omega)]
  have hhA : Hid (∀ i, (trimF (xs.map T)).length ≤ i → i < n → coef (xs.map T) i = 0) := Lib.hid fun i h1 _ => by rw [← coef_trimF, coef_ge h1]
  have hcB : Hid (∀ i, coef (Pol.mk' (ys.map T)).l i = if i < (trimF (ys.map T)).length then coef (ys.map T) i else 0) := Lib.hid fun i => by
    rw [Pol.coef_mk]
    by_cases hi : i < (trimF (ys.map T)).length
    · rw [if_pos hi]
    · rw [if_neg hi, ← coef_trimF, coef_ge (by omega)]
  have hlB : Hid ((Pol.mk' (ys.map T)).len = (trimF (ys.map T)).length) := Lib.hid rfl
  have hlA : Hid ((Pol.mk' (xs.map T)).len = (trimF (xs.map T)).length) := Lib.hid rfl
  have hpA : Hid (Pol.pf n (coef (xs.map T)) = Pol.mk' (xs.map T)) := Lib.hid (Pol.ext fun i => by rw [Pol.coef_pf, hcA.out])
  have hkA : Hid ((Pol.mk' (xs.map T)).l = trimF (xs.map T)) := Lib.hid rfl
  have hPA : Hid (∀ W, Arr W w.heap.size 40 (arrF n (coef (xs.map T))) → Ps W (.slice (some ⟨w.heap.size, 0, none⟩) (trimF (xs.map T)).length n) (Pol.mk' (xs.map T))) := Lib.hid fun W h => by
    have := ps_arr h (Nat.le_refl n) (Nat.le_refl n)
    rwa [range_coef hna, hpA.out] at this
  have hlast : Hid (0 < (trimF (ys.map T)).length → coef (ys.map T) ((trimF (ys.map T)).length - 1) ≠ 0) := Lib.hid fun h => by
    have := Pol.trimF_last (trimF_trimF (ys.map T)) (fun e => by rw [e] at h; simp at h)
    rwa [coef_trimF] at this
  clear hkA hpA
  go_enter Try.func31, Try.ntmps31
  go_wp2_with fail
  refine (Trim_own p n xs c _ hX (by omega)).mono ?_
  rintro e w1 ⟨rfl, ha1, hb1⟩
  have hal := ha1.lt
  go_wp2_with fail
  refine (Trim_own q m ys d _ (hY.below hb1) (by omega)).mono ?_
  rintro e w2 ⟨rfl, hB, hb2⟩
  have hbl := hB.lt
  have ha := ha1.below hb2 hal
  have hb12 := hb1.trans (hb2.mono hb1.size)
  clear ha1
  generalize (trimF (xs.map T)).length = na at *
  generalize (trimF (ys.map T)).length = nb at *
  generalize coef (xs.map T) = fa0 at *
  generalize coef (ys.map T) = fb at *
  obtain ⟨A, hAe⟩ : ∃ A, Pol.mk' (xs.map T) = A := ⟨_, rfl⟩
  obtain ⟨B, hBe⟩ : ∃ B, Pol.mk' (ys.map T) = B := ⟨_, rfl⟩
  rw [hAe] at hcA hlA hPA
  rw [hBe] at hcB hlB
  have hAE := Lib.hid hAe
  have hBE := Lib.hid hBe
  clear hAe hBe
  by_cases h0 : nb = 0
  · have h0' : ((nb : Int) == 0) = true := by rw [beq_iff_eq]; omega
    have hfin : Hid (Pol.DivIs A B 0 0) := Lib.hid (.inl ⟨Pol.eq_zero_of_len (by rw [hlB.out]; exact h0), rfl, rfl⟩)
    clear h0
    go_wp2_with fail
    go_ret2
    exact ⟨_, _, 0, 0, rfl, ⟨Ps.nil _, Fresh.nil _ _ _⟩, ⟨Ps.nil _, Fresh.nil _ _ _⟩, by rw [hAE.out, hBE.out]; exact hfin.out, hb12⟩
  · have h0' : ((nb : Int) == 0) = false := by rw [beq_eq_false_iff_ne]; omega
    have hBne : Hid (B ≠ 0) := Lib.hid fun e => h0 (by rw [← hlB.out, e, Pol.len_zero])
    have hnb0 : 0 < nb := by omega
    clear h0
    by_cases h1 : na < nb
    · have hfin : Hid (Pol.DivIs A B 0 A) := Lib.hid (.inr ⟨hBne.out, Pol.DivOk.small (by rw [hlA.out, hlB.out]; exact h1)⟩)
      have hR := hPA.out _ ha
      go_wp2_with fail
      go_ret2
      exact ⟨_, _, 0, A, rfl, ⟨Ps.nil _, Fresh.nil _ _ _⟩, ⟨hR, Fresh.of (Nat.le_refl _)⟩, by rw [hAE.out, hBE.out]; exact hfin.out, hb12⟩
    · obtain ⟨nq, hnq⟩ : ∃ nq : Nat, na + 1 = nq + nb := ⟨na + 1 - nb, by omega⟩
      have hqi : (na : Int) - nb + 1 = nq := by omega
      have hmk : ∀ W, (Instr.makeSlice 22 (.int .i64 (nq : Int)) (.int .i64 (nq : Int))).run Try.prog W = .ok (.slice (some ⟨W.heap.size, 0, none⟩) nq nq) (W.alloc (.cells (Array.replicate nq (.int .u64 0)) 40)) := by
        intro W
        have := make_row Try.prog 22 40 _ _ Try.underlying22 rfl rfl rfl rfl rfl (nq : Int) (by omega) (by omega) W
        rw [this, Int.toNat_natCast, List.toArray_replicate]
      have hq0 : Arr (w2.alloc (.cells (Array.replicate nq (.int .u64 0)) 40)) w2.heap.size 40 (arrF nq fun _ => 0) := by
        rw [arrF_zero nq _ (fun _ => rfl), ← List.toArray_replicate]; exact Arr.new _ _ _
      have hb3 : Below w2.heap.size w2 (w2.alloc (.cells (Array.replicate nq (.int .u64 0)) 40)) := (Below.refl _ _).alloc (Nat.le_refl _) _
      have ha3 := ha.below hb3 (by omega)
      have hB3 := hB.below hb3 hbl
      have hcl := hB3.at_ (j := nb - 1) (by omega)
      have hst0 : Hid (Pol.DivSt A B n nb nq nq (fun _ => 0) fa0) := Lib.hid (Pol.DivSt.start hcA.out hhA.out hnq)
      have hb03 := hb12.trans (hb3.mono hb12.size)
      obtain ⟨w3, e3⟩ : ∃ w3, Hid (w2.alloc (.cells (Array.replicate nq (.int .u64 0)) 40) = w3) := ⟨_, Lib.hid rfl⟩
      rw [e3.out] at hq0 hb3 ha3 hB3 hb03
      go_wp2_with fail
      rw [e3.out]
      refine (inv_b (Below.refl _ _) _ (V_lo _) (V_64 _)).mono ?_
      rintro e w4 ⟨rfl, hb4⟩
      have hq4 := hq0.below hb4 hq0.lt
      have ha4 := ha3.below hb4 ha3.lt
      have hB4 := hB3.below hb4 hB3.lt
      have hb04 := hb03.trans (hb4.mono hb03.size)
      clear hmk hcl hq0 ha3 hB3 ha hB hqi
      go_wp2_with fail
      go_loopw [7] (fun kv wr => ∃ (j : Nat) (fq fa : Nat → F), j ≤ nq ∧ kv = .int .i64 ((j : Int) - 1) ∧ Arr wr w2.heap.size 40 (arrF nq fq) ∧ Arr wr w.heap.size 40 (arrF n fa) ∧ Arr wr w1.heap.size 40 (arrF m fb) ∧ Hid (Pol.DivSt A B n nb nq j fq fa) ∧ Below w.heap.size w wr)
        (fun kv _ => (intOf kv + 1).toNat)
      case atStart => exact ⟨nq, _, _, Nat.le_refl _, rfl, hq4, ha4, hB4, hst0, hb04⟩
      case round =>
        clear hq4 ha4 hB4 hb04
        obtain ⟨j, fq, fa, hj, rfl, hq, ha, hB, hst, hb⟩ := hrel
        cases j with
        | succ k =>
          have e1 : ((k + 1 : Nat) : Int) - 1 = k := by omega
          rw [e1]
          clear e1
          have hlt : k < nq := by omega
          have hcq := hq.at_ hlt
          have hfq := hq.free k
          have hca := ha.at_ (j := k + nb - 1) (by omega)
          obtain ⟨C, hC⟩ : ∃ C : F, Hid (fa (k + nb - 1) * inv (fb (nb - 1)) = C) := ⟨_, Lib.hid rfl⟩
          have hCb : Hid (C * fb (nb - 1) = fa (k + nb - 1)) := Lib.hid (by
            have := mul_inv _ (hlast.out hnb0)
            rw [← hC.out]; grind)
          have hst2 := Lib.hid (hst.out.step hcB.out hlt (by omega) hnb0 hCb.out)
          have hq2 : Arr (wr.setCell ⟨w2.heap.size, k, none⟩ (.int .u64 (V C))) w2.heap.size 40 (arrF nq (Pol.upd fq k C)) := by
            have := Arr.set hq k (.int .u64 (V C))
            rwa [arrF_set nq _ (Pol.upd fq k C) k C (fun j => rfl)] at this
          have ha2 : Arr (wr.setCell ⟨w2.heap.size, k, none⟩ (.int .u64 (V C))) w.heap.size 40 (arrF n (Pol.subAt fa fb C k 0)) := by
            rw [Pol.subAt_zero]; exact ha.other (by omega) _ _
          have hB2 : Arr (wr.setCell ⟨w2.heap.size, k, none⟩ (.int .u64 (V C))) w1.heap.size 40 (arrF m fb) := hB.other (by omega) _ _
          have hb2' : Below w.heap.size w (wr.setCell ⟨w2.heap.size, k, none⟩ (.int .u64 (V C))) := hb.setCell (show w.heap.size ≤ w2.heap.size by omega) _
          have k1 : (0 : Int) ≤ (k : Int) + nb - 1 := by omega
          have k2 : (k : Int) + nb - 1 < na := by omega
          go_wp2_with (go_at_call 22; refine (mul_any _ _ _ (V_lo _) (V_64 _) (V_lo _) (V_64 _)).mono ?_; rintro e w' ⟨rfl, rfl⟩)
          rw [hC.out]
          clear k1 k2 hcq hfq hca
          obtain ⟨wo, eo⟩ : ∃ wo, Hid (wr.setCell ⟨w2.heap.size, k, none⟩ (.int .u64 (V C)) = wo) := ⟨_, Lib.hid rfl⟩
          rw [eo.out] at hq2 ha2 hB2 hb2' ⊢
          clear eo hq ha hB hb hst
          go_loopw [8, 9, 59] (fun _ _ i wy => ∃ t : Nat, t ≤ nb ∧ i = .int .i64 t ∧ Arr wy w2.heap.size 40 (arrF nq (Pol.upd fq k C)) ∧ Arr wy w.heap.size 40 (arrF n (Pol.subAt fa fb C k t)) ∧ Arr wy w1.heap.size 40 (arrF m fb) ∧ Below w.heap.size w wy)
            (fun _ _ i _ => nb - (intOf i).toNat)
          case atStart => exact ⟨0, Nat.zero_le _, rfl, hq2, ha2, hB2, hb2'⟩
          case round =>
            clear hq2 ha2 hB2 hb2'
            obtain ⟨t, ht, rfl, hq, ha, hB, hb⟩ := hrel
            by_cases hlt2 : t < nb
            · have hcb := hB.at_ (j := t) (by omega)
              have hcq := hq.at_ hlt
              have hca := ha.at_ (j := k + t) (by omega)
              have hfa := ha.free (k + t)
              have hu : Hid (Pol.upd fq k C k = C) := Lib.hid (by unfold Pol.upd; rw [if_pos rfl])
              rw [hu.out] at hcq
              have hix1 : (0 : Int) ≤ (t : Int) := by omega
              have hix2 : (t : Int) < (nb : Int) := by omega
              go_wp2_with fail
              have hw1 : IntKind.i64.wrap ((k : Int) + t) = (k : Int) + t := IntWalk.i64_in _ (by omega)
              have hw2 : (0 : Int) ≤ (k : Int) + t := by omega
              have hw3 : (k : Int) + t < (na : Int) := by omega
              have hw4 : ((k : Int) + t).toNat = k + t := by omega
              have hw5 : (0 : Int) ≤ (k : Int) := by omega
              have hw6 : (k : Int) < (nq : Int) := by omega
              refine wp_region_still_tail 18 (by kernel_rfl) (by kernel_rfl) ?_
              simp only [List.take_succ_cons, List.take_zero, List.drop_succ_cons, List.drop_zero]
              repeat (first
                | still_step
                | (still_call (still_of (mul_any _ _ _ (V_lo _) (V_64 _) (V_lo _) (V_64 _))))
                | (still_call (still_of (sub_any _ _ _ (V_lo _) (V_64 _) (V_lo _) (V_64 _)))))
              refine wpStill_nil ?_
              clear hw1 hw2 hw3 hw4 hw5 hw6
              change wpList _ _ _ _ _ wr.drew
              have ha3 : Arr (wr.drew.setCell ⟨w.heap.size, k + t, none⟩ (.int .u64 (V (Pol.subAt fa fb C k t (k + t) - C * fb t)))) w.heap.size 40 (arrF n (Pol.subAt fa fb C k (t + 1))) := by
                have := Arr.set (w := wr.drew) ha (k + t) (.int .u64 (V (Pol.subAt fa fb C k t (k + t) - C * fb t)))
                rwa [arrF_set n _ (Pol.subAt fa fb C k (t + 1)) (k + t) _ (fun j => Pol.subAt_succ fa fb C k t j)] at this
              have hq3 := Arr.other (w := wr.drew) hq (b' := w.heap.size) (by omega) (k + t) (.int .u64 (V (Pol.subAt fa fb C k t (k + t) - C * fb t)))
              have hB3 := Arr.other (w := wr.drew) hB (b' := w.heap.size) (by omega) (k + t) (.int .u64 (V (Pol.subAt fa fb C k t (k + t) - C * fb t)))
              have hb3 : Below w.heap.size w (wr.drew.setCell ⟨w.heap.size, k + t, none⟩ (.int .u64 (V (Pol.subAt fa fb C k t (k + t) - C * fb t)))) := hb.drew.setCell (Nat.le_refl _) _
              go_wp2
              go_roundw
              case rel => exact ⟨t + 1, by omega, by go_num, hq3, ha3, hB3, hb3⟩
              case measure => simp [intOf]; omega
            · obtain rfl : t = nb := by omega
              go_wp2
              go_roundw
              case rel => exact ⟨k, _, _, by omega, by go_num, hq, ha, hB, hst2, hb⟩
              case measure => (simp [intOf] <;> omega)
        | zero =>
          have e1 : ((0 : Nat) : Int) - 1 = -1 := by omega
          rw [e1]
          clear e1
          have hQ := ps_arr hq (Nat.le_refl nq) (Nat.le_refl nq)
          have hR := ps_arr ha hna (Nat.le_refl n)
          have hfin : Hid (Pol.DivIs A B (Pol.pf nq fq) (Pol.pf na fa)) := Lib.hid (.inr ⟨hBne.out, by
            rw [← Pol.pf_cut hna (fun i h1 h2 => hst.out.high i (by omega) h2)]
            exact hst.out.done hlB.out hnb0⟩)
          have hU1 := arrF_fs hq (Nat.le_refl nq)
          have hU2 := arrF_fs ha hna
          go_wp2_with fail
          refine (trim_at _ nq _ nq _ hU1 (Nat.le_refl _) (by omega)).mono ?_
          rintro e w5 ⟨rfl, rfl⟩
          go_wp2_with fail
          refine (trim_at _ na _ n _ hU2 hna (by omega)).mono ?_
          rintro e w6 ⟨rfl, rfl⟩
          go_wp2_with fail
          go_ret2
          exact ⟨_, _, _, _, rfl, ⟨hQ, Fresh.of (by omega)⟩, ⟨hR, Fresh.of (Nat.le_refl _)⟩, by rw [hAE.out, hBE.out]; exact hfin.out, hb⟩
end Go.Proofs.Ytelnhpcehmdffaa
