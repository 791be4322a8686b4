/-
  The contracts of the references' polynomials (3): as polynomials; quotients.
-/
import Derived.Test.YtokkjklggkoajaaRefB
import Derived.Test.YtokkjklggkoajaaPolyH
import Derived.Test.YtokkjklggkoajaaPol6
namespace Go.Proofs.Ytokkjklggkoajaa
open Go.RowKit
attribute [local go_sem] T_V

theorem Own.fresh {w : World} {base : Nat} {p : Option Addr} {n c m : Nat} {xs : List Int} (h : Own w base (.slice p n c) m xs) (j k : Nat) : Fresh (.slice p j k) base := fun a _ _ e => by
  injection e with e
  subst e
  exact (h.lt (g := a.block) rfl).1
theorem Apart_of_lt {w : World} {p : Option Addr} {n : Nat} {xs : List Int} (h : U w p n xs) (h0 : 0 < n) : ∀ a, p = some a → a.block < w.heap.size := fun a e => by
  obtain ⟨b, off, e', hb, _⟩ := h.look h0
  rw [e] at e'
  injection e' with e'
  rw [e']; exact hb

set_option maxRecDepth 100000 in
theorem rTrimG (p : Option Addr) (n : Nat) (xs : List Int) (c : Nat) (w : World) (hU : U w p n xs) (hl : n ≤ 8796093022208) :
    Calls Try.prog 15 #[.slice p n c] w fun e w' => ∃ v, e = .returned v ∧ Ps w' v (pol xs) ∧ Fresh v w.heap.size ∧ Below w.heap.size w w' := by
  have hX := Lib.hid hU.len
  go_enter Try.func15, Try.ntmps15
  go_wp2
  go_loopw [3, 4] (fun v i wr => ∃ k : Nat, k ≤ n ∧ i = .int .i64 k ∧ Own wr w.heap.size v k (((xs.map T).take k).map V) ∧ Below w.heap.size w wr)
    (fun _ i _ => n - (intOf i).toNat)
  case atStart => exact ⟨0, Nat.zero_le _, rfl, by rw [List.take_zero]; exact Own.nil _ _, Below.refl _ _⟩
  case round =>
    obtain ⟨k, hk, rfl, hown, hb⟩ := hrel
    by_cases hlt : k < n
    · obtain ⟨b, off, rfl, _, hcell, hx0, hx1⟩ := (hU.below hb).look hlt
      have hst := Lib.hid (take_T (xs := xs) (k := k) (by rw [hX.out]; exact hlt))
      go_wp2_with (first
        | (go_at_call 45; refine (rnum_any _ _ hx0 hx1).mono ?_; rintro e w' ⟨rfl, rfl⟩)
        | (at_builtin; refine app_one rfl _ _ rfl hown rfl rfl ⟨V_lo _, V_64 _⟩ (by omega) hb.size ?_; intro v' w1 hown1 hb1))
      go_roundw
      case rel => exact ⟨k + 1, by omega, by go_num, by rw [hst.out]; exact hown1, hb.trans hb1⟩
      case measure => simp [intOf]; omega
    · obtain rfl : k = n := by omega
      rw [List.take_of_length_le (by rw [List.length_map, hX.out]; exact Nat.le_refl _)] at hown
      obtain ⟨p', c', rfl, hc', hV⟩ := hown.u
      have hfr : Hid (∀ j k, Fresh (.slice p' j k) w.heap.size) := Lib.hid hown.fresh
      clear hown
      have hn := Lib.hid (Fs.len hV)
      generalize hfs : xs.map T = fs at *
      replace hfs := Lib.hid hfs
      go_wp2
      go_loop [3] (fun a => ∃ j : Nat, j ≤ k ∧ a = .slice p' j c' ∧ Hid (trimF (fs.take j) = trimF fs)) (fun a => match a with | .slice _ j _ => j | _ => 0)
      case atStart => exact ⟨k, Nat.le_refl _, rfl, Lib.hid (by rw [List.take_of_length_le (by rw [hn.out]; exact Nat.le_refl _)])⟩
      case round =>
        obtain ⟨j, hj, rfl, ht⟩ := hrel
        by_cases h0 : 0 < j
        · obtain ⟨b, off, rfl, _, hcell, _, _⟩ := hV.look (i := j - 1) (by omega)
          have hj' : j - 1 < fs.length := by rw [hn.out]; omega
          rw [nth_V hj'] at hcell
          by_cases hz : fs[j - 1] = 0
          · have hz' : (V (fs[j - 1]) == 0) = true := by rw [V_inj_zero, beq_iff_eq]; exact hz
            have ht' : Hid (trimF (fs.take (j - 1)) = trimF fs) := Lib.hid (by
              have := trimF_take fs (j - 1) hj' hz
              rw [show j - 1 + 1 = j by omega] at this
              rw [← this]; exact ht.out)
            clear hz ht
            go_wp2
            go_round
            case rel => exact ⟨j - 1, by omega, rfl, ht'⟩
            case measure => show j - 1 < j; omega
          · have hz' : (V (fs[j - 1]) == 0) = false := by rw [V_inj_zero, beq_eq_false_iff_ne]; exact hz
            have ht' : Hid (trimF fs = fs.take j) := Lib.hid (by
              have := trimF_take_ne fs (j - 1) hj' hz
              rw [show j - 1 + 1 = j by omega] at this
              rw [← this]; exact ht.out.symm)
            clear hz ht
            have hfin : Hid (Ps wr (.slice (some ⟨b, off, none⟩) j c') (pol xs)) := Lib.hid (ps_of_fs (P := pol xs) (by
              show Fs _ _ (trimF (xs.map T))
              rw [hfs.out, ht'.out]
              exact ⟨_, j, c', rfl, by omega, by rw [List.map_take]; exact hV.take hj⟩))
            go_wp2
            go_ret
            exact ⟨_, rfl, hfin.out, hfr.out _ _, hb⟩
        · obtain rfl : j = 0 := by omega
          have ht' : Hid (trimF fs = []) := Lib.hid (by rw [← ht.out]; rfl)
          clear ht
          have hfin : Hid (Ps wr (.slice p' 0 c') (pol xs)) := Lib.hid (ps_of_fs (P := pol xs) (by
            show Fs _ _ (trimF (xs.map T))
            rw [hfs.out, ht'.out]
            exact ⟨_, 0, c', rfl, Nat.zero_le _, U.nil⟩))
          go_wp2
          go_ret
          exact ⟨_, rfl, hfin.out, hfr.out _ _, hb⟩
theorem rMulG (p q : Option Addr) (n m : Nat) (xs ys : List Int) (c d : Nat) (w : World) (hX : U w p n xs) (hY : U w q m ys) (hn : n ≤ 1000000) (hm : m ≤ 1000000) :
    Calls Try.prog 19 #[.slice p n c, .slice q m d] w fun e w' => ∃ v, e = .returned v ∧ Ps w' v (pol xs * pol ys) ∧ Below w.heap.size w w' :=
  (rMul_any p q n m xs ys c d w hX hY (by omega) (by omega)).mono fun _ _ ⟨v, he, hv, hb⟩ => ⟨v, he, ps_of_fs (P := pol xs * pol ys) (by
    show Fs _ v (trimF (mulL (trimF (xs.map T)) (trimF (ys.map T))))
    rw [trimF_mul_trim]; exact hv), hb⟩
theorem rAddG (p q : Option Addr) (n m : Nat) (xs ys : List Int) (c d : Nat) (w : World) (hX : U w p n xs) (hY : U w q m ys) (hn : n ≤ 1000000) (hm : m ≤ 1000000) :
    Calls Try.prog 17 #[.slice p n c, .slice q m d] w fun e w' => ∃ v, e = .returned v ∧ Ps w' v (pol xs + pol ys) ∧ Below w.heap.size w w' :=
  (rAdd_any p q n m xs ys c d w hX hY (by omega) (by omega)).mono fun _ _ ⟨v, he, hv, hb⟩ => ⟨v, he, ps_of_fs (P := pol xs + pol ys) (by
    show Fs _ v (trimF (addL (trimF (xs.map T)) (trimF (ys.map T))))
    rw [trimF_add_trim]; exact hv), hb⟩

/-- A coefficient of what is left, one more round. -/
theorem less_snoc (L B : Pol) (c : F) (k i : Nat) : ((List.range (i + 1)).map (Pol.lessAt L B c k)).map V = ((List.range i).map (Pol.lessAt L B c k)).map V ++ [V (Pol.lessAt L B c k i)] := range_snoc _ _
theorem coef_cell {P : Pol} {w : World} {p : Option Addr} {n : Nat} (h : U w p n (P.l.map V)) {i : Nat} (hi : i < n) : nth (P.l.map V) i = V (coef P.l i) := by
  have := h.len
  rw [List.length_map] at this
  exact coef_nth (by omega)

theorem U.other {w : World} {b off n : Nat} {xs : List Int} (h : U w (some ⟨b, off, none⟩) n xs) {g : Nat} (hne : b ≠ g) (i : Nat) (v : Value) : U (w.setCell ⟨g, i, none⟩ v) (some ⟨b, off, none⟩) n xs := by
  refine ⟨h.len, ?_, h.bd⟩
  rcases h.rd with h1 | ⟨b', off', e, hc⟩
  · exact .inl h1
  · refine .inr ⟨b', off', e, fun j hj => ?_⟩
    injection e with e
    injection e with e1 e2
    subst e1
    rw [World.cell?_of_block (Below.heap_setCell _ _ _ _ hne)]
    exact hc j hj

set_option maxRecDepth 100000 in
set_option maxHeartbeats 4000000 in
theorem rDivMod_any (p q : Option Addr) (n m : Nat) (xs ys : List Int) (c d : Nat) (w : World) (hX : U w p n xs) (hY : U w q m ys) (hn : n ≤ 1000000) (hm : m ≤ 1000000) :
    Calls Try.prog 25 #[.slice p n c, .slice q m d] w fun e w' => ∃ v1 v2 Q R, e = .returned (.tuple #[v1, v2]) ∧ Ps w' v1 Q ∧ Ps w' v2 R ∧ Pol.DivIs (pol xs) (pol ys) Q R ∧ Below w.heap.size w w' := by
  have hla : (pol xs).len ≤ n := by have := pol_len xs; rw [hX.len] at this; exact this
  have hlb : (pol ys).len ≤ m := by have := pol_len ys; rw [hY.len] at this; exact this
  go_enter Try.func25, Try.ntmps25
  go_wp2_with fail
  refine (rTrimG q m ys d _ hY (by omega)).mono ?_
  rintro e w1 ⟨v1, rfl, ⟨pb, cb, rfl, hcb, hUB⟩, _, hb1⟩
  obtain ⟨B, hBe⟩ : ∃ B, Hid (pol ys = B) := ⟨_, Lib.hid rfl⟩
  rw [hBe.out] at hUB hcb hlb ⊢
  obtain ⟨nb, hnb⟩ : ∃ nb, Hid (B.len = nb) := ⟨_, Lib.hid rfl⟩
  rw [hnb.out] at hUB hcb hlb ⊢
  by_cases h0 : nb = 0
  · have h0' : ((nb : Int) == 0) = true := by rw [beq_iff_eq]; omega
    have hfin : Hid (Pol.DivIs (pol xs) B 0 0) := Lib.hid (.inl ⟨Pol.eq_zero_of_len (by rw [hnb.out]; exact h0), rfl, rfl⟩)
    clear h0
    go_wp2_with fail
    go_ret2
    exact ⟨_, _, 0, 0, rfl, Ps.nil _, Ps.nil _, by rw [hBe.out]; exact hfin.out, hb1⟩
  · have h0' : ((nb : Int) == 0) = false := by rw [beq_eq_false_iff_ne]; omega
    have hBne : Hid (B ≠ 0) := Lib.hid fun e => h0 (by rw [← hnb.out, e, Pol.len_zero])
    have hnb0 : 0 < nb := by omega
    clear h0
    obtain ⟨b, off, rfl, hbb, hcell, _, _⟩ := hUB.look (i := nb - 1) (by omega)
    have htop : Hid (nth (B.l.map V) (nb - 1) = V B.top) := Lib.hid (by rw [coef_cell hUB (by omega)]; unfold Pol.top; rw [hnb.out])
    rw [htop.out] at hcell
    go_wp2_with fail
    refine (rTrimG p n xs c _ (hX.below hb1) (by omega)).mono ?_
    rintro e w2 ⟨v2, rfl, ⟨pa, ca, rfl, hca, hUA⟩, _, hb2⟩
    obtain ⟨A, hAe⟩ : ∃ A, Hid (pol xs = A) := ⟨_, Lib.hid rfl⟩
    rw [hAe.out] at hUA hca hla ⊢
    obtain ⟨na, hna⟩ : ∃ na, Hid (A.len = na) := ⟨_, Lib.hid rfl⟩
    rw [hna.out] at hUA hca hla ⊢
    have hUB2 := hUB.below hb2
    have hcell2 := (hb2.cell hbb).trans hcell
    have hb12 := hb1.trans (hb2.mono hb1.size)
    clear hcell hUB
    go_wp2_with fail
    refine (rinv_b (Below.refl _ _) _ (V_lo _) (V_64 _)).mono ?_
    rintro e w3 ⟨rfl, hb3⟩
    rw [T_V]
    have hb03 := hb12.trans (hb3.mono hb12.size)
    have hUB3 := hUB2.below hb3
    have hUA3 := hUA.below hb3
    clear hUB2 hUA hcell2
    obtain ⟨nq, hnq⟩ : ∃ nq : Nat, nq = na + 1 - nb := ⟨_, rfl⟩
    have hnq' : (nq + nb = na + 1 ∨ nq = 0) ∧ na + 1 ≤ nq + nb := by omega
    clear hnq
    have hmk : ∀ W, (Instr.makeSlice 22 (.int .i64 (nq : Int)) (.int .i64 (nq : Int))).run Try.prog W = .ok (.slice (some ⟨W.heap.size, 0, none⟩) nq nq) (W.alloc (.cells (Array.replicate nq (.int .u64 0)) 23)) := by
      intro W
      have := make_row Try.prog 22 23 _ _ Try.underlying22 rfl rfl rfl rfl rfl (nq : Int) (by omega) (by omega) W
      rw [this, Int.toNat_natCast, List.toArray_replicate]
    have hq0 : Arr (w3.alloc (.cells (Array.replicate nq (.int .u64 0)) 23)) w3.heap.size 23 (arrF nq fun _ => 0) := by
      rw [arrF_zero nq _ (fun _ => rfl), ← List.toArray_replicate]; exact Arr.new _ _ _
    have hb4 : Below w3.heap.size w3 (w3.alloc (.cells (Array.replicate nq (.int .u64 0)) 23)) := (Below.refl _ _).alloc (Nat.le_refl _) _
    obtain ⟨w4, e4⟩ : ∃ w4, Hid (w3.alloc (.cells (Array.replicate nq (.int .u64 0)) 23) = w4) := ⟨_, Lib.hid rfl⟩
    rw [e4.out] at hq0 hb4
    have hUB4 := hUB3.below hb4
    have hUA4 := hUA3.below hb4
    have hb04 := hb03.trans (hb4.mono hb03.size)
    have hst0 : Hid (Pol.TakeSt A B nq nb (fun _ => 0) A) := Lib.hid (Pol.TakeSt.start A B nq nb)
    have hbq : b < w3.heap.size := by have := hb2.size; have := hb3.size; omega
    have hap : Hid (0 < na → ∀ a, pa = some a → a.block ≠ w3.heap.size) := Lib.hid fun h a e => Nat.ne_of_lt (Apart_of_lt hUA3 h a e)
    clear hUA3 hUB3
    by_cases hq : na < nb
    · have hq0' : nq = 0 := by omega
      have hdv : Hid (Pol.DivIs (pol xs) B 0 A) := Lib.hid (.inr ⟨hBne.out, by rw [hAe.out]; exact Pol.DivOk.small (by rw [hna.out, hnb.out]; exact hq)⟩)
      rw [hq0'] at hmk e4
      have hmk0 : ∀ W, (Instr.makeSlice 22 (.int .i64 0) (.int .i64 0)).run Try.prog W = .ok (.slice (some ⟨W.heap.size, 0, none⟩) 0 0) (W.alloc (.cells (Array.replicate 0 (.int .u64 0)) 23)) := hmk
      have hPA : Hid (Ps w4 (.slice pa na ca) A) := Lib.hid (by
        rw [← hna.out] at hUA4 hca ⊢
        exact ⟨pa, ca, rfl, hca, hUA4⟩)
      clear hmk hq0' hst0 hap hUB4 hnq' hq0
      have e40 : Hid (w3.alloc (.cells #[] 23) = w4) := Lib.hid e4.out
      have hp0 : Hid (pol [] = 0) := Lib.hid Pol.mk_nil
      by_cases htie : na + 1 = nb
      · have hz : (na : Int) - nb + 1 = 0 := by omega
        clear htie
        go_wp2_with fail
        rw [e40.out]
        clear hz hmk0
        go_loopw [7] (fun lv wr => lv = .slice pa na ca ∧ w4 = wr) (fun _ _ => 0)
        case atStart => exact ⟨rfl, rfl⟩
        case round =>
          obtain ⟨rfl, rfl⟩ := hrel
          go_wp2_with fail
          refine (rTrimG _ 0 [] 0 _ U.nil (by omega)).mono ?_
          rintro e w7 ⟨v7, rfl, hP7, _, hb7⟩
          rw [hp0.out] at hP7
          obtain ⟨p7, c7, rfl, hc7, hU7⟩ := hP7
          have hPA7 : Hid (Ps w7 (.slice pa na ca) A) := Lib.hid (hPA.out.below hb7)
          have hP7 : Hid (Ps w7 (.slice p7 0 c7) 0) := Lib.hid ⟨p7, c7, by rw [Pol.len_zero], hc7, hU7⟩
          have hb07 := hb04.trans (hb7.mono hb04.size)
          rw [Pol.len_zero]
          go_wp2_with fail
          go_ret2
          exact ⟨_, _, _, _, rfl, hP7.out, hPA7.out, by rw [hBe.out]; exact hdv.out, hb07⟩
      · have hz : (na : Int) - nb + 1 < 0 := by omega
        clear htie
        go_wp2_with fail
        rw [e40.out]
        clear hz hmk0
        go_loopw [7] (fun lv wr => lv = .slice pa na ca ∧ w4 = wr) (fun _ _ => 0)
        case atStart => exact ⟨rfl, rfl⟩
        case round =>
          obtain ⟨rfl, rfl⟩ := hrel
          go_wp2_with fail
          refine (rTrimG _ 0 [] 0 _ U.nil (by omega)).mono ?_
          rintro e w7 ⟨v7, rfl, hP7, _, hb7⟩
          rw [hp0.out] at hP7
          obtain ⟨p7, c7, rfl, hc7, hU7⟩ := hP7
          have hPA7 : Hid (Ps w7 (.slice pa na ca) A) := Lib.hid (hPA.out.below hb7)
          have hP7 : Hid (Ps w7 (.slice p7 0 c7) 0) := Lib.hid ⟨p7, c7, by rw [Pol.len_zero], hc7, hU7⟩
          have hb07 := hb04.trans (hb7.mono hb04.size)
          rw [Pol.len_zero]
          go_wp2_with fail
          go_ret2
          exact ⟨_, _, _, _, rfl, hP7.out, hPA7.out, by rw [hBe.out]; exact hdv.out, hb07⟩
    have hqi : (na : Int) - nb + 1 = nq := by omega
    have hq1 : 1 ≤ nq := by omega
    go_wp2_with fail
    rw [e4.out]
    clear hmk hqi
    have hw3 := Below.size hb03
    go_loopw [7] (fun lv wr => ∃ (L : Pol) (pl : Option Addr) (l cl : Nat) (fq : Nat → F), lv = .slice pl l cl ∧ Hid (L.len = l) ∧ l ≤ na ∧ l ≤ cl ∧ U wr pl l (L.l.map V) ∧ Hid (0 < l → ∀ a, pl = some a → a.block ≠ w3.heap.size) ∧ Arr wr w3.heap.size 23 (arrF nq fq) ∧ U wr (some ⟨b, off, none⟩) nb (B.l.map V) ∧ Hid (Pol.TakeSt A B nq nb fq L) ∧ Below w.heap.size w wr)
      (fun lv _ => match lv with | .slice _ j _ => j | _ => 0)
    case atStart => exact ⟨A, pa, na, ca, _, rfl, hna, Nat.le_refl _, hca, hUA4, hap, hq0, hUB4, hst0, hb04⟩
    case round =>
      clear hUA4 hap hq0 hUB4 hst0 hb04
      obtain ⟨L, pl, l, cl, fq, rfl, hLl, hle, hlc, hUL, hap, hq, hUB, hst, hb⟩ := hrel
      by_cases hlt : nb ≤ l
      · obtain ⟨k, hlk⟩ : ∃ k, l = k + nb := ⟨l - nb, by omega⟩
        have hkq : k < nq := by omega
        have hki : (l : Int) - nb = k := by omega
        obtain ⟨bl, offl, rfl, hbl, hcl, _, _⟩ := hUL.look (i := l - 1) (by omega)
        have htl : Hid (nth (L.l.map V) (l - 1) = V L.top) := Lib.hid (by rw [coef_cell hUL (by omega)]; unfold Pol.top; rw [hLl.out])
        rw [htl.out] at hcl
        have hne : bl ≠ w3.heap.size := hap.out (by omega) _ rfl
        obtain ⟨C, hC⟩ : ∃ C : F, Hid (L.top * inv B.top = C) := ⟨_, Lib.hid rfl⟩
        have hCb : Hid (C * B.top = L.top) := Lib.hid (by
          have := mul_inv _ (Pol.top_ne hBne.out)
          rw [← hC.out]; grind)
        have hst2 := Lib.hid (hst.out.step hnb.out hnb0 (hLl.out.trans hlk) hkq hCb.out)
        have hLk := Lib.hid hlk
        have hll : l ≤ k + nb ∧ k + nb ≤ l := by omega
        clear hst hap hlk hCb
        go_wp2_with fail
        refine (rmul_b (Below.refl _ _) _ _ (V_lo _) (V_64 _) (V_lo _) (V_64 _)).mono ?_
        rintro e w5 ⟨rfl, hb5⟩
        rw [T_V, T_V, hC.out]
        have hq5 := hq.below hb5 hq.lt
        have hcq := hq5.at_ hkq
        have hfq := hq5.free k
        have hq6 : Arr (w5.setCell ⟨w3.heap.size, k, none⟩ (.int .u64 (V C))) w3.heap.size 23 (arrF nq (Pol.upd fq k C)) := by
          have := Arr.set hq5 k (.int .u64 (V C))
          rwa [arrF_set nq _ (Pol.upd fq k C) k C (fun j => rfl)] at this
        have hUL6 := (hUL.below hb5).other hne k (.int .u64 (V C))
        have hUB6 := (hUB.below hb5).other (Nat.ne_of_lt hbq) k (.int .u64 (V C))
        have hb06 : Below w.heap.size w (w5.setCell ⟨w3.heap.size, k, none⟩ (.int .u64 (V C))) := (hb.trans (hb5.mono hb.size)).setCell hw3 _
        obtain ⟨W, eW⟩ : ∃ W, Hid (w5.setCell ⟨w3.heap.size, k, none⟩ (.int .u64 (V C)) = W) := ⟨_, Lib.hid rfl⟩
        rw [eW.out] at hq6 hUL6 hUB6 hb06
        clear hcl hq hUL hUB hb hq5 hC
        go_wp2_with fail
        rw [eW.out]
        clear hcq hfq hki
        go_loopw [12, 13, 14] (fun nv iv _ wy => ∃ i : Nat, i + 1 ≤ l ∧ iv = .int .i64 i ∧ Own wy W.heap.size nv i (((List.range i).map (Pol.lessAt L B C k)).map V) ∧ Below W.heap.size W wy)
          (fun _ iv _ _ => l - (intOf iv).toNat)
        case atStart => exact ⟨0, by omega, rfl, Own.nil _ _, Below.refl _ _⟩
        case round =>
          obtain ⟨i, hi, rfl, hown, hbi⟩ := hrel
          by_cases hlt2 : i + 1 < l
          · have hcx := (hUL6.below hbi).cell (i := i) (by omega)
            rw [coef_cell hUL6 (by omega)] at hcx
            have hsn := Lib.hid (less_snoc L B C k i)
            by_cases hik : k ≤ i
            · obtain ⟨j, hj⟩ : ∃ j, i = k + j := ⟨i - k, by omega⟩
              have hcy := (hUB6.below hbi).cell (i := j) (by omega)
              rw [coef_cell hUB6 (by omega)] at hcy
              have hij : (i : Int) - k = j := by omega
              have hval : Hid (Pol.lessAt L B C k i = coef L.l i - C * coef B.l j) := Lib.hid (by unfold Pol.lessAt; rw [if_pos hik, hj, show k + j - k = j by omega])
              have hjb : j < nb := by omega
              clear hj
              go_wp2_with fail
              refine (rmul_b (Below.refl _ _) _ _ (V_lo _) (V_64 _) (V_lo _) (V_64 _)).mono ?_
              rintro e w7 ⟨rfl, hb7⟩
              rw [T_V, T_V]
              go_wp2_with fail
              refine (rsub_any _ _ _ (V_lo _) (V_64 _) (V_lo _) (V_64 _)).mono ?_
              rintro e w8 ⟨rfl, rfl⟩
              rw [T_V, T_V, ← hval.out]
              have hown7 := hown.below hb7
              have hb67 := hbi.trans (hb7.mono hbi.size)
              go_wp2_with (at_builtin; refine app_one rfl _ _ rfl hown7 rfl rfl ⟨V_lo _, V_64 _⟩ (by omega) hb67.size ?_; intro v' w9 hown9 hb9)
              go_roundw
              case rel => exact ⟨i + 1, by omega, by go_num, by rw [hsn.out]; exact hown9, hb67.trans hb9⟩
              case measure => simp [intOf]; omega
            · have hval : Hid (Pol.lessAt L B C k i = coef L.l i) := Lib.hid (by unfold Pol.lessAt; rw [if_neg hik])
              rw [← hval.out] at hcx
              go_wp2_with (at_builtin; refine app_one rfl _ _ rfl hown rfl rfl ⟨V_lo _, V_64 _⟩ (by omega) hbi.size ?_; intro v' w9 hown9 hb9)
              go_roundw
              case rel => exact ⟨i + 1, by omega, by go_num, by rw [hsn.out]; exact hown9, hbi.trans hb9⟩
              case measure => simp [intOf]; omega
          · obtain ⟨pn, cn, rfl, hcn, hUn⟩ := hown.u
            have hin : Hid (i = k + nb - 1) := Lib.hid (by omega)
            clear hown
            go_wp2_with fail
            refine (rTrimG pn i _ cn _ hUn (by omega)).mono ?_
            rintro e w7 ⟨v7, rfl, ⟨p7, c7, rfl, hc7, hU7⟩, hf7, hb7⟩
            have hpe : Hid (pol (((List.range i).map (Pol.lessAt L B C k)).map V) = Pol.pf (k + nb - 1) (Pol.lessAt L B C k)) := Lib.hid (by unfold pol Pol.pf; rw [map_TV, hin.out])
            rw [hpe.out] at hc7 hU7 ⊢
            have hL7 : (Pol.pf (k + nb - 1) (Pol.lessAt L B C k)).len ≤ k + nb - 1 := Pol.pf_len _ _
            obtain ⟨l7, hl7⟩ : ∃ l7, Hid ((Pol.pf (k + nb - 1) (Pol.lessAt L B C k)).len = l7) := ⟨_, Lib.hid rfl⟩
            rw [hl7.out] at hc7 hU7 hL7 ⊢
            have hb67 := hbi.trans (hb7.mono hbi.size)
            have hap7 : Hid (0 < l7 → ∀ a, p7 = some a → a.block ≠ w3.heap.size) := Lib.hid fun _ a e => by
              have h1 := hf7 a _ _ (by rw [e])
              have h2 := hbi.size
              have h3 := hq6.lt
              omega
            have hq7 := hq6.below hb67 hq6.lt
            have hUB7 := hUB6.below hb67
            have hb07 := hb06.trans (hb67.mono hb06.size)
            clear hf7
            go_wp2
            go_roundw
            case rel => exact ⟨_, p7, l7, c7, _, rfl, hl7, by omega, hc7, hU7, hap7, hq7, hUB7, hst2, hb07⟩
            case measure => show l7 < l; omega
      · have hdv : Hid (Pol.DivIs (pol xs) B (Pol.pf nq fq) L) := Lib.hid (.inr ⟨hBne.out, by rw [hAe.out]; exact hst.out.done hnb.out (by rw [hLl.out]; omega)⟩)
        have hUq := hq.fs
        clear hst hap
        go_wp2_with fail
        refine (rTrimG _ nq _ nq _ hUq (by omega)).mono ?_
        rintro e w7 ⟨v7, rfl, ⟨p7, c7, rfl, hc7, hU7⟩, _, hb7⟩
        have hpe : Hid (pol (((List.range nq).map fq).map V) = Pol.pf nq fq) := Lib.hid (by unfold pol Pol.pf; rw [map_TV])
        rw [hpe.out] at hc7 hU7 ⊢
        obtain ⟨l7, hl7⟩ : ∃ l7, Hid ((Pol.pf nq fq).len = l7) := ⟨_, Lib.hid rfl⟩
        have hP7 : Hid (Ps w7 (.slice p7 l7 c7) (Pol.pf nq fq)) := Lib.hid ⟨p7, c7, by rw [hl7.out], hc7, hU7⟩
        rw [hl7.out]
        have hPL : Hid (Ps w7 (.slice pl l cl) L) := Lib.hid (by
          have h := hUL.below hb7
          rw [← hLl.out] at h hlc ⊢
          exact ⟨pl, cl, rfl, hlc, h⟩)
        have hb07 := hb.trans (hb7.mono hb.size)
        go_wp2_with fail
        go_ret2
        exact ⟨_, _, _, _, rfl, hP7.out, hPL.out, by rw [hBe.out]; exact hdv.out, hb07⟩
end Go.Proofs.Ytokkjklggkoajaa
