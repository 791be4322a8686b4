/-
  The contracts of the program's polynomials (10): the closure that splits a polynomial into its roots.
-/
import Derived.Test.YtelnhpcehmdffaaPolyI
namespace Go.Proofs.Ytelnhpcehmdffaa
open Go.RowKit
attribute [local go_sem] T_V

theorem split_gcd {L : List F} (hd : L.Nodup) {B G : Pol} (f : F → Bool) (hf : ∀ r ∈ L, f r = true ↔ B.at' r = 0) (hg : Pol.GcdOk (Pol.prodL L) B G) : G = Pol.prodL (L.filter f) := by
  obtain ⟨u, hu⟩ := hg.left
  have hG : G ≠ 0 := fun e => Pol.prodL_ne L (by rw [hu, e]; grind)
  exact (Pol.split_off hd f hf hg (Q' := u) (R := 0) ⟨by rw [hu]; grind, by rw [Pol.len_zero]; exact Pol.len_pos hG⟩).1
theorem filter_mid {L : List F} {f : F → Bool} {a b : F} (ha : a ∈ L) (hb : b ∈ L) (hab : f a ≠ f b) : 0 < (L.filter f).length ∧ (L.filter f).length < L.length := by
  have h := Pol.filter_split L f
  have key : ∀ x y : F, x ∈ L → y ∈ L → f x = true → f y = false → 0 < (L.filter f).length ∧ 0 < (L.filter fun r => !f r).length := fun x y hx hy h1 h2 =>
    ⟨List.length_pos_of_mem (List.mem_filter.2 ⟨hx, h1⟩), List.length_pos_of_mem (List.mem_filter.2 ⟨hy, by rw [h2]; rfl⟩)⟩
  have : 0 < (L.filter f).length ∧ 0 < (L.filter fun r => !f r).length := by
    cases h1 : f a with
    | true => cases h2 : f b with
      | true => exact absurd (h1.trans h2.symm) hab
      | false => exact key a b ha hb h1 h2
    | false => cases h2 : f b with
      | true => exact key b a hb ha h2 h1
      | false => exact absurd (h1.trans h2.symm) hab
  omega
theorem pol_shift (t : Int) (r : F) : (pol [t, 1]).at' r = r + T t := by
  unfold pol Pol.at'
  rw [Pol.ev_congr (Pol.coef_mk _)]
  show ev [T t, T 1] r = _
  rw [T_one, ev, ev, ev, mul_zero', add_zero', mul_one']; grind
theorem pol_less1 : pol [2305843009213693950] = -1 := by
  have e : T 2305843009213693950 = -1 := by decide +kernel
  refine Pol.ext fun i => ?_
  unfold pol
  rw [Pol.coef_mk, List.map_cons, List.map_nil, e, Pol.coef_neg, Pol.one_l]
  cases i with
  | zero => rw [coef_zero, coef_zero]
  | succ i => rw [coef_succ, coef_succ, coef_nil]; grind
theorem sub_one_iff (y : F) : y = 1 ↔ y - 1 = 0 := ⟨fun h => by grind, fun h => by grind⟩
/-- The roots that a shift tells. -/
def told (t : Int) (r : F) : Bool := Pol.sq (r + T t)
theorem told_ok {A H : Pol} {t : Int} (hc : Pol.Cong A (pol [t, 1] ^ 1152921504606846975) H) {r : F} (hr : A.at' r = 0) : told t r = true ↔ (H + pol [2305843009213693950]).at' r = 0 := by
  rw [pol_less1, show H + -1 = H - 1 by grind, Pol.power_at hc hr, pol_shift]
  unfold told Pol.sq
  rw [beq_iff_eq]
  exact sub_one_iff _
theorem prodL_two {L : List F} (h : 2 ≤ L.length) (hd : L.Nodup) : ∃ a b, a ∈ L ∧ b ∈ L ∧ a ≠ b := by
  match L, h with
  | a :: b :: L, _ =>
    refine ⟨a, b, by simp, by simp, fun e => ?_⟩
    rw [e] at hd
    simp at hd
/-- How far a shift is. -/
def far (s0 t : Int) : Nat := ((s0 - t) % 18446744073709551616).toNat
theorem far_step {s0 t : Int} (h0 : 0 ≤ s0) (h1 : s0 < 18446744073709551616) (h2 : 0 ≤ t) (h3 : t < 18446744073709551616) (hne : t ≠ s0) : far s0 (if t + 1 < 18446744073709551616 then t + 1 else 0) < far s0 t := by
  unfold far
  split <;> omega
theorem wrap_one {t : Int} (h2 : 0 ≤ t) (h3 : t < 18446744073709551616) : IntKind.u64.wrap (t + 1) = if t + 1 < 18446744073709551616 then t + 1 else 0 := by
  split
  · exact IntWalk.u64_in _ (by omega)
  · have : t + 1 = 18446744073709551616 := by omega
    rw [this]; decide +kernel
/-- A shift parts two of the numbers. -/
def Parted (L : List F) (z0 : Int) : Prop := ∃ x y, x ∈ L ∧ y ∈ L ∧ told z0 x ≠ told z0 y
theorem parted {L : List F} (h : 2 ≤ L.length) (hd : L.Nodup) : ∃ z0 : Int, 0 ≤ z0 ∧ z0 < 18446744073709551616 ∧ Parted L z0 := by
  obtain ⟨x, y, hx, hy, hxy⟩ := prodL_two h hd
  obtain ⟨z, hz⟩ := Pol.parts hxy
  exact ⟨V z, V_lo z, V_64 z, x, y, hx, hy, by unfold told; rw [T_V]; exact hz⟩
theorem Parted.mid {L : List F} {z0 : Int} (h : Parted L z0) : 0 < (L.filter (told z0)).length ∧ (L.filter (told z0)).length < L.length := by
  obtain ⟨x, y, hx, hy, hxy⟩ := h
  exact filter_mid hx hy hxy
/-- The call for a part, its length by another name. -/
theorem split_part {N : Nat} (ih : ∀ (L : List F) (bo : Nat) (v : Value) (rs : List F) (p : Option Addr) (c : Nat) (s : Int) (w : World), L.length ≤ N → L.Nodup → Out w bo v rs → U w p (Pol.prodL L).len ((Pol.prodL L).l.map V) → rs.length + L.length ≤ 100000 → 0 ≤ s → s < 18446744073709551616 →
    Calls Try.prog 65 #[.slice p (Pol.prodL L).len c, .int .u64 s, .pointer (some ⟨bo, 0, none⟩), .pointer (some ⟨bo + 1, 0, none⟩)] w (SplitTo bo v rs L w))
    (L : List F) (P : Pol) (n : Nat) (bo : Nat) (v : Value) (rs : List F) (p : Option Addr) (c : Nat) (s : Int) (w : World) (hP : P = Pol.prodL L) (hn : P.len = n) (hL : L.length ≤ N) (hd : L.Nodup) (hO : Out w bo v rs) (hU : U w p n (P.l.map V)) (hl : rs.length + L.length ≤ 100000) (h0 : 0 ≤ s) (h1 : s < 18446744073709551616) :
    Calls Try.prog 65 #[.slice p n c, .int .u64 s, .pointer (some ⟨bo, 0, none⟩), .pointer (some ⟨bo + 1, 0, none⟩)] w (SplitTo bo v rs L w) := by
  subst hP
  subst hn
  exact ih L bo v rs p c s w hL hd hO hU hl h0 h1
theorem power_c (eI : Int) (e : Nat) (hE : eI = e) (p q : Option Addr) (n : Nat) (xs : List Int) (c d m : Nat) (M : Pol) (w : World) (hm : M.len = m) (hX : U w p n xs) (hn : n ≤ 1000000) (he : e < 18446744073709551616) (hM : U w q m (M.l.map V)) (hM2 : 2 ≤ m) (hM3 : m ≤ 1000000) :
    Calls Try.prog 64 #[.slice p n c, .int .u64 eI, .slice q m d] w fun ed w' => ∃ v R, ed = .returned v ∧ Ps w' v R ∧ R.len < m ∧ Pol.Cong M (pol xs ^ e) R ∧ Below w.heap.size w w' := by
  subst hm
  rw [hE]
  exact power_any p q n xs c d e M w hX hn he hM hM2 hM3

set_option maxRecDepth 100000 in
set_option maxHeartbeats 4000000 in
theorem split_any : ∀ (N : Nat) (L : List F) (bo : Nat) (v : Value) (rs : List F) (p : Option Addr) (c : Nat) (s : Int) (w : World), L.length ≤ N → L.Nodup → Out w bo v rs → U w p (Pol.prodL L).len ((Pol.prodL L).l.map V) → rs.length + L.length ≤ 100000 → 0 ≤ s → s < 18446744073709551616 →
    Calls Try.prog 65 #[.slice p (Pol.prodL L).len c, .int .u64 s, .pointer (some ⟨bo, 0, none⟩), .pointer (some ⟨bo + 1, 0, none⟩)] w (SplitTo bo v rs L w) := by
  intro N
  induction N with
  | zero =>
    intro L bo v rs p c s w hN hd hO hU hl h0 h1
    obtain rfl : L = [] := List.eq_nil_of_length_eq_zero (by omega)
    rw [show (Pol.prodL []).len = 1 from Pol.len_prodL []]
    exact split_small bo v rs p c s 1 (by omega) w hO
  | succ N ih =>
    intro L bo v rs p c s w hN hd hO hU hl hs0 hs1
    match hL : L with
    | [] =>
      rw [show (Pol.prodL []).len = 1 from Pol.len_prodL []]
      exact split_small bo v rs p c s 1 (by omega) w hO
    | [r] =>
      have e1 : Pol.prodL [r] = Pol.lin r := by show Pol.lin r * 1 = _; grind
      rw [e1, Pol.len_lin] at hU ⊢
      rw [Pol.lin_l] at hU
      exact split_one bo v rs p c s r w hO hU (by simp at hl; omega)
    | a :: b :: L' =>
      rw [← hL] at hN hd hU hl ⊢
      have hL2 : 2 ≤ L.length := by rw [hL]; simp
      obtain ⟨z0, hz0, hz1, hZ⟩ : ∃ z0 : Int, Hid (0 ≤ z0) ∧ Hid (z0 < 18446744073709551616) ∧ Hid (Parted L z0) := parted hL2 hd
      have hLn := Pol.len_prodL L
      obtain ⟨n, hn⟩ : ∃ n, Hid ((Pol.prodL L).len = n) := ⟨_, Lib.hid rfl⟩
      have hnl : n = L.length + 1 := by rw [← hn.out]; exact hLn
      have hIH := Lib.hid ih
      have hD := Lib.hid hd
      have hn3 : 3 ≤ n := by omega
      have hNL := Lib.hid hnl
      have t0 : ((n : Int) == 0) = false := by rw [beq_eq_false_iff_ne]; omega
      have t1 : ((n : Int) == 1) = false := by rw [beq_eq_false_iff_ne]; omega
      have t2 : ((n : Int) == 2) = false := by rw [beq_eq_false_iff_ne]; omega
      have hNn : n ≤ 200000 := by omega
      clear ih hL hd hLn hnl
      rw [hn.out] at hU ⊢
      go_enter Try.func65, Try.ntmps65
      go_wp2_with fail
      go_loopw [6] (fun sv wr => ∃ t : Int, 0 ≤ t ∧ t < 18446744073709551616 ∧ sv = .int .u64 t ∧ Below w.heap.size w wr)
        (fun sv _ => far z0 (intOf sv))
      case atStart => exact ⟨s, hs0, hs1, rfl, Below.refl _ _⟩
      case round =>
        obtain ⟨t, ht0, ht1, rfl, hb⟩ := hrel
        have hU1 := hU.below hb
        have hb1 : Below wr.heap.size wr (wr.alloc (.cells #[.int .u64 t, .int .u64 1] 40)) := (Below.refl _ _).alloc (Nat.le_refl _) _
        have hS : U (wr.alloc (.cells #[.int .u64 t, .int .u64 1] 40)) (some ⟨wr.heap.size, 0, none⟩) 2 [t, 1] :=
          ⟨rfl, (Arr.new wr 40 [.int .u64 t, .int .u64 1]).rd, by intro q hq; simp at hq; rcases hq with rfl | rfl <;> omega⟩
        go_wp2_with fail
        refine (power_c 1152921504606846975 1152921504606846975 (by decide) _ p 2 [t, 1] 2 c n (Pol.prodL L) _ hn.out hS (by omega) (by omega) (hU1.below hb1) (by omega) (by omega)).mono ?_
        rintro ed w1 ⟨v1, H, rfl, ⟨ph, ch, rfl, hch, hUH⟩, hHl, hcong, hb2⟩
        have hb12 := hb1.trans (hb2.mono hb1.size)
        have hCg := Lib.hid hcong
        clear hcong
        have hb3 : Below w1.heap.size w1 (w1.alloc (.cells #[.int .u64 2305843009213693950] 40)) := (Below.refl _ _).alloc (Nat.le_refl _) _
        have hS1 : U (w1.alloc (.cells #[.int .u64 2305843009213693950] 40)) (some ⟨w1.heap.size, 0, none⟩) 1 [2305843009213693950] :=
          ⟨rfl, (Arr.new w1 40 [.int .u64 2305843009213693950]).rd, by intro q hq; simp at hq; subst hq; omega⟩
        go_wp2_with fail
        refine (AddG ph _ H.len 1 (H.l.map V) [2305843009213693950] ch 1 _ (hUH.below hb3) hS1 (by omega) (by omega)).mono ?_
        rintro ed w2 ⟨v2, rfl, hB, hb4⟩
        rw [pol_V] at hB
        obtain ⟨B, hBe⟩ : ∃ B, Hid (H + pol [2305843009213693950] = B) := ⟨_, Lib.hid rfl⟩
        rw [hBe.out] at hB
        have hBl : Hid (B.len ≤ 200001) := Lib.hid (by
          rw [← hBe.out]
          have h1 := Pol.len_add H (pol [2305843009213693950])
          have h2 := pol_len [2305843009213693950]
          simp at h2
          omega)
        obtain ⟨pb, cb, rfl, hcb, hUB⟩ := hB
        have hb34 := hb3.trans (hb4.mono hb3.size)
        have hb14 := hb12.trans (hb34.mono hb12.size)
        have hU4 := hU1.below hb14
        have hl1 := hBl.out
        go_wp2_with fail
        refine (Gcd_any p pb n B.len ((Pol.prodL L).l.map V) (B.l.map V) c cb _ hU4 hUB (by omega) (by omega)).mono ?_
        rintro ed w3 ⟨v3, G, rfl, ⟨pg, cg, rfl, hcg, hUG⟩, hGf, hgcd, hb5⟩
        rw [pol_V, pol_V] at hgcd
        have hG : Hid (G = Pol.prodL (L.filter (told t))) := Lib.hid (split_gcd hD.out (told t) (fun r hr => by
          rw [← hBe.out]; exact told_ok hCg.out ((Pol.at_prodL r L).2 hr)) hgcd)
        have hGl : Hid (G.len = (L.filter (told t)).length + 1) := Lib.hid (by rw [hG.out, Pol.len_prodL])
        have hb15 := hb14.trans (hb5.mono hb14.size)
        have hGn : G.len ≤ n := by
          have := hGl.out; have := List.length_filter_le (told t) L; have := hNL.out; omega
        have hSp := Lib.hid (fun (Q' R : Pol) (hdv : Pol.DivOk (Pol.prodL L) G Q' R) => (Pol.split_off hD.out (told t) (fun r hr => by
          rw [← hBe.out]; exact told_ok hCg.out ((Pol.at_prodL r L).2 hr)) hgcd hdv).2)
        clear hS hS1 hUH hUB hBe hBl hcb hch hHl hl1 hgcd hCg hGf hb1 hb3 hb12 hb34 hb2 hb4 hb5 hb14 hU4
        obtain ⟨gl, hgl⟩ : ∃ gl, Hid (G.len = gl) := ⟨_, Lib.hid rfl⟩
        rw [hgl.out] at hcg hUG hGn ⊢
        by_cases hmid : 1 < gl ∧ gl < n
        · obtain ⟨m1, m2⟩ := hmid
          obtain ⟨t1, hw, ht2, ht3⟩ : ∃ t1, Hid (IntKind.u64.wrap (t + 1) = t1) ∧ Hid (0 ≤ t1) ∧ Hid (t1 < 18446744073709551616) :=
            ⟨_, Lib.hid (wrap_one ht0 ht1), Lib.hid (by split <;> omega), Lib.hid (by split <;> omega)⟩
          have hU5 := hU.below (hb.trans (hb15.mono hb.size))
          go_wp2_with fail
          refine (DivModG p pg n gl ((Pol.prodL L).l.map V) (G.l.map V) c cg _ hU5 hUG (by omega) (by omega)).mono ?_
          rintro ed w4 ⟨v4, v5, Q, R, rfl, ⟨⟨pq, cq, rfl, hcq, hUQ⟩, hQf⟩, _, hdiv, hb6⟩
          rw [pol_V, pol_V] at hdiv
          have hdv := (hdiv.resolve_left (fun h => by have := hgl.out; rw [h.1, Pol.len_zero] at this; omega)).2
          have hQ : Hid (Q = Pol.prodL (L.filter fun r => !told t r)) := Lib.hid (hSp.out _ _ hdv)
          have hQl : Hid (Q.len = (L.filter fun r => !told t r).length + 1) := Lib.hid (by rw [hQ.out, Pol.len_prodL])
          have hLs := Lib.hid (Pol.filter_split L (told t))
          have hb03 := hb.trans (hb15.mono hb.size)
          have hb04 := hb03.trans (hb6.mono hb03.size)
          have hO4 := hO.below hb04
          have hUG4 := hUG.below hb6
          have hf4 : w4.cell? ⟨bo + 1, 0, none⟩ = some (.func (.func 65) #[] #[.pointer (some ⟨bo, 0, none⟩), .pointer (some ⟨bo + 1, 0, none⟩)]) := hO4.func.cell (i := 0) (by simp)
          have hbo : bo + 1 < w.heap.size := hO.func.lt
          have hn1 : Hid ((L.filter (told t)).length ≤ N) := Lib.hid (by have := hGl.out; have := hgl.out; have := hNL.out; omega)
          have hn2 : Hid ((L.filter fun r => !told t r).length ≤ N) := Lib.hid (by have := hGl.out; have := hgl.out; have := hNL.out; have := hLs.out; omega)
          have hs3 : w.heap.size ≤ w3.heap.size := hb03.size
          clear hdiv hdv hSp
          go_wp2_with fail
          rw [hw.out]
          refine (split_part hIH.out (L.filter (told t)) G gl bo v rs pg cg t1 w4 hG.out hgl.out hn1.out (hD.out.filter _) hO4 hUG4 (by have := hLs.out; omega) ht2.out ht3.out).mono ?_
          rintro ed w5 ⟨rfl, v6, L1, hp1, hO5, hk5, hv5⟩
          have hL1 := hp1.length_eq
          have hf5 : w5.cell? ⟨bo + 1, 0, none⟩ = some (.func (.func 65) #[] #[.pointer (some ⟨bo, 0, none⟩), .pointer (some ⟨bo + 1, 0, none⟩)]) := hO5.func.cell (i := 0) (by simp)
          have hUQ5 : U w5 pq Q.len (Q.l.map V) := hk5.U hUQ (by
            intro ad had
            have h1 := hQf ad _ _ (by rw [had])
            refine ⟨by omega, fun e => ?_⟩
            have := (hO.own.lt e.symm).2
            omega)
          have hp1H := Lib.hid hp1
          have hL1H := Lib.hid hL1
          have hv5H := Lib.hid hv5
          clear hp1 hL1 hv5 hf4
          go_wp2_with fail
          rw [hw.out]
          refine (split_part hIH.out (L.filter fun r => !told t r) Q Q.len bo v6 (rs ++ L1) pq cq t1 w5 hQ.out rfl hn2.out (hD.out.filter _) hO5 hUQ5 (by rw [List.length_append, hL1H.out]; have := hLs.out; omega) ht2.out ht3.out).mono ?_
          rintro ed w6 ⟨rfl, v7, L2, hp2, hO6, hk6, hv6⟩
          have hfin : Hid (SplitTo bo v rs L w (.returned (.tuple #[])) w6) := Lib.hid (by
            have K2 := (Keep.of_below (bo := bo) (ow := v.ownBlock) hb04).trans hk5 (.inl rfl)
            have hw4 := hb04.size
            have hw5 := hk5.size
            have hv65 : v6.ownBlock = v.ownBlock ∨ ∀ g, v6.ownBlock = some g → w.heap.size ≤ g := by
              rcases hv5H.out with h | h
              · exact .inl h
              · exact .inr fun g e => by have := h g e; omega
            refine ⟨rfl, v7, L1 ++ L2, (hp1H.out.append hp2).trans (List.filter_append_perm _ _), by rw [← List.append_assoc]; exact hO6, K2.trans hk6 hv65, ?_⟩
            rcases hv6 with h | h
            · rw [h]; exact hv65
            · exact .inr fun g e => by have := h g e; omega)
          clear hp2 hO6 hk6 hv6 hf5
          go_wp2
          go_returns
          exact hfin.out
        · have hne : t ≠ z0 := fun e => hmid (by
            have h1 := hZ.out.mid
            rw [← e] at h1
            have h2 := hGl.out; have h3 := hNL.out; have h4 := hgl.out
            omega)
          obtain ⟨t1, hw, ht2, ht3, hlt⟩ : ∃ t1, Hid (IntKind.u64.wrap (t + 1) = t1) ∧ Hid (0 ≤ t1) ∧ Hid (t1 < 18446744073709551616) ∧ Hid (far z0 t1 < far z0 t) :=
            ⟨_, Lib.hid (wrap_one ht0 ht1), Lib.hid (by split <;> omega), Lib.hid (by split <;> omega), Lib.hid (far_step hz0.out hz1.out ht0 ht1 hne)⟩
          have hm : ¬ 1 < gl ∨ (1 < gl ∧ ¬ gl < n) := by omega
          clear hmid hne
          rcases hm with m1 | ⟨m1, m2⟩
          all_goals
            go_wp2
            go_roundw
            case rel => exact ⟨t1, ht2.out, ht3.out, by rw [← hw.out], hb.trans (hb15.mono hb.size)⟩
            case measure => simp only [intOf]; rw [hw.out]; exact hlt.out
end Go.Proofs.Ytelnhpcehmdffaa
