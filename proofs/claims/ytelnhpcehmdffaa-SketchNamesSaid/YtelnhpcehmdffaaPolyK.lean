/-
  The contracts of the program's polynomials (11): all roots, rising, each once.
-/
import Derived.Test.YtelnhpcehmdffaaSort2
import Derived.Test.YtelnhpcehmdffaaGa
import Derived.Laws.EntriesVeiled
namespace Go.Proofs.Ytelnhpcehmdffaa
open Go.RowKit
attribute [local go_sem] T_V

theorem pol_X : pol [0, 1] = Pol.X := by
  unfold pol Pol.X
  rw [List.map_cons, List.map_cons, List.map_nil, T_zero, T_one]
theorem neg_nought : -(0 : F) = 0 := by decide +kernel
theorem pol_lessX : pol [0, 2305843009213693950] = -Pol.X := by
  have e : T 2305843009213693950 = -1 := by decide +kernel
  refine Pol.ext fun i => ?_
  unfold pol
  rw [Pol.coef_mk, List.map_cons, List.map_cons, List.map_nil, e, T_zero, Pol.coef_neg, Pol.coef_X]
  rcases i with _ | _ | i
  · rw [coef_zero, if_neg (by omega)]; exact neg_nought.symm
  · rw [coef_succ, coef_zero, if_pos rfl]
  · rw [coef_succ, coef_succ, coef_nil, if_neg (by omega)]; exact neg_nought.symm
theorem monic_root {P : Pol} (h : P ≠ 0) (x : F) : (Pol.monic P).at' x = 0 ↔ P.at' x = 0 := by
  unfold Pol.monic Pol.scale
  rw [Pol.at_mul, Pol.at_con, mul_eq_zero']
  exact ⟨fun k => k.resolve_left (inv_ne _ (Pol.top_ne h)), .inr⟩
set_option maxRecDepth 100000 in
theorem pdq_nil (k : Int) (w : World) : Calls Try.prog 73 #[.slice none 0 0, .int .i64 0, .int .i64 0, .int .i64 k] w fun e w' => e = .returned (.tuple #[]) ∧ w = w' := by
  go_enter Try.func73, Try.ntmps73
  go_wp2
  go_loopw [1, 2, 10] (fun av bv _ wr => av = .int .i64 0 ∧ bv = .int .i64 0 ∧ w = wr) (fun _ _ _ _ => 0)
  case atStart => exact ⟨rfl, rfl, rfl⟩
  case round =>
    obtain ⟨rfl, rfl, rfl⟩ := hrel
    go_wp2_with fail
    refine (show Calls Try.prog 77 #[.slice none 0 0, .int .i64 0, .int .i64 0] w fun e w' => e = .returned (.tuple #[]) ∧ w = w' from ?_).mono ?_
    · go_enter Try.func77, Try.ntmps77
      go_wp2
      go_loopw [6, 7] (fun iv _ wr => iv = .int .i64 1 ∧ w = wr) (fun _ _ _ => 0)
      case atStart => exact ⟨rfl, rfl⟩
      case round =>
        obtain ⟨rfl, rfl⟩ := hrel
        go_wp2
        go_returns
        exact ⟨rfl, rfl⟩
    · rintro e w1 ⟨rfl, rfl⟩
      go_wp2_with fail
      go_returns
      exact ⟨rfl, rfl⟩
set_option maxRecDepth 100000 in
theorem Sort_nil (w : World) : Calls Try.prog 66 #[.slice none 0 0] w fun e w' => e = .returned (.tuple #[]) ∧ w = w' := by
  go_enter Try.func66, Try.ntmps66
  go_wp2_with fail
  refine (len_small 0 (by omega) _).mono ?_
  rintro e w1 ⟨⟨k, rfl⟩, rfl⟩
  go_wp2_with fail
  refine (pdq_nil k _).mono ?_
  rintro e w1 ⟨rfl, rfl⟩
  go_wp2_with fail
  go_returns
  exact ⟨rfl, rfl⟩

def NotNil (P : Pol) : Prop := ∀ Q : Pol, Q = P → Q ≠ 0
theorem NotNil.of {P : Pol} (h : P ≠ 0) : NotNil P := fun _ e => e ▸ h
theorem NotNil.ne {P : Pol} (h : NotNil P) : P ≠ 0 := h P rfl
/-- .. with 1 ahead. -/
def MonicOf (P A : Pol) : Prop := Pol.monic P = A
theorem MonicOf.eq {P A : Pol} (h : MonicOf P A) : Pol.monic P = A := h
/-- x to the power P, modulo a polynomial. -/
def CgX (A H : Pol) : Prop := Pol.Cong A (Pol.X ^ Q) H
theorem CgX.of {A H : Pol} (h : Pol.Cong A (pol [0, 1] ^ 2305843009213693951) H) : CgX A H := by unfold CgX; rw [← pol_X]; exact h
/-- What Roots answers: nothing of the polynomial that is nothing; else all roots, rising, each once. -/
def RootsOk (P : Pol) (rs : List F) : Prop := Rise rs ∧ (P = 0 → rs = []) ∧ (P ≠ 0 → ∀ x, x ∈ rs ↔ P.at' x = 0)
theorem RootsOk.same {P : Pol} {rs rs' : List F} (h : RootsOk P rs) (k : RootsOk P rs') : rs = rs' := by
  by_cases hP : P = 0
  · rw [h.2.1 hP, k.2.1 hP]
  · exact h.1.same k.1 fun x => by rw [h.2.2 hP, k.2.2 hP]
theorem rise_of {rs : List F} (hd : rs.Nodup) (hs : SortSt (rs.map V) rs.length) : Rise rs :=
  List.pairwise_iff_getElem.2 fun i j hi hj hij => by
    have h1 := hs i j hij hj
    rw [nth_V hi, nth_V hj] at h1
    have h2 := List.pairwise_iff_getElem.1 hd i j hi hj hij
    have h3 : V rs[i] ≠ V rs[j] := fun e => h2 (V_inj e)
    omega
theorem map_VT : ∀ {ys : List Int} {l : List F}, (∀ y ∈ ys, y ∈ l.map V) → (ys.map T).map V = ys
  | [], _, _ => rfl
  | y :: ys, l, h => by
    obtain ⟨x, _, rfl⟩ := List.mem_map.1 (h y (List.mem_cons_self ..))
    rw [List.map_cons, List.map_cons, T_V, map_VT fun z hz => h z (List.mem_cons_of_mem _ hz)]
theorem roots_done {P A : Pol} {L L' : List F} {ys : List Int} (hP : NotNil P) (hA : MonicOf P A) (hd : L.Nodup) (hL : ∀ x, x ∈ L ↔ A.at' x = 0) (hp : L'.Perm L) (hy : ys.Perm (L'.map V)) (hs : SortSt ys ys.length) : (ys.map T).map V = ys ∧ RootsOk P (ys.map T) := by
  have e := map_VT (l := L') fun y h => hy.mem_iff.1 h
  have hq : (ys.map T).Perm L := by
    have := hy.map T
    rw [map_TV] at this
    exact this.trans hp
  refine ⟨e, rise_of (hq.nodup_iff.2 hd) (by rw [e, List.length_map]; exact hs), fun h => absurd h hP.ne, fun _ x => ?_⟩
  rw [hq.mem_iff, hL, ← hA.eq, monic_root hP.ne]
theorem roots_none {P A : Pol} (hA : MonicOf P A) (hl : A.len < 2) : RootsOk P [] := by
  refine ⟨Rise.nil, fun _ => rfl, fun hP x => ⟨fun h => absurd h (by simp), fun h => ?_⟩⟩
  have h1 := Pol.roots_lt hP (L := [x]) (by simp) (by simpa using h)
  have e1 := monic_l hP
  rw [← hA.eq] at hl
  unfold Pol.len at h1 hl
  rw [e1, List.length_map] at hl
  simp at h1
  omega

set_option maxRecDepth 100000 in
set_option maxHeartbeats 4000000 in
theorem Roots_any (p : Option Addr) (n : Nat) (xs : List Int) (c : Nat) (w : World) (hX : U w p n xs) (hn : n ≤ 13) :
    Calls Try.prog 50 #[.slice p n c] w fun e w' => ∃ v rs, e = .returned v ∧ Fs w' v rs ∧ (RootsOk (pol xs) rs ∧ Own w' w.heap.size v rs.length (rs.map V)) ∧ Below w.heap.size w w' := by
  have hPl : Hid ((pol xs).len ≤ 13) := Lib.hid (by have := pol_len xs; rw [hX.len] at this; omega)
  go_enter Try.func50, Try.ntmps50
  go_wp2_with fail
  refine (TrimG p n xs c _ hX (by omega)).mono ?_
  rintro e w1 ⟨v1, rfl, ⟨p1, c1, rfl, hc1, hU1⟩, hb1⟩
  go_wp2_with fail
  refine (monic_any p1 c1 (pol xs) _ hU1 (by have := hPl.out; omega)).mono ?_
  rintro e w2 ⟨v2, rfl, ⟨p2, c2, rfl, hc2, hU2⟩, _, hb2⟩
  have hb12 := hb1.trans (hb2.mono hb1.size)
  obtain ⟨A, hAe⟩ : ∃ A, Hid (MonicOf (pol xs) A) := ⟨_, Lib.hid rfl⟩
  have hAe' : Pol.monic (pol xs) = A := hAe.out
  rw [hAe'] at hU2 hc2 ⊢
  clear hAe'
  obtain ⟨m, hm⟩ : ∃ m, Hid (A.len = m) := ⟨_, Lib.hid rfl⟩
  rw [hm.out] at hU2 hc2 ⊢
  by_cases h2 : m < 2
  · have hfin : Hid (RootsOk (pol xs) []) := Lib.hid (roots_none hAe.out (by rw [hm.out]; exact h2))
    go_wp2_with fail
    go_ret
    exact ⟨_, [], rfl, ⟨none, 0, 0, rfl, Nat.le_refl _, U.nil⟩, ⟨hfin.out, Own.nil _ _⟩, hb12⟩
  · have hPn : Hid (NotNil (pol xs)) := Lib.hid <| NotNil.of fun e => by have := hm.out; rw [← hAe.out.eq, e, Pol.monic_zero, Pol.len_zero] at this; omega
    have hA : Hid (NotNil A) := Lib.hid <| NotNil.of fun e => by have := hm.out; rw [e, Pol.len_zero] at this; omega
    have hml : m ≤ 13 := by
      have e1 := monic_l hPn.out.ne
      have := hm.out
      rw [← hAe.out.eq] at this
      unfold Pol.len at this
      rw [e1, List.length_map] at this
      have := hPl.out
      unfold Pol.len at this
      omega
    have hb3 : Below w2.heap.size w2 (w2.alloc (.cells #[.int .u64 0, .int .u64 1] 40)) := (Below.refl _ _).alloc (Nat.le_refl _) _
    have hS : U (w2.alloc (.cells #[.int .u64 0, .int .u64 1] 40)) (some ⟨w2.heap.size, 0, none⟩) 2 [0, 1] :=
      ⟨rfl, (Arr.new w2 40 [.int .u64 0, .int .u64 1]).rd, by intro q hq; simp at hq; rcases hq with rfl | rfl <;> omega⟩
    go_wp2_with fail
    refine (power_c 2305843009213693951 2305843009213693951 (by decide) _ p2 2 [0, 1] 2 c2 m A _ hm.out hS (by omega) (by omega) (hU2.below hb3) (by omega) (by omega)).mono ?_
    rintro ed w3 ⟨v3, H, rfl, ⟨ph, ch, rfl, hch, hUH⟩, hHl, hcong, hb4⟩
    have hCg : Hid (CgX A H) := Lib.hid (CgX.of hcong)
    clear hcong
    have hb5 : Below w3.heap.size w3 (w3.alloc (.cells #[.int .u64 0, .int .u64 2305843009213693950] 40)) := (Below.refl _ _).alloc (Nat.le_refl _) _
    have hS1 : U (w3.alloc (.cells #[.int .u64 0, .int .u64 2305843009213693950] 40)) (some ⟨w3.heap.size, 0, none⟩) 2 [0, 2305843009213693950] :=
      ⟨rfl, (Arr.new w3 40 [.int .u64 0, .int .u64 2305843009213693950]).rd, by intro q hq; simp at hq; rcases hq with rfl | rfl <;> omega⟩
    go_wp2_with fail
    refine (AddG ph _ H.len 2 (H.l.map V) [0, 2305843009213693950] ch 2 _ (hUH.below hb5) hS1 (by omega) (by omega)).mono ?_
    rintro ed w4 ⟨v4, rfl, hB, hb6⟩
    rw [pol_V] at hB
    obtain ⟨B, hBe⟩ : ∃ B, Hid (H + pol [0, 2305843009213693950] = B) := ⟨_, Lib.hid rfl⟩
    rw [hBe.out] at hB
    have hBl : Hid (B.len ≤ 200001) := Lib.hid (by
      rw [← hBe.out]
      have h1 := Pol.len_add H (pol [0, 2305843009213693950])
      have h2 := pol_len [0, 2305843009213693950]
      simp at h2
      omega)
    obtain ⟨pb, cb, rfl, hcb, hUB⟩ := hB
    have hb24 := (hb3.trans (hb4.mono hb3.size)).trans ((hb5.trans (hb6.mono hb5.size)).mono (Nat.le_trans hb3.size hb4.size))
    have hl1 := hBl.out
    go_wp2_with fail
    refine (Gcd_any p2 pb m B.len (A.l.map V) (B.l.map V) c2 cb _ (hU2.below hb24) hUB (by omega) (by omega)).mono ?_
    rintro ed w5 ⟨v5, G, rfl, ⟨pg, cg, rfl, hcg, hUG⟩, _, hgcd, hb7⟩
    rw [pol_V, pol_V] at hgcd
    have hRG : Hid (∃ L : List F, L.Nodup ∧ (∀ x, x ∈ L ↔ A.at' x = 0) ∧ G = Pol.prodL L) := Lib.hid (Pol.roots_gcd hCg.out (by
      have e : H - Pol.X = B := by rw [← hBe.out, pol_lessX]; grind
      rw [e]; exact hgcd) hA.out.ne)
    have hb05 := hb12.trans ((hb24.trans (hb7.mono hb24.size)).mono hb12.size)
    clear hgcd hCg hBe hl1 hBl hS hS1
    have hs5 : (w5.alloc (.cells #[.slice none 0 0] 22)).heap.size = w5.heap.size + 1 := by simp
    have hN1 : Arr ((w5.alloc (.cells #[.slice none 0 0] 22)).alloc (.cells #[.nilFunc] 81)) (w5.heap.size + 1) 81 [.nilFunc] := by
      have := Arr.new (w5.alloc (.cells #[.slice none 0 0] 22)) 81 [.nilFunc]
      rwa [hs5] at this
    have hN0 : Arr ((w5.alloc (.cells #[.slice none 0 0] 22)).alloc (.cells #[.nilFunc] 81)) w5.heap.size 22 [.slice none 0 0] :=
      (Arr.new w5 22 [.slice none 0 0]).below ((Below.refl (w5.heap.size + 1) _).alloc (by simp) _) (by omega)
    have q1 : ((w5.alloc (.cells #[.slice none 0 0] 22)).alloc (.cells #[.nilFunc] 81)).cell? ⟨w5.heap.size + 1, 0, none⟩ = some .nilFunc := hN1.cell (i := 0) (by simp)
    have q2 := hN1.free 0
    have hS5 := Lib.hid hs5
    clear hs5
    have hb51 : Below w5.heap.size w5 ((w5.alloc (.cells #[.slice none 0 0] 22)).alloc (.cells #[.nilFunc] 81)) := ((Below.refl _ _).alloc (Nat.le_refl _) _).alloc (by simp) _
    obtain ⟨W1, eW⟩ : ∃ W1, Hid ((w5.alloc (.cells #[.slice none 0 0] 22)).alloc (.cells #[.nilFunc] 81) = W1) := ⟨_, Lib.hid rfl⟩
    rw [eW.out] at hN1 hN0 q1 q2 hb51
    go_upto_region 7 with fail
    rw [eW.out]
    go_wp2_with fail
    have hO : Out (W1.setCell ⟨w5.heap.size + 1, 0, none⟩ (.func (.func 65) #[] #[.pointer (some ⟨w5.heap.size, 0, none⟩), .pointer (some ⟨w5.heap.size + 1, 0, none⟩)])) w5.heap.size (.slice none 0 0) [] :=
      ⟨hN0.other (by omega) _ _, hN1.set 0 _, Own.nil _ _⟩
    have hbW : Below w5.heap.size w5 (W1.setCell ⟨w5.heap.size + 1, 0, none⟩ (.func (.func 65) #[] #[.pointer (some ⟨w5.heap.size, 0, none⟩), .pointer (some ⟨w5.heap.size + 1, 0, none⟩)])) :=
      hb51.setCell (show w5.heap.size ≤ w5.heap.size + 1 by omega) _
    obtain ⟨L, hLd, hLr, hLe⟩ := hRG.out
    have hLl : Hid (L.length ≤ 12) := Lib.hid (by
      have := Pol.roots_lt hA.out.ne hLd fun x hx => (hLr x).1 hx
      have := hm.out
      omega)
    have hLr' := Lib.hid hLr
    clear hLr
    refine (split_part (N := L.length) (split_any L.length) L G G.len w5.heap.size (.slice none 0 0) [] pg cg 0 _ hLe rfl (Nat.le_refl _) hLd hO (hUG.below hbW) (by have := hLl.out; simp; omega) (by omega) (by omega)).mono ?_
    rintro ed w6 ⟨rfl, v7, L', hp, hO7, hk7, _⟩
    rw [List.nil_append] at hO7
    have hc6 : w6.cell? ⟨w5.heap.size, 0, none⟩ = some v7 := hO7.cell.cell (i := 0) (by simp)
    have hb56 : Below w5.heap.size w5 w6 := ⟨hk7.os.trans hbW.os, hk7.tape.trans hbW.tape, hk7.output.trans hbW.output, Nat.le_trans hbW.size hk7.size, fun k hk => by
      rw [hk7.block k (Nat.lt_of_lt_of_le hk hbW.size) (by omega) (by intro e; cases e)]
      exact hbW.block k hk⟩
    have hb06 := hb05.trans (hb56.mono hb05.size)
    have hOw := hO7.own
    have hpl := hp.length_eq
    have hll := hLl.out
    have hn12 : L'.length ≤ 12 := by omega
    have hp' := Lib.hid hp
    have hlast := Lib.hid hO7.cell
    clear hp hpl hll hk7 hO7 hO hUG hLe hN0 hN1 q1 q2
    rcases hOw.row.2 with ⟨hv, hnil⟩ | ⟨g', cap', cur, hv, hbg, hg, hnc, hcm, hcs, htake⟩
    · have hL0 : L' = [] := by simpa using hnil
      subst hL0
      subst hv
      have hfin : Hid (RootsOk (pol xs) []) := Lib.hid (roots_done hPn.out hAe.out hLd hLr'.out hp'.out (ys := []) (List.Perm.refl _) (fun a b h1 h2 => by simp at h2)).2
      clear hp' hnil
      go_wp2_with fail
      refine (Sort_nil _).mono ?_
      rintro e w7 ⟨rfl, rfl⟩
      go_wp2_with fail
      go_ret
      exact ⟨_, [], rfl, ⟨none, 0, 0, rfl, Nat.le_refl _, U.nil⟩, ⟨hfin.out, Own.nil _ _⟩, hb06⟩
    · subst hv
      generalize hn7 : L'.length = n7 at *
      have hn7' := Lib.hid hn7
      clear hn7 hcm hcs htake
      go_wp2_with fail
      refine (Sort_small g' n7 cap' (w5.heap.size + 2) (L'.map V) _ hOw hn12).mono ?_
      rintro e w7 ⟨rfl, ys, hperm, hsort, hOy, hgr⟩
      have hyl := hOy.len
      have hdone := roots_done hPn.out hAe.out hLd hLr'.out hp'.out hperm (by rw [hyl]; exact hsort)
      have hA7 : Arr w7 w5.heap.size 22 [.slice (some ⟨g', 0, none⟩) n7 cap'] := (hgr.block w5.heap.size hlast.out.lt (by intro e; injection e with e; omega)).trans hlast.out
      have hc7 : w7.cell? ⟨w5.heap.size, 0, none⟩ = some (.slice (some ⟨g', 0, none⟩) n7 cap') := hA7.cell (i := 0) (by simp)
      have hb67 : Below w5.heap.size w6 w7 := (Below.refl _ _).grown hgr (by have := hlast.out.lt; omega) (fun k e => by injection e with e; omega)
      have hb07 := hb06.trans (hb67.mono hb05.size)
      obtain ⟨p9, c9, hv9, hc9, hU9⟩ := hOy.u
      injection hv9 with e1 _ e3
      subst e1
      subst e3
      have hF : Hid (Fs w7 (.slice (some ⟨g', 0, none⟩) n7 cap') (ys.map T)) := Lib.hid ⟨_, n7, cap', rfl, hc9, by rw [hdone.1]; exact hU9⟩
      have hfin := Lib.hid hdone.2
      have hOF : Hid (Own w7 w.heap.size (.slice (some ⟨g', 0, none⟩) n7 cap') (ys.map T).length ((ys.map T).map V)) := Lib.hid (by
        rw [hdone.1, List.length_map, hyl]
        exact hOy.base (by have := hb05.size; omega))
      clear hdone hperm hsort hOy hgr hyl hU9 hp' hg
      go_wp2_with fail
      go_ret
      exact ⟨_, _, rfl, hF.out, ⟨hfin.out, hOF.out⟩, hb07⟩
end Go.Proofs.Ytelnhpcehmdffaa
