/-
  The walks of the statements on shares (4): the row of shares is nothing.
-/
import Derived.Test.YtpngkdhfjginlaaShLawC
namespace Go.Proofs.Ytpngkdhfjginlaa
open Go.RowKit
attribute [local go_sem] T_V

/-- An operation whose guard says yes, as one without a guard. -/
theorem wpList_unguard {P : Program} {ops : Array Oper} {Q : Exit → Act → World → Prop} {a : Act} {w : World} {rest : List Oper} {o : Oper} (hw : Region.wanted o (yielded ops a.tmps) = true)
    (h : wpList P ops Q ({ o with guard := none } :: rest) a w) : wpList P ops Q (o :: rest) a w := by
  have h' := h
  unfold wpList at h' ⊢
  rw [if_pos (by rfl)] at h'
  rw [if_pos hw]
  exact h'
theorem sh_takes {l : List (Int × Int)} {K : List Nat} {j : Nat} (h : j < K.length) : sh (takes l K) j = sh l K[j] := by
  rw [sh_eq (by unfold takes; rw [List.length_map]; exact h)]
  simp [takes]
theorem back_step {l : List (Int × Int)} {K : List Nat} {j : Nat} (h : j < K.length) : takes l (K.drop j).reverse = takes l (K.drop (j + 1)).reverse ++ [((sh (takes l K) j).1, (sh (takes l K) j).2)] := by
  rw [List.drop_eq_getElem_cons h, List.reverse_cons, takes_snoc, sh_takes h]

set_option maxRecDepth 100000 in
set_option maxHeartbeats 1000000 in
theorem row_walk (s : Int) (p : Option Addr) (m : Nat) (xs : List Int) (c : Nat) (q : Option Addr) (g : Nat) (ats : List Int) (d : Nat) (x : Int) (w : World) (hs0 : 0 ≤ s) (hs1 : s < 18446744073709551616) (hU : U w p m xs) (hc : m ≤ c) (hm : m ≤ 9223372036854775807) (hp : p = none → c = 0)
    (hI : UI w q g ats) (hg : g ≤ 9223372036854775807) (hx0 : 0 ≤ x) (hx1 : x < 18446744073709551616) :
    Calls Try.prog 7 #[.int .u64 s, .slice p m c, .slice q g d, .int .u64 x] w fun e w' => e = .returned (.bool true) ∧ Below w.heap.size w w' := by
  go_enter Try.func7, Try.ntmps7
  go_wp2_with fail
  refine (Nums_c 4 4 rfl p m xs c _ hU hc hp hm (by omega)).mono ?_
  rintro e w1 ⟨v, rfl, hown, hb1⟩
  obtain ⟨p1, c1, rfl, hc1, hU1, hp1⟩ := hown.u'
  clear hown
  have hm1 : min m 4 ≤ 4 := Nat.min_le_right _ _
  generalize min m 4 = m1 at *
  generalize xs.take m1 = ys at *
  go_wp2_with fail
  refine (Split_any s p1 m1 ys c1 9 _ hs0 hs1 hU1 hp1 (by omega) (by omega) (by omega)).mono ?_
  rintro e w2 ⟨v, rfl, hown, hb2⟩
  obtain ⟨p2, c2, rfl, hc2, hL2⟩ := hown.u
  clear hown
  have hL2 : Sh w2 p2 9 (splitL ((s :: ys).map T) 9) := hL2
  have hPl : Hid (((s :: ys).map T).length = m1 + 1) := Lib.hid (by rw [List.length_map, List.length_cons, hU1.len])
  obtain ⟨P, hP⟩ : ∃ P, (s :: ys).map T = P := ⟨_, rfl⟩
  rw [hP] at hL2 hPl
  have hP := Lib.hid hP
  have hb12 := hb1.trans (hb2.mono hb1.size)
  go_wp2_with fail
  refine (Some_split 5 5 rfl P p2 c2 q g ats d _ hL2 (hI.below hb12) hg (by omega)).mono ?_
  rintro e w4 ⟨v, rfl, ⟨K, hK1, hK2, hK3, hown⟩, hb4⟩
  obtain ⟨p4, c4, rfl, hc4, hL4⟩ := hown.u
  have hK0 : 0 < K.length := by omega
  have hK9 : K.length ≤ 9 := by omega
  have hKl : P.length ≤ K.length := by have := hPl.out; omega
  have hap := Lib.hid (apart_takes P hK1 hK2)
  have hfr := Lib.hid (fun (fs : List F) (z : F) hf => from_enough (fs := fs) hK1 hK2 hKl hf z)
  have hR1 : K.reverse.Nodup := (List.reverse_perm K).nodup_iff.2 hK1
  have hR2 : ∀ k ∈ K.reverse, k < 9 := fun k hk => hK2 k (List.mem_reverse.1 hk)
  have hapR := Lib.hid (apart_takes P hR1 hR2)
  have hfrR := Lib.hid (fun (fs : List F) (z : F) hf => from_enough (P := P) (fs := fs) hR1 hR2 (by rw [List.length_reverse]; exact hKl) hf z)
  have hb14 := hb12.trans (hb4.mono hb12.size)
  clear hown hK1 hK2 hK3 hR1 hR2
  have hKe : Hid (takes (splitL P 9) (K.drop 0).reverse = takes (splitL P 9) K.reverse) := Lib.hid rfl
  go_wp2_with fail
  go_loopw [11, 12] (fun o i wr => ∃ j : Nat, j ≤ K.length ∧ i = .int .i64 ((j : Int) - 1) ∧ OwnS wr w4.heap.size o (K.length - j) (takes (splitL P 9) (K.drop j).reverse) ∧ Below w4.heap.size w4 wr)
    (fun _ i _ => (intOf i + 1).toNat)
  case atStart => exact ⟨K.length, Nat.le_refl _, rfl, by rw [Nat.sub_self, List.drop_length]; exact OwnS.nil _ _, Below.refl _ _⟩
  case round =>
    obtain ⟨j, hj, rfl, hO, hb⟩ := hrel
    cases j with
    | succ j =>
      have e1 : ((j + 1 : Nat) : Int) - 1 = j := by omega
      rw [e1]
      have hlt : j < K.length := by omega
      obtain ⟨b, off, rfl, _, hd1, hd2⟩ := (hL4.below hb).look hlt
      have hbd := hL4.look_bd hlt
      have hst := Lib.hid (back_step (l := splitL P 9) hlt)
      have hll : K.length - (j + 1) + 1 = K.length - j := by omega
      have hLL := Lib.hid hll
      clear e1 hll
      go_wp2_with (at_builtin; refine app_sh rfl _ _ rfl hO rfl rfl hbd (by omega) hb.size ?_; intro v' w6 hO6 hb6)
      go_roundw
      case rel => exact ⟨j, by omega, by go_num, by rw [hst.out, ← hLL.out]; exact hO6, hb.trans hb6⟩
      case measure => (simp [intOf] <;> omega)
    | zero =>
      rw [Nat.sub_zero, hKe.out] at hO
      have e1 : ((0 : Nat) : Int) - 1 = -1 := by omega
      rw [e1]
      obtain ⟨p5, c5, rfl, _, hL5⟩ := hO.u
      have hb15 := hb14.trans (hb.mono hb14.size)
      clear hO e1
      go_wp2_with fail
      refine (At_is p4 K.length (takes (splitL P 9) K) c4 x _ (ev P (T x)) (fun fs hf => hfr.out fs _ hf) (hL4.below hb) (by omega) hK0 hap.out hx0 hx1).mono ?_
      rintro e w6 ⟨rfl, hb6⟩
      go_wp2_with fail
      refine (At_is p5 K.length (takes (splitL P 9) K.reverse) c5 x _ (ev P (T x)) (fun fs hf => hfrR.out fs _ hf) (hL5.below hb6) (by omega) hK0 hapR.out hx0 hx1).mono ?_
      rintro e w7 ⟨rfl, hb7⟩
      have hsn : (V (ev P (T x)) == V (ev P (T x))) = true := beq_self_eq_true _
      have hb67 := hb6.trans (hb7.mono hb6.size)
      have hb17 := hb15.trans (hb67.mono hb15.size)
      have hb04 := ((hb2.mono (Nat.le_refl _)).trans (hb4.mono hb2.size)).trans (hb.mono (Nat.le_trans hb2.size hb4.size))
      have hU7 := hU1.below (hb04.trans (hb67.mono hb04.size))
      have hb0 : Below w7.heap.size w7 (w7.alloc (.cells #[.int .u64 s] 22)) := (Below.refl _ _).alloc (Nat.le_refl _) _
      have hU8 := hU7.below hb0
      have hown : Own (w7.alloc (.cells #[.int .u64 s] 22)) w7.heap.size (.slice (some ⟨w7.heap.size, 0, none⟩) 1 1) 1 [s] :=
        ⟨rfl, World.ownsRow_lit w7 #[.int .u64 s] 1 (Nat.le_refl _) (by unfold maxLen; omega) rfl, by intro x hx; rw [List.mem_singleton] at hx; subst hx; exact ⟨hs0, hs1⟩⟩
      go_wp2_with (at_builtin; go_loud (refine wpList_unguard (by rfl) ?_; refine app_many rfl _ _ rfl hown rfl rfl hU8 hp1 (by omega) hb0.size ?_; intro v' w8 hown8 hb8))
      obtain ⟨q8, d8, rfl, hqd, hQ⟩ := hown8.u
      rw [List.singleton_append] at hQ
      clear hown hown8
      go_wp2_with fail
      refine (Eval_any q8 (1 + m1) (s :: ys) d8 x _ hQ (by omega) hx0 hx1).mono ?_
      rintro e w9 ⟨rfl, hb9⟩
      rw [hP.out]
      go_wp2_with fail
      refine (lives9 _).mono ?_
      rintro e w10 ⟨rfl, hb10⟩
      go_wp2
      go_ret
      have hb18 := hb17.trans ((hb0.trans hb8).mono hb17.size)
      have hb19 := hb18.trans (hb9.mono hb18.size)
      exact ⟨rfl, hb19.trans (hb10.mono hb19.size)⟩
end Go.Proofs.Ytpngkdhfjginlaa
