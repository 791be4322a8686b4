/-
  The contracts of the program's polynomials (4): what has given values (Newton's).
-/
import Derived.Test.YtokkjklggkoajaaPolyC
import Derived.Test.YtokkjklggkoajaaPolyPlain2
import Derived.Deep.QuietTactic
import Derived.BigQuiet
namespace Go.Proofs.Ytokkjklggkoajaa
open Go.RowKit
attribute [local go_sem] T_V

theorem map_TV (fs : List F) : (fs.map V).map T = fs := by
  rw [List.map_map]
  conv => rhs; rw [← List.map_id fs]
  apply List.map_congr_left
  intro x _
  exact T_V x
theorem evalF (p : Option Addr) (n : Nat) (fs : List F) (c : Nat) (x : Int) (w : World) (hU : U w p n (fs.map V)) (hn : n ≤ 9223372036854775807) (hx0 : 0 ≤ x) (hx1 : x < 18446744073709551616) :
    Calls Try.prog 20 #[.slice p n c, .int .u64 x] w fun e w' => e = .returned (.int .u64 (V (ev fs (T x)))) ∧ Below w.heap.size w w' := by
  have h := Eval_any p n (fs.map V) c x w hU hn hx0 hx1
  rwa [map_TV] at h
theorem mulF (p q : Option Addr) (n m : Nat) (P Q : List F) (c d : Nat) (w : World) (hP : U w p n (P.map V)) (hQ : U w q m (Q.map V)) (hn : n ≤ 17592186044416) (hm : m ≤ 17592186044416) :
    Calls Try.prog 18 #[.slice p n c, .slice q m d] w fun e w' => ∃ v, e = .returned v ∧ Fs w' v (trimF (mulL (trimF P) (trimF Q))) ∧ Below w.heap.size w w' := by
  have h := Mul_any p q n m (P.map V) (Q.map V) c d w hP hQ hn hm
  rwa [map_TV, map_TV] at h
theorem addF (p q : Option Addr) (n m : Nat) (P Q : List F) (c d : Nat) (w : World) (hP : U w p n (P.map V)) (hQ : U w q m (Q.map V)) (hn : n ≤ 35184372088832) (hm : m ≤ 35184372088832) :
    Calls Try.prog 16 #[.slice p n c, .slice q m d] w fun e w' => ∃ v, e = .returned v ∧ Fs w' v (trimF (addL P Q)) ∧ Below w.heap.size w w' := by
  have h := Add_any p q n m (P.map V) (Q.map V) c d w hP hQ hn hm
  rwa [map_TV, map_TV] at h

/-- A world in which all that was there stands as it stood. -/
def Gr (w w' : World) : Prop := Below w.heap.size w w'
theorem Gr.start (w : World) : Gr w w.drew := (Below.refl _ w).drew
theorem Gr.then {w w' w'' : World} (h : Gr w w') (k : Below w'.heap.size w' w'') : Gr w w'' := Below.trans h (k.mono (Below.size h))
theorem Gr.cell {w w' : World} (h : Gr w w') {a : Addr} {v : Value} (hc : w.cell? a = some v) : w'.cell? a = some v := (Below.cell h (cell_lt hc)).trans hc

theorem U_one (w : World) (t : TypeId) (x : F) : U (w.alloc (.cells #[.int .u64 (V x)] t)) (some ⟨w.heap.size, 0, none⟩) 1 ([x].map V) :=
  ⟨rfl, (Arr.new w t [.int .u64 (V x)]).rd, by intro y hy; simp only [List.map_cons, List.map_nil, List.mem_singleton] at hy; subst hy; exact ⟨V_lo _, V_64 _⟩⟩
theorem U_two (w : World) (t : TypeId) (x y : F) : U (w.alloc (.cells #[.int .u64 (V x), .int .u64 (V y)] t)) (some ⟨w.heap.size, 0, none⟩) 2 ([x, y].map V) :=
  ⟨rfl, (Arr.new w t [.int .u64 (V x), .int .u64 (V y)]).rd, by
    intro z hz; simp only [List.map_cons, List.map_nil, List.mem_cons, List.not_mem_nil, or_false] at hz
    rcases hz with rfl | rfl <;> exact ⟨V_lo _, V_64 _⟩⟩
theorem newton_mul_len (A B : List F) : (trimF (mulL (trimF A) (trimF B))).length ≤ A.length + B.length := by
  refine Nat.le_trans (trimF_length _) ?_
  have e : ∀ p q : List F, (mulL p q).length ≤ p.length + q.length := by
    intro p q; induction p with
    | nil => simp [mulL]
    | cons a p ih => rw [mulL, addL_length, List.length_map, List.length_cons, List.length_cons]; omega
  have := e (trimF A) (trimF B)
  have := trimF_length A
  have := trimF_length B
  omega

set_option maxRecDepth 100000 in
set_option maxHeartbeats 1000000 in
theorem From_any (p q : Option Addr) (n : Nat) (xs ys : List Int) (c d : Nat) (w : World) (hX : U w p n xs) (hY : U w q n ys) (hn : n ≤ 4398046511104) :
    Calls Try.prog 29 #[.slice p n c, .slice q n d] w fun e w' => ∃ v, e = .returned v ∧ (∃ fs, Fs w' v fs ∧ FromOk (xs.map T) (ys.map T) fs) ∧ Below w.heap.size w w' := by
  have hXl := Lib.hid hX.len
  have hYl := Lib.hid hY.len
  have hne : ((n : Int) != n) = false := bne_self_eq_false _
  go_enter Try.func29, Try.ntmps29
  go_wp2
  have hb0 : Below w.heap.size w (w.alloc (.cells #[.int .u64 1] 23)) := (Below.refl _ _).alloc (Nat.le_refl _) _
  have hA0 : Fs (w.alloc (.cells #[.int .u64 1] 23)) (.slice (some ⟨w.heap.size, 0, none⟩) 1 1) [1] :=
    ⟨_, 1, 1, rfl, Nat.le_refl _, ⟨rfl, (Arr.new w 23 [.int .u64 1]).rd, by intro x hx; simp only [List.map_cons, List.map_nil, List.mem_singleton] at hx; subst hx; exact ⟨V_lo _, V_64 _⟩⟩⟩
  have hS0 : Fs (w.alloc (.cells #[.int .u64 1] 23)) (.slice none 0 0) [] := ⟨none, 0, 0, rfl, Nat.le_refl _, U.nil⟩
  go_loopw [5, 6, 19] (fun s a i wr => ∃ (k : Nat) (S A : List F), k ≤ n ∧ i = .int .i64 k ∧ Fs wr s S ∧ Fs wr a A ∧ NewtonOk (xs.map T) (ys.map T) k S A ∧ Below w.heap.size w wr)
    (fun _ _ i _ => n - (intOf i).toNat)
  case atStart => exact ⟨0, [], [1], Nat.zero_le _, rfl, hS0, hA0, newton_start _ _, hb0⟩
  case round =>
    clear hb0 hA0 hS0
    obtain ⟨i, S, A, hi, rfl, ⟨ps, ns, cs, rfl, hcs, hS⟩, ⟨pa, na, ca, rfl, hca, hA⟩, hN, hb⟩ := hrel
    have hna : na ≤ i + 1 := by have := hN.alen; rw [Fs.len hA] at this; exact this
    have hns : ns ≤ i := by have := hN.slen; rw [Fs.len hS] at this; exact this
    by_cases hlt : i < n
    · obtain ⟨b, off, rfl, _, hcell, hx0, hx1⟩ := (hX.below hb).look hlt
      go_wp2_with fail
      refine (evalF pa na A ca (nth xs i) wr hA (by omega) hx0 hx1).mono ?_
      rintro e w1 ⟨rfl, hb1⟩
      have hTx : Hid (T (nth xs i) = coef (xs.map T) i) := Lib.hid (coef_T (by rw [hXl.out]; exact hlt)).symm
      by_cases hz : ev A (T (nth xs i)) = 0
      · have hz' : (V (ev A (T (nth xs i))) == 0) = true := by rw [V_inj_zero, beq_iff_eq]; exact hz
        have hfin : FromOk (xs.map T) (ys.map T) [] := from_dup (newton_dup hN (by rw [List.length_map, hXl.out]; exact hlt) (by rw [← hTx.out]; exact hz))
        clear hz
        go_wp2
        go_ret
        exact ⟨_, rfl, ⟨[], ⟨none, 0, 0, rfl, Nat.le_refl _, U.nil⟩, hfin⟩, hb.trans (hb1.mono hb.size)⟩
      · have hz' : (V (ev A (T (nth xs i))) == 0) = false := by rw [V_inj_zero, beq_eq_false_iff_ne]; exact hz
        have hz2 : Hid (ev A (coef (xs.map T) i) ≠ 0) := Lib.hid (by rw [← hTx.out]; exact hz)
        clear hz
        go_wp2_with fail
        obtain ⟨b', off', rfl, _, hcell', hy0, hy1⟩ := ((hY.below hb).below hb1).look hlt
        have hS1 := hS.below hb1
        have hix1 : (0 : Int) ≤ (i : Int) := by omega
        have hix2 : (i : Int) < (n : Int) := by omega
        refine wp_region_quiet (C := Gr w1) (by kernel_rfl) (by kernel_rfl) (Gr.start w1) ?_
        repeat
          refine wpQuiet_step (fun K hK => ?_)
          rw [if_pos (by rfl)]
          apply Exists.intro
          refine ⟨fun W hW => ?_, hK _ ?_⟩
          · have hld := hW.cell hcell'
            unfold Oper.quietAt
            go_simp
            first
              | (with_reducible rfl)
              | (go_at_call 20; refine (evalF ps ns S cs _ W (hS1.below hW) (by omega) hx0 hx1).mono ?_; rintro e w'' ⟨rfl, hb''⟩; exact ⟨rfl, hW.then hb''⟩)
              | (go_at_call 52; refine (sub_any _ _ W hy0 hy1 (V_lo _) (V_64 _)).mono ?_; rintro e w'' ⟨rfl, rfl⟩; exact ⟨rfl, hW⟩)
              | (go_at_call 51; refine (inv_b (Below.refl _ _) _ (V_lo _) (V_64 _)).mono ?_; rintro e w'' ⟨rfl, hb''⟩; exact ⟨rfl, hW.then hb''⟩)
              | (go_at_call 39; refine (mul_any _ _ W (V_lo _) (V_64 _) (V_lo _) (V_64 _)).mono ?_; rintro e w'' ⟨rfl, rfl⟩; exact ⟨rfl, hW⟩)
          clear hK K
        refine wpQuiet_nil ?_
        intro w2 hw2
        clear hix1 hix2
        go_wp2_with fail
        have hb2 : Below w.heap.size w w2 := (hb.trans (hb1.mono hb.size)).trans (Below.mono hw2 (hb.trans (hb1.mono hb.size)).size)
        have hS2 := hS1.below hw2
        have hA2 := (hA.below hb1).below hw2
        generalize hCe : (T (nth ys i) - ev S (T (nth xs i))) * inv (ev A (T (nth xs i))) = C
        have hC := Lib.hid hCe
        clear hCe
        have hb3 : Below w2.heap.size w2 (w2.alloc (.cells #[.int .u64 (V C)] 23)) := (Below.refl _ _).alloc (Nat.le_refl _) _
        refine (mulF pa _ na 1 A [C] ca 1 _ (hA2.below hb3) (U_one w2 23 C) (by omega) (by omega)).mono ?_
        rintro e w4 ⟨v, rfl, ⟨p4, n4, c4, rfl, hc4, hU4⟩, hb4⟩
        have hb24 : Below w2.heap.size w2 w4 := hb3.trans (hb4.mono hb3.size)
        have hn4 : n4 ≤ i + 2 := by
          have := Fs.len hU4
          have := newton_mul_len A [C] 
          have := hN.alen
          simp only [List.length_cons, List.length_nil] at *
          omega
        go_wp2_with fail
        refine (addF ps p4 ns n4 S _ cs c4 _ (hS2.below hb24) hU4 (by omega) (by omega)).mono ?_
        rintro e w5 ⟨v, rfl, hS', hb5⟩
        have hb25 : Below w2.heap.size w2 w5 := hb24.trans (hb5.mono hb24.size)
        go_wp2_with fail
        refine (neg_any (nth xs i) _ hx0 hx1).mono ?_
        rintro e w6 ⟨rfl, rfl⟩
        go_wp2_with fail
        have hb6 : Below w5.heap.size w5 (w5.alloc (.cells #[.int .u64 (V (-T (nth xs i))), .int .u64 1] 23)) := (Below.refl _ _).alloc (Nat.le_refl _) _
        refine (mulF pa _ na 2 A [-T (nth xs i), 1] ca 2 _ ((hA2.below hb25).below hb6) (U_two w5 23 (-T (nth xs i)) 1) (by omega) (by omega)).mono ?_
        rintro e w7 ⟨v', rfl, hA', hb7⟩
        have hb57 : Below w5.heap.size w5 w7 := hb6.trans (hb7.mono hb6.size)
        have hst := newton_step hN (by rw [List.length_map, hXl.out]; exact hlt) hz2.out
        rw [← hTx.out, show coef (ys.map T) i = T (nth ys i) from coef_T (by rw [hYl.out]; exact hlt), hC.out] at hst
        replace hS' := hS'.below hb57
        have hb8 := (hb2.trans (hb25.mono hb2.size)).trans (hb57.mono (Nat.le_trans hb2.size hb25.size))
        obtain ⟨p5, n5, c5, rfl, hc5⟩ := hS'
        obtain ⟨p6, n6, c6, rfl, hc6⟩ := hA'
        go_wp2
        go_roundw
        case rel => exact ⟨i + 1, _, _, by omega, by go_num, ⟨p5, n5, c5, rfl, hc5⟩, ⟨p6, n6, c6, rfl, hc6⟩, hst, hb8⟩
        case measure => simp [intOf]; omega
    · have hi' : i = n := by omega
      have hfin : FromOk (xs.map T) (ys.map T) S := by
        subst hi'
        refine newton_end ?_ (A := A)
        rw [List.length_map, hXl.out]
        exact hN
      clear hi' hN
      go_wp2
      go_ret
      exact ⟨_, rfl, ⟨S, ⟨ps, ns, cs, rfl, hcs, hS⟩, hfin⟩, hb⟩
end Go.Proofs.Ytokkjklggkoajaa
