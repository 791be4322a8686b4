/-
  The contracts of the references' polynomials (2): values; what has given values (Lagrange's).
-/
import Derived.Test.YtokkjklggkoajaaRefA
import Derived.Test.YtokkjklggkoajaaPolyPlain3
namespace Go.Proofs.Ytokkjklggkoajaa
open Go.RowKit
attribute [local go_sem] T_V

set_option maxRecDepth 100000 in
set_option maxHeartbeats 1000000 in
theorem rEval_any (p : Option Addr) (n : Nat) (xs : List Int) (c : Nat) (x : Int) (w : World) (hU : U w p n xs) (hn : n ≤ 9223372036854775807) (hx0 : 0 ≤ x) (hx1 : x < 18446744073709551616) :
    Calls Try.prog 21 #[.slice p n c, .int .u64 x] w fun e w' => e = .returned (.int .u64 (V (ev (xs.map T) (T x)))) ∧ Below w.heap.size w w' := by
  have hX := Lib.hid hU.len
  go_enter Try.func21, Try.ntmps21
  go_wp2
  go_loopw [5, 6] (fun o i wr => ∃ k : Nat, k ≤ n ∧ i = .int .i64 ((k : Int) - 1) ∧ o = .int .u64 (V (ev ((xs.map T).drop k) (T x))) ∧ Below w.heap.size w wr)
    (fun _ i _ => (intOf i + 1).toNat)
  case atStart => exact ⟨n, Nat.le_refl _, rfl, by rw [List.drop_of_length_le (by rw [List.length_map, hX.out]; exact Nat.le_refl _)]; rfl, Below.refl _ _⟩
  case round =>
    obtain ⟨k, hk, rfl, rfl, hb⟩ := hrel
    by_cases hk0 : 0 < k
    · obtain ⟨j, rfl⟩ : ∃ j, k = j + 1 := ⟨k - 1, by omega⟩
      obtain ⟨b, off, rfl, _, hcell, hy0, hy1⟩ := (hU.below hb).look (i := j) (by omega)
      have hstep := Lib.hid (ev_step xs (T x) j (by rw [hX.out]; omega))
      generalize ev ((xs.map T).drop (j + 1)) (T x) = o at *
      have e1 : ((j + 1 : Nat) : Int) - 1 = (j : Int) := by omega
      rw [e1]
      clear e1
      go_wp2
      have hix1 : (0 : Int) ≤ (j : Int) := by omega
      have hix2 : (j : Int) < (n : Int) := by omega
      refine wp_region_quiet (C := Gr wr) (by kernel_rfl) (by kernel_rfl) (Gr.start wr) ?_
      repeat
        refine wpQuiet_step (fun K hK => ?_)
        rw [if_pos (by rfl)]
        apply Exists.intro
        refine ⟨fun W hW => ?_, hK _ ?_⟩
        · have hld := hW.cell hcell
          unfold Oper.quietAt
          go_simp
          first
            | (with_reducible rfl)
            | (go_at_call 49; refine (rmul_b (Below.refl _ _) _ _ (V_lo _) (V_64 _) hx0 hx1).mono ?_; rintro e w'' ⟨rfl, hb''⟩; exact ⟨rfl, hW.then hb''⟩)
            | (go_at_call 47; refine (radd_any _ _ W (V_lo _) (V_64 _) hy0 hy1).mono ?_; rintro e w'' ⟨rfl, rfl⟩; exact ⟨rfl, hW⟩)
        clear hK K
      refine wpQuiet_nil ?_
      intro w2 hw2
      clear hix1 hix2
      go_wp2
      go_roundw
      case rel => exact ⟨j, by omega, by go_num, by rw [hstep.out], hb.trans (Below.mono hw2 hb.size)⟩
      case measure => simp [intOf]
    · obtain rfl : k = 0 := by omega
      rw [List.drop_zero]
      have e1 : ((0 : Nat) : Int) - 1 = -1 := by omega
      rw [e1]
      go_wp2
      go_ret
      exact ⟨rfl, hb⟩

set_option maxRecDepth 100000 in
set_option maxHeartbeats 1000000 in
theorem rFrom_any (p q : Option Addr) (n : Nat) (xs ys : List Int) (c d : Nat) (w : World) (hX : U w p n xs) (hY : U w q n ys) (hn : n ≤ 1099511627776) :
    Calls Try.prog 30 #[.slice p n c, .slice q n d] w fun e w' => ∃ v, e = .returned v ∧ (∃ fs, Fs w' v fs ∧ FromOk (xs.map T) (ys.map T) fs) ∧ Below w.heap.size w w' := by
  have hXl := Lib.hid hX.len
  have hYl := Lib.hid hY.len
  have hne : ((n : Int) != n) = false := bne_self_eq_false _
  go_enter Try.func30, Try.ntmps30
  go_wp2
  go_loopw [5, 6] (fun s i wr => ∃ (k : Nat) (S : List F), k ≤ n ∧ i = .int .i64 k ∧ Fs wr s S ∧ LagOk (xs.map T) (ys.map T) k S ∧ Below w.heap.size w wr)
    (fun _ i _ => n - (intOf i).toNat)
  case atStart => exact ⟨0, [], Nat.zero_le _, rfl, ⟨none, 0, 0, rfl, Nat.le_refl _, U.nil⟩, lag_start _ _, Below.refl _ _⟩
  case round =>
    obtain ⟨i, S, hi, rfl, ⟨ps, ns, cs, rfl, hcs, hS⟩, hN, hb⟩ := hrel
    have hns : ns ≤ n := by have := hN.len; rw [Fs.len hS, List.length_map, hXl.out] at this; exact this
    by_cases hlt : i < n
    · obtain ⟨b', off', rfl, _, hcell', hy0, hy1⟩ := (hY.below hb).look hlt
      obtain ⟨b, off, rfl, _, _, hx0, hx1⟩ := (hX.below hb).look hlt
      have hTy : Hid (T (nth ys i) = coef (ys.map T) i) := Lib.hid (coef_T' ys i).symm
      obtain ⟨wo, rfl⟩ : ∃ wo : World, wo = wr := ⟨_, rfl⟩
      have hb0 : Below wo.heap.size wo (wo.alloc (.cells #[.int .u64 (nth ys i)] 23)) := (Below.refl _ _).alloc (Nat.le_refl _) _
      have hP0 : U (wo.alloc (.cells #[.int .u64 (nth ys i)] 23)) (some ⟨wo.heap.size, 0, none⟩) 1 [nth ys i] :=
        ⟨rfl, (Arr.new wo 23 [.int .u64 (nth ys i)]).rd, by intro z hz; rw [List.mem_singleton] at hz; subst hz; exact ⟨hy0, hy1⟩⟩
      have hQ0 : PartOk (xs.map T) i (coef (ys.map T) i) 0 ([nth ys i].map T) := by
        show PartOk _ _ _ _ [T (nth ys i)]
        rw [hTy.out]; exact part_start _ _ _
      go_wp2
      go_loopw [7, 8] (fun pv j wr => ∃ (k np cp : Nat) (pp : Option Addr) (zs : List Int), k ≤ n ∧ j = .int .i64 k ∧ pv = .slice pp np cp ∧ U wr pp np zs ∧ PartOk (xs.map T) i (coef (ys.map T) i) k (zs.map T) ∧ Below wo.heap.size wo wr)
        (fun _ j _ => n - (intOf j).toNat)
      case atStart => exact ⟨0, 1, 1, _, _, Nat.zero_le _, rfl, rfl, hP0, hQ0, hb0⟩
      case round =>
        clear hb0 hP0 hQ0
        obtain ⟨k, np, cp, pp, zs, hk, rfl, rfl, hZ, hP, hbi⟩ := hrel
        have hb1 := hb.trans (hbi.mono hb.size)
        have hnp : np ≤ n + 1 := by
          have h1 := hP.len
          rw [List.length_map, hZ.len] at h1
          split at h1 <;> omega
        by_cases hlt2 : k < n
        · by_cases hki : k = i
          · have ht : ((k : Int) == i) = true := by rw [beq_iff_eq]; omega
            have hP' : PartOk (xs.map T) i (coef (ys.map T) i) (k + 1) (zs.map T) := by
              subst hki; exact part_skip hP
            clear hki
            go_wp2
            go_roundw
            case rel => exact ⟨k + 1, np, cp, pp, zs, by omega, by go_num, rfl, hZ, hP', hbi⟩
            case measure => simp [intOf]; omega
          · have ht : ((k : Int) == i) = false := by rw [beq_eq_false_iff_ne]; omega
            have hki' := Lib.hid hki
            clear hki
            have hc1 := (hX.below hb1).cell hlt
            have hc2 := (hX.below hb1).cell hlt2
            obtain ⟨hk0, hk1⟩ := hX.look_bd hlt2
            go_wp2
            have hix1 : (0 : Int) ≤ (i : Int) := by omega
            have hix2 : (i : Int) < (n : Int) := by omega
            have hix3 : (0 : Int) ≤ (k : Int) := by omega
            have hix4 : (k : Int) < (n : Int) := by omega
            refine wp_region_quiet (C := Gr wr) (by kernel_rfl) (by kernel_rfl) (Gr.start wr) ?_
            repeat
              refine wpQuiet_step (fun K hK => ?_)
              rw [if_pos (by rfl)]
              apply Exists.intro
              refine ⟨fun W hW => ?_, hK _ ?_⟩
              · have hld := hW.cell hc1
                have hld2 := hW.cell hc2
                unfold Oper.quietAt
                go_simp
                first
                  | (with_reducible rfl)
                  | (go_at_call 54; refine (rsub_any _ _ W hx0 hx1 hk0 hk1).mono ?_; rintro e w'' ⟨rfl, rfl⟩; exact ⟨rfl, hW⟩)
              clear hK K
            refine wpQuiet_nil ?_
            intro w2 hw2
            have hb2 := hb1.trans (Below.mono hw2 hb1.size)
            have hc3 := hc2
            replace hc3 := Gr.cell hw2 hc2
            clear hix1 hix2 hix3 hix4 hc1 hc2
            have hTx : Hid (T (nth xs i) = coef (xs.map T) i) := Lib.hid (coef_T' xs i).symm
            have hTk : Hid (T (nth xs k) = coef (xs.map T) k) := Lib.hid (coef_T' xs k).symm
            by_cases hz : T (nth xs i) - T (nth xs k) = 0
            · have hz' : (V (T (nth xs i) - T (nth xs k)) == 0) = true := by rw [V_inj_zero, beq_iff_eq]; exact hz
              have hfin : FromOk (xs.map T) (ys.map T) [] := from_dup (lag_dup (i := i) (k := k) (by rw [List.length_map, hXl.out]; exact hlt) (by rw [List.length_map, hXl.out]; exact hlt2) hki'.out (by rw [← hTx.out, ← hTk.out]; exact hz))
              clear hz
              go_wp2
              go_ret
              exact ⟨_, rfl, ⟨[], ⟨none, 0, 0, rfl, Nat.le_refl _, U.nil⟩, hfin⟩, hb2⟩
            · have hz' : (V (T (nth xs i) - T (nth xs k)) == 0) = false := by rw [V_inj_zero, beq_eq_false_iff_ne]; exact hz
              have hst := part_step hP hki'.out (by rw [← hTx.out, ← hTk.out]; exact hz)
              rw [← hTx.out, ← hTk.out] at hst
              clear hz
              go_wp2_with fail
              refine (rsub_any 0 _ _ (by omega) (by omega) hk0 hk1).mono ?_
              rintro e w3 ⟨rfl, rfl⟩
              rw [T_zero, zero_sub']
              go_wp2_with fail
              have hb3 : Below w2.heap.size w2 (w2.alloc (.cells #[.int .u64 (V (-T (nth xs k))), .int .u64 1] 23)) := (Below.refl _ _).alloc (Nat.le_refl _) _
              have hZ2 := (hZ.below hw2).below hb3
              refine (rMul_any pp _ np 2 zs ([-T (nth xs k), 1].map V) cp 2 _ hZ2 (U_two w2 23 (-T (nth xs k)) 1) (by omega) (by omega)).mono ?_
              rintro e w4 ⟨v, rfl, ⟨p4, n4, c4, rfl, hc4, hU4⟩, hb4⟩
              rw [map_TV] at hU4
              have hn4 : n4 ≤ n + 3 := by
                have h1 := Fs.len hU4
                have h2 := newton_mul_len (zs.map T) [-T (nth xs k), 1]
                rw [trimF_mul_trim, List.length_map, hZ.len] at h2
                simp only [List.length_cons, List.length_nil] at h2
                omega
              have hb24 : Below w2.heap.size w2 w4 := hb3.trans (hb4.mono hb3.size)
              go_wp2_with fail
              refine (rinv_b (Below.refl _ _) _ (V_lo _) (V_64 _)).mono ?_
              rintro e w5 ⟨rfl, hb5⟩
              rw [T_V]
              go_wp2_with fail
              refine (rScale_any p4 n4 _ c4 _ _ (hU4.below hb5) (by omega) (V_lo _) (V_64 _)).mono ?_
              rintro e w6 ⟨v, rfl, ⟨p6, n6, c6, rfl, hc6, hU6⟩, hb6⟩
              rw [map_TV, T_V] at hU6
              have hb26 : Below w2.heap.size w2 w6 := (hb24.trans (hb5.mono hb24.size)).trans (hb6.mono (Nat.le_trans hb24.size hb5.size))
              go_wp2
              go_roundw
              case rel => exact ⟨k + 1, n6, c6, p6, _, by omega, by go_num, rfl, hU6, by rw [map_TV]; exact hst, hbi.trans ((Below.trans hw2 (hb26.mono (Below.size hw2))).mono hbi.size)⟩
              case measure => simp [intOf]; omega
        · have hk' : k = n := by omega
          have hst := lag_step hN (P := zs.map T) (by rw [List.length_map, hXl.out]; exact hlt) (by rw [List.length_map, hXl.out, ← hk']; exact hP)
          clear hk'
          go_wp2_with fail
          refine (rAdd_any ps pp ns np (S.map V) zs cs cp _ (hS.below hbi) hZ (by omega) (by omega)).mono ?_
          rintro e w6 ⟨v, rfl, ⟨p6, n6, c6, rfl, hc6, hU6⟩, hb6⟩
          rw [map_TV] at hU6
          go_wp2
          go_roundw
          case rel => exact ⟨i + 1, _, by omega, by go_num, ⟨p6, n6, c6, rfl, hc6, hU6⟩, hst, hb1.trans (hb6.mono hb1.size)⟩
          case measure => simp [intOf]; omega
    · have hi' : i = n := by omega
      have hfin : FromOk (xs.map T) (ys.map T) S := by
        refine lag_end ?_
        rw [List.length_map, hXl.out, ← hi']
        exact hN
      clear hi' hN
      go_wp2
      go_ret
      exact ⟨_, rfl, ⟨S, ⟨ps, ns, cs, rfl, hcs, hS⟩, hfin⟩, hb⟩
end Go.Proofs.Ytokkjklggkoajaa
