/-
  The walks of the statements on shares (5): one share too few tells nothing.
-/
import Derived.Test.YtpngkdhfjginlaaShLawD
import Derived.Deep.QuietTactic
import Derived.BigQuiet
namespace Go.Proofs.Ytpngkdhfjginlaa
open Go.RowKit
attribute [local go_sem] T_V

theorem U.drop {w : World} {b off n : Nat} {xs : List Int} (h : U w (some ⟨b, off, none⟩) n xs) (k : Nat) : U w (some ⟨b, off + k, none⟩) (n - k) (xs.drop k) := by
  refine ⟨by rw [List.length_drop, h.len], ?_, fun s hs => h.bd s (List.mem_of_mem_drop hs)⟩
  rcases h.rd with h1 | ⟨b', off', he, hc⟩
  · refine .inl ?_
    rw [List.map_drop, h1, List.drop_nil]
  · injection he with he
    injection he with h1 h2
    subst h1; subst h2
    refine .inr ⟨_, _, rfl, fun i hi => ?_⟩
    rw [List.length_map, List.length_drop] at hi
    have := hc (k + i) (by rw [List.length_map]; omega)
    rw [Nat.add_assoc, this]
    congr 1
    simp
section
variable {P fs : List F} {K : List Nat} {o : Int}
theorem nothing_xs (h : ∀ k ∈ K, k < 9) : (0 :: plcI (takes (splitL P 9) K)).map T = 0 :: K.map pt := by rw [List.map_cons, plc_I, plc_takes P K h, T_zero]
theorem nothing_ys (h : ∀ k ∈ K, k < 9) : (V (T o) :: vals (takes (splitL P 9) K)).map T = T o :: K.map fun k => ev P (pt k) := by rw [List.map_cons, vals_takes P K h, T_V]
theorem nothing_nd (hd : K.Nodup) (h : ∀ k ∈ K, k < 9) : ((0 : F) :: K.map pt).Nodup := List.nodup_cons.2 ⟨zero_not_pt h, nodup_pt hd h⟩
theorem nothing_len (hd : K.Nodup) (h : ∀ k ∈ K, k < 9) (hf : FromOk ((0 :: plcI (takes (splitL P 9) K)).map T) ((V (T o) :: vals (takes (splitL P 9) K)).map T) fs) : fs.length ≤ K.length + 1 := by
  rw [nothing_xs h] at hf
  have := hf.len (nothing_nd hd h)
  simpa using this
theorem nothing_zero (hd : K.Nodup) (h : ∀ k ∈ K, k < 9) (hf : FromOk ((0 :: plcI (takes (splitL P 9) K)).map T) ((V (T o) :: vals (takes (splitL P 9) K)).map T) fs) : ev fs 0 = T o := by
  rw [nothing_xs h, nothing_ys h] at hf
  have := hf.val (nothing_nd hd h) 0 (by simp)
  rwa [coef_zero, coef_zero] at this
theorem nothing_at (hd : K.Nodup) (h : ∀ k ∈ K, k < 9) (hf : FromOk ((0 :: plcI (takes (splitL P 9) K)).map T) ((V (T o) :: vals (takes (splitL P 9) K)).map T) fs) {i : Nat} (hi : i < K.length) : ev fs (pt K[i]) = ev P (pt K[i]) := by
  rw [nothing_xs h, nothing_ys h] at hf
  have := hf.val (nothing_nd hd h) (i + 1) (by simpa using hi)
  rw [coef_succ, coef_succ, coef_lt (by simpa using hi), coef_lt (by simpa using hi)] at this
  simpa using this
theorem rest_ev {R : List Int} (h0 : ev fs 0 = T o) (hR : R = (fs.map V).drop 1) (z : F) : ev ((o :: R).map T) z = ev fs z := by
  subst hR
  cases fs with
  | nil =>
    rw [ev] at h0
    show T o + z * 0 = 0
    rw [← h0, mul_zero', add_zero']
  | cons a fs =>
    rw [ev_zero] at h0
    rw [List.map_cons, List.map_cons, List.drop_succ_cons, List.drop_zero, map_TV, ev, ev, h0]
/-- The made shares hold each of the given ones. -/
theorem nothing_sh (hd : K.Nodup) (h : ∀ k ∈ K, k < 9) (hf : FromOk ((0 :: plcI (takes (splitL P 9) K)).map T) ((V (T o) :: vals (takes (splitL P 9) K)).map T) fs) {R : List Int} (hR : R = (fs.map V).drop 1) (i : Nat) (hi : i < K.length) :
    ∃ k, k < 9 ∧ sh (splitL ((o :: R).map T) 9) k = sh (takes (splitL P 9) K) i := by
  have hk := h K[i] (List.getElem_mem hi)
  refine ⟨K[i], hk, ?_⟩
  rw [sh_takes hi, sh_split P hk, sh_split _ hk, rest_ev (nothing_zero hd h hf) hR, nothing_at hd h hf hi]
end
theorem Sh.below' {B : Nat} {w w' : World} {p : Option Addr} {n : Nat} {l : List (Int × Int)} (h : Sh w p n l) (hb : Below B w w') (hB : w.heap.size ≤ B) : Sh w' p n l := h.below (hb.mono hB)
theorem OwnS.lone {w : World} {base : Nat} {v : Value} {n m : Nat} {l : List (Int × Int)} (h : OwnS w base v n l) (e : n = m) : OwnS w base v m l := e ▸ h

set_option maxRecDepth 100000 in
set_option maxHeartbeats 1000000 in
theorem nothing_walk (s o : Int) (p : Option Addr) (m : Nat) (xs : List Int) (c : Nat) (q : Option Addr) (g : Nat) (ats : List Int) (d : Nat) (w : World) (hs0 : 0 ≤ s) (hs1 : s < 18446744073709551616) (ho0 : 0 ≤ o) (ho1 : o < 18446744073709551616) (hU : U w p m xs) (hc : m ≤ c) (hm : m ≤ 9223372036854775807) (hp : p = none → c = 0)
    (hI : UI w q g ats) (hg : g ≤ 9223372036854775807) :
    Calls Try.prog 6 #[.int .u64 s, .int .u64 o, .slice p m c, .slice q g d] w fun e w' => e = .returned (.bool true) ∧ Below w.heap.size w w' := by
  go_enter Try.func6, Try.ntmps6
  go_wp2_with fail
  refine (Nums_c 5 5 rfl p m xs c _ hU hc hp hm (by omega)).mono ?_
  rintro e w1 ⟨v, rfl, hown, hb1⟩
  obtain ⟨p1, c1, rfl, hc1, hU1, hp1⟩ := hown.u'
  clear hown
  have hm1 : min m 5 ≤ 5 := Nat.min_le_right _ _
  generalize min m 5 = m1 at *
  generalize xs.take m1 = ys at *
  go_wp2_with fail
  refine (Split_any s p1 m1 ys c1 9 _ hs0 hs1 hU1 hp1 (by omega) (by omega) (by omega)).mono ?_
  rintro e w2 ⟨v, rfl, hown, hb2⟩
  obtain ⟨p2, c2, rfl, hc2, hL2⟩ := hown.u
  clear hown
  have hL2 : Sh w2 p2 9 (splitL ((s :: ys).map T) 9) := hL2
  generalize (s :: ys).map T = P at *
  have hb12 := hb1.trans (hb2.mono hb1.size)
  go_wp2_with fail
  refine (Some_split m1 m1 rfl P p2 c2 q g ats d _ hL2 (hI.below hb12) hg (by omega)).mono ?_
  rintro e w4 ⟨v, rfl, ⟨K, hK1, hK2, hK3, hown⟩, hb4⟩
  have hKm := Lib.hid (show K.length = m1 by omega)
  obtain ⟨p4, c4, rfl, hc4, hL4⟩ := (hown.lone hKm.out).u
  have hl := Lib.hid hL4.len
  have hD := Lib.hid (fun (fs : List F) (h : FromOk ((0 :: plcI (takes (splitL P 9) K)).map T) ((V (T o) :: vals (takes (splitL P 9) K)).map T) fs) => nothing_len hK1 hK2 h)
  have hE := Lib.hid (fun (fs : List F) (h : FromOk ((0 :: plcI (takes (splitL P 9) K)).map T) ((V (T o) :: vals (takes (splitL P 9) K)).map T) fs) R hR i hi => nothing_sh hK1 hK2 h (R := R) hR i hi)
  clear hown hK1 hK2 hK3
  generalize takes (splitL P 9) K = l at *
  have hb14 := hb12.trans (hb4.mono hb12.size)
  have hbx : Below w4.heap.size w4 (w4.alloc (.cells #[.int .u64 0] 22)) := (Below.refl _ _).alloc (Nat.le_refl _) _
  have hownX : Own (w4.alloc (.cells #[.int .u64 0] 22)) w4.heap.size (.slice (some ⟨w4.heap.size, 0, none⟩) 1 1) 1 (0 :: (plcI l).take 0) :=
    ⟨rfl, World.ownsRow_lit w4 #[.int .u64 0] 1 (Nat.le_refl _) (by unfold maxLen; omega) rfl, by intro x hx; simp at hx; subst hx; omega⟩
  obtain ⟨w5, e5⟩ : ∃ w5, Hid (w4.alloc (.cells #[.int .u64 0] 22) = w5) := ⟨_, Lib.hid rfl⟩
  rw [e5.out] at hbx hownX
  go_wp2_with fail
  rw [e5.out]
  refine (num_any _ _ ho0 ho1).mono ?_
  rintro e w' ⟨rfl, rfl⟩
  have hby : Below w5.heap.size w5 (w5.alloc (.cells #[.int .u64 (V (T o))] 22)) := (Below.refl _ _).alloc (Nat.le_refl _) _
  have hs5 : w5.heap.size = w4.heap.size + 1 := by rw [← e5.out]; simp
  have hownY : Own (w5.alloc (.cells #[.int .u64 (V (T o))] 22)) w4.heap.size (.slice (some ⟨w5.heap.size, 0, none⟩) 1 1) 1 (V (T o) :: (vals l).take 0) :=
    ⟨rfl, by
      have h : (w5.alloc (.cells #[.int .u64 (V (T o))] 22)).ownsRow w5.heap.size 22 1 (.slice (some ⟨w5.heap.size, 0, none⟩) 1 1) 1 ([V (T o)].map (Value.int .u64)) := World.ownsRow_lit w5 #[.int .u64 (V (T o))] 1 (Nat.le_refl _) (by unfold maxLen; omega) rfl
      rcases h.2 with h1 | ⟨g, cap, cur, hv, hg, hr⟩
      · exact ⟨h.1, .inl h1⟩
      · exact ⟨h.1, .inr ⟨g, cap, cur, hv, by omega, hr⟩⟩, by intro x hx; simp at hx; subst hx; exact ⟨V_lo _, V_64 _⟩⟩
  have hownX6 := hownX.below hby
  obtain ⟨w6, e6⟩ : ∃ w6, Hid (w5.alloc (.cells #[.int .u64 (V (T o))] 22) = w6) := ⟨_, Lib.hid rfl⟩
  rw [e6.out] at hby hownY hownX6
  have hsep0 : Sep (.slice (some ⟨w4.heap.size, 0, none⟩) 1 1) (.slice (some ⟨w5.heap.size, 0, none⟩) 1 1) := by
    intro g h1 h2
    simp [Value.ownBlock] at h1 h2
    omega
  have hs56 := Lib.hid hs5
  clear hs5 hownX
  have hb46 := hbx.trans (hby.mono hbx.size)
  go_wp2_with fail
  rw [e6.out]
  go_loopw [11, 12, 13] (fun xv yv i wr => ∃ k : Nat, k ≤ m1 ∧ i = .int .i64 k ∧ Own wr w4.heap.size xv (k + 1) (0 :: (plcI l).take k) ∧ Own wr w4.heap.size yv (k + 1) (V (T o) :: (vals l).take k) ∧ Sep xv yv ∧ Below w4.heap.size w4 wr)
    (fun _ _ i _ => m1 - (intOf i).toNat)
  case atStart => exact ⟨0, Nat.zero_le _, rfl, hownX6, hownY, hsep0, hb46⟩
  case round =>
    clear hownX6 hownY hsep0 hb46
    obtain ⟨k, hk, rfl, hX, hY, hsep, hb⟩ := hrel
    by_cases hlt : k < m1
    · obtain ⟨b, off, rfl, _, hc1, hc2⟩ := hL4.look hlt
      have hd1 := (hb.cell (cell_lt hc1)).trans hc1
      obtain ⟨hx0, hy0⟩ := hL4.look_bd hlt
      have hst1 := Lib.hid (plcI_take l k (by rw [hl.out]; exact hlt))
      have hst2 := Lib.hid (vals_take l k (by rw [hl.out]; exact hlt))
      go_wp2_with (first
        | (at_builtin; refine app_two rfl _ _ rfl hX hY hsep rfl rfl hx0 (by omega) hb.size ?_; intro v1 wA hX1 hY1 hsep1 hbA
           have hd2 := ((hb.trans hbA).cell (cell_lt hc2)).trans hc2)
        | (at_builtin; refine app_two rfl _ _ rfl hY1 hX1 (Sep.symm hsep1) rfl rfl hy0 (by omega) (hb.trans hbA).size ?_; intro v2 wB hY2 hX2 hsep2 hbB))
      go_roundw
      case rel => exact ⟨k + 1, by omega, by go_num, by rw [hst1.out]; exact hX2, by rw [hst2.out]; exact hY2, Sep.symm hsep2, (hb.trans hbA).trans hbB⟩
      case measure => simp [intOf]; omega
    · obtain rfl : k = m1 := by omega
      rw [List.take_of_length_le (by rw [plcI_length, hl.out]; exact Nat.le_refl _)] at hX
      rw [List.take_of_length_le (by rw [vals_length, hl.out]; exact Nat.le_refl _)] at hY
      obtain ⟨px, cx, rfl, _, hXu⟩ := hX.u
      obtain ⟨py, cy, rfl, _, hYu⟩ := hY.u
      have hb1r := hb14.trans (hb.mono hb14.size)
      clear hX hY hsep
      go_wp2_with fail
      refine (From_any px py (k + 1) _ _ cx cy _ hXu hYu (by omega)).mono ?_
      rintro e w7 ⟨v, rfl, ⟨fs, ⟨pf, nf, cf, rfl, hcf, hF⟩, hok⟩, hb7⟩
      have hb17 := hb1r.trans (hb7.mono hb1r.size)
      have hL7 := (hL4.below hb).below hb7
      have hnf : nf ≤ k + 1 := by have := hD.out fs hok; rw [hKm.out] at this; rw [← hF.len, List.length_map]; exact this
      have hnf2 : ¬ ((k : Int) + 1 < (nf : Int)) := by omega
      have hEf := Lib.hid (hE.out fs hok)
      clear hD hE hok
      have hcase : 1 < nf ∨ nf ≤ 1 := by omega
      rcases hcase with h1 | h1
      case' inl =>
        obtain ⟨b, off, rfl, _⟩ := hF.look (i := 0) (by omega)
        have hR := hF.drop 1
        go_wp2_with fail
        refine (Split_any o _ (nf - 1) ((fs.map V).drop 1) _ 9 _ ho0 ho1 hR (fun h => by cases h) (by omega) (by omega) (by omega)).mono ?_
        rintro e w8 ⟨v, rfl, hown, hb8⟩
        obtain ⟨p6, c6, rfl, _, hL6⟩ := hown.u
        have hL6 : Sh w8 p6 9 (splitL ((o :: (fs.map V).drop 1).map T) 9) := hL6
        have hEA := Lib.hid (hEf.out _ rfl)
        clear hR
      case' inr =>
        go_wp2_with fail
        refine (Split_any o none 0 [] 0 9 _ ho0 ho1 U.nil (fun _ => rfl) (by omega) (by omega) (by omega)).mono ?_
        rintro e w8 ⟨v, rfl, hown, hb8⟩
        obtain ⟨p6, c6, rfl, _, hL6⟩ := hown.u
        have hL6 : Sh w8 p6 9 (splitL ((o :: []).map T) 9) := hL6
        have hEA := Lib.hid (hEf.out [] (List.drop_eq_nil_of_le (by rw [hF.len]; exact h1)).symm)
      all_goals
        clear hown hEf hF
        rw [hKm.out] at hEA
        generalize splitL _ 9 = A at hL6 hEA
        have hb18 := hb17.trans (hb8.mono hb17.size)
        have hL8 := hL7.below hb8
        go_wp2_with fail
        go_loopw [17] (fun i wy => ∃ t : Nat, t ≤ k ∧ i = .int .i64 t ∧ Below w8.heap.size w8 wy)
          (fun i _ => k - (intOf i).toNat)
        case atStart => exact ⟨0, Nat.zero_le _, rfl, Below.refl _ _⟩
        case round =>
          obtain ⟨t, ht, rfl, hbt⟩ := hrel
          obtain ⟨wt, rfl⟩ : ∃ wt : World, wt = wr := ⟨_, rfl⟩
          by_cases hlt2 : t < k
          · obtain ⟨y, hy, heq⟩ := hEA.out t hlt2
            have heq := Lib.hid heq
            obtain ⟨b2, off2, rfl, _, hc1, hc2⟩ := (hL8.below hbt).look hlt2
            go_wp2_with fail
            go_loopw [18, 19] (fun f i wy => ∃ (j : Nat) (b : Bool), j ≤ 9 ∧ i = .int .i64 j ∧ f = .bool b ∧ Hid (y < j → b = true) ∧ Below wt.heap.size wt wy)
              (fun _ i _ => 9 - (intOf i).toNat)
            case atStart => exact ⟨0, false, by omega, rfl, rfl, Lib.hid (fun h => absurd h (by omega)), Below.refl _ _⟩
            case round =>
              obtain ⟨j, b, hj, rfl, rfl, hyb, hbj⟩ := hrel
              by_cases hlt3 : j < 9
              · obtain ⟨b3, off3, rfl, _, hd1, hd2⟩ := ((hL6.below hbt).below hbj).look hlt3
                have hc3 := below_cell' hbj hc1
                have hc4 := below_cell' hbj hc2
                have hix1 : (0 : Int) ≤ (j : Int) := by omega
                have hix2 : (j : Int) < 9 := by omega
                have hix3 : (0 : Int) ≤ (t : Int) := by omega
                have hix4 : (t : Int) < (k : Int) := by omega
                cases b with
                | true =>
                  clear hyb
                  go_wp2
                  go_quiet (fail)
                  go_wp2
                  go_roundw
                  case rel => exact ⟨j + 1, true, by omega, by go_num, rfl, Lib.hid (fun _ => rfl), below_drewN hbj _⟩
                  case measure => simp [intOf]; omega
                | false =>
                  by_cases hjy : sh A j = sh l t
                  · rw [hjy] at hd1 hd2
                    clear hjy
                    go_wp2
                    go_quiet (fail)
                    go_wp2
                    go_roundw
                    case rel => exact ⟨j + 1, true, by omega, by go_num, rfl, Lib.hid (fun _ => rfl), below_drewN hbj _⟩
                    case measure => simp [intOf]; omega
                  · have hy2 : Hid (¬ y < j + 1) := Lib.hid (fun h => by
                      rcases Nat.lt_or_ge y j with h1 | h1
                      · have := hyb.out h1; cases this
                      · obtain rfl : y = j := by omega
                        exact hjy heq.out)
                    have hnn : ((sh A j).1 == (sh l t).1) = false ∨ (sh A j).1 = (sh l t).1 ∧ ((sh A j).2 == (sh l t).2) = false := by
                      rw [beq_eq_false_iff_ne, beq_eq_false_iff_ne]
                      by_cases h1 : (sh A j).1 = (sh l t).1
                      · exact .inr ⟨h1, fun h2 => hjy (Prod.ext h1 h2)⟩
                      · exact .inl h1
                    clear hjy hyb heq
                    rcases hnn with hn1 | ⟨hn1, hn2⟩
                    · go_wp2
                      go_quiet (fail)
                      go_wp2
                      go_roundw
                      case rel => exact ⟨j + 1, false, by omega, by go_num, rfl, Lib.hid (fun h => absurd h hy2.out), below_drewN hbj _⟩
                      case measure => simp [intOf]; omega
                    · rw [hn1] at hd1
                      clear hn1
                      go_wp2
                      go_quiet (fail)
                      go_wp2
                      go_roundw
                      case rel => exact ⟨j + 1, false, by omega, by go_num, rfl, Lib.hid (fun h => absurd h hy2.out), below_drewN hbj _⟩
                      case measure => simp [intOf]; omega
              · obtain rfl : b = true := hyb.out (by omega)
                clear hyb
                go_wp2
                go_roundw
                case rel => exact ⟨t + 1, by omega, by go_num, hbt.trans (hbj.mono hbt.size)⟩
                case measure => simp [intOf]; omega
          · go_wp2_with fail
            refine (lives9 _).mono ?_
            rintro e w10 ⟨rfl, hb10⟩
            go_wp2
            go_ret
            have hb19 := hb18.trans (hbt.mono hb18.size)
            exact ⟨rfl, hb19.trans (hb10.mono hb19.size)⟩
end Go.Proofs.Ytpngkdhfjginlaa
