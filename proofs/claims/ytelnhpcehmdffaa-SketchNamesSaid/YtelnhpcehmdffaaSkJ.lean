/-
  The contract of the difference of two sketches (2): the walk.
-/
import Derived.Test.YtelnhpcehmdffaaSkP
namespace Go.Proofs.Ytelnhpcehmdffaa
open Go.RowKit
attribute [local go_sem] T_V

set_option maxRecDepth 100000 in
set_option maxHeartbeats 8000000 in
theorem Diff_any (pa pb : Option Addr) (n ca cb na nb : Nat) (A B : List Int) (w : World) (hA : U w pa n A) (hB : U w pb n B) (hn : n ≤ 100) (hna : na ≤ 1000000) (hnb : nb ≤ 1000000) (hB0 : ∀ k, k < n → rowF B k ≠ 0) (hAc : ∀ k, k < n → nth A k = V (rowF A k)) (hBc : ∀ k, k < n → nth B k = V (rowF B k))
    (hfew : n ≤ 14 ∨ ∃ X Y, Fits n ((na : Int) - nb) (rowF A) (rowF B) X Y ∧ X.length ≤ 12 ∧ Y.length ≤ 12) :
    Calls Try.prog 15 #[.agg #[.int .i64 na, .slice pa n ca], .agg #[.int .i64 nb, .slice pb n cb]] w fun e w' => DiffTo n ((na : Int) - nb) A B w e w' ∧ Below w.heap.size w w' := by
  have hA1 : Arr ((w.alloc (.cells #[.int .i64 na, .slice pa n ca] 30)).alloc (.cells #[.int .i64 nb, .slice pb n cb] 30)) w.heap.size 30 [.int .i64 na, .slice pa n ca] :=
    (Arr.new w 30 [.int .i64 na, .slice pa n ca]).below ((Below.refl (w.heap.size + 1) _).alloc (by simp) _) (by omega)
  have hA2 : Arr ((w.alloc (.cells #[.int .i64 na, .slice pa n ca] 30)).alloc (.cells #[.int .i64 nb, .slice pb n cb] 30)) (w.heap.size + 1) 30 [.int .i64 nb, .slice pb n cb] := by
    have := Arr.new (w.alloc (.cells #[.int .i64 na, .slice pa n ca] 30)) 30 [.int .i64 nb, .slice pb n cb]
    have hs : (w.alloc (.cells #[.int .i64 na, .slice pa n ca] 30)).heap.size = w.heap.size + 1 := by simp
    rwa [hs] at this
  have hb0 : Below w.heap.size w ((w.alloc (.cells #[.int .i64 na, .slice pa n ca] 30)).alloc (.cells #[.int .i64 nb, .slice pb n cb] 30)) := ((Below.refl _ _).alloc (Nat.le_refl _) _).alloc (by simp) _
  have ka0 := hA1.cell (i := 0) (by simp)
  have ka1 := hA1.cell (i := 1) (by simp)
  have kb0 := hA2.cell (i := 0) (by simp)
  have kb1 := hA2.cell (i := 1) (by simp)
  replace ka0 : (((w.alloc (.cells #[.int .i64 na, .slice pa n ca] 30)).alloc (.cells #[.int .i64 nb, .slice pb n cb] 30))).cell? ⟨w.heap.size, 0, none⟩ = some (.int .i64 na) := ka0
  replace ka1 : (((w.alloc (.cells #[.int .i64 na, .slice pa n ca] 30)).alloc (.cells #[.int .i64 nb, .slice pb n cb] 30))).cell? ⟨w.heap.size, 1, none⟩ = some (.slice pa n ca) := ka1
  replace kb0 : (((w.alloc (.cells #[.int .i64 na, .slice pa n ca] 30)).alloc (.cells #[.int .i64 nb, .slice pb n cb] 30))).cell? ⟨w.heap.size + 1, 0, none⟩ = some (.int .i64 nb) := kb0
  replace kb1 : (((w.alloc (.cells #[.int .i64 na, .slice pa n ca] 30)).alloc (.cells #[.int .i64 nb, .slice pb n cb] 30))).cell? ⟨w.heap.size + 1, 1, none⟩ = some (.slice pb n cb) := kb1
  obtain ⟨d, hd⟩ : ∃ d : Int, (na : Int) - nb = d := ⟨_, rfl⟩
  have hd0 : -1000000 ≤ d ∧ d ≤ 1000000 := by omega
  rw [hd] at hfew ⊢
  replace hB0 := Lib.hid hB0
  replace hfew := Lib.hid hfew
  replace hAc := Lib.hid hAc
  replace hBc := Lib.hid hBc
  by_cases hshort : (n : Int) - 2 < max d (-d)
  · have hno := Lib.hid (DiffIs.short (n := n) (d := d) (a := rowF A) (b := rowF B) (by omega))
    go_enter Try.func15, Try.ntmps15
    go_wp2_with fail
    go_ret3
    exact ⟨.inr ⟨rfl, .inr ⟨rfl, hno.out⟩⟩, hb0⟩
  · obtain ⟨all0, hn2⟩ : ∃ m : Nat, (n : Int) - 2 = (m : Int) := ⟨n - 2, by omega⟩
    have hnle : Hid (n = all0 + 2) := Lib.hid (by omega)
    rw [hn2] at hshort
    have hd1 : 0 ≤ (all0 : Int) + d := by omega
    have hd2 : 0 ≤ (all0 : Int) - d := by omega
    have ha0 : all0 ≤ 98 := by omega
    go_enter Try.func15, Try.ntmps15
    go_upto_if 48 with fail
    obtain ⟨w1, e1⟩ : ∃ w1, Hid (((w.alloc (.cells #[.int .i64 na, .slice pa n ca] 30)).alloc (.cells #[.int .i64 nb, .slice pb n cb] 30)) = w1) := ⟨_, Lib.hid rfl⟩
    rw [e1.out] at hb0 ka0 kb0 ka1 kb1 ⊢
    replace ka0 := Lib.hid ka0
    replace kb0 := Lib.hid kb0
    replace hA := hA.below hb0
    replace hB := hB.below hb0
    clear e1 hA1 hA2 hshort
    obtain ⟨all, one, two, hdeg, hpar, hq1, hq2, hq3, hq4⟩ := parts n all0 d hnle.out hd1 hd2
    have hs := Lib.hid hdeg.sum
    have hal : all ≤ 98 := by omega
    replace hdeg := Lib.hid hdeg
    go_cut [8] from 44 to 50 (fun v wx => v = .int .i64 all ∧ wx = w1)
    case first =>
      rcases hpar with ⟨hp1, hp2⟩ | ⟨hp1, hp2⟩
      · subst hp1
        have tz : (((all0 : Int) + d) % 2 != 0) = false := by rw [hp2]; rfl
        go_wp2_with fail
        go_meet
        exact ⟨rfl, rfl⟩
      · have tz : (((all0 : Int) + d) % 2 != 0) = true := by rw [hp2]; rfl
        have hp3 : (all0 : Int) - 1 = (all : Int) := by omega
        clear hp1 hp2
        go_wp2_with fail
        go_meet
        exact ⟨rfl, rfl⟩
    case rest =>
      obtain ⟨rfl, rfl⟩ := hcut
      clear hd1 hd2 hpar
      go_wp2_with fail
      rw [hq1, hq2]
      have hone : one ≤ 98 ∧ two ≤ 98 := by have := hs.out; omega
      have hall : Hid (all + 2 ≤ n) := Lib.hid hdeg.out.le
      clear hq1 hq2 hq3 hq4
      go_loopw [11, 60] (fun rv kv wr => ∃ (k : Nat) (v : Value) (β κ : Nat → Nat), k ≤ all ∧ kv = .int .i64 k ∧ v = rv ∧ RowsIs wr wc.heap.size v k (one + two + 1) β κ (eqns (rowF A) (rowF B) one two) ∧ Below wc.heap.size wc wr) (fun _ kv _ => all - (intOf kv).toNat)
      case atStart => exact ⟨0, _, fun _ => 0, fun _ => 0, Nat.zero_le _, rfl, rfl, RowsIs.nil _ _ _ _ _ _, Below.refl _ _⟩
      case round =>
        obtain ⟨k, v, β, κ, hk, rfl, rfl, hrows, hbr⟩ := hrel
        by_cases hlk : k < all
        · have hkn : k < n := by have := hall.out; omega
          obtain ⟨ba, oa, rfl, ha1, ha2, ha3, ha4⟩ := hA.look hkn
          obtain ⟨b2, o2, rfl, hb2, hb22, hb23, hb24⟩ := hB.look hkn
          rw [hAc.out k hkn] at ha2
          rw [hBc.out k hkn] at hb22
          have it0 : (0 : Int) ≤ (k : Int) := by omega
          have it1 : (k : Int) < (n : Int) := by omega
          have hbd := hbr.drew
          have hrd : RowsIs wr.drew wc.heap.size v k (one + two + 1) β κ (eqns (rowF A) (rowF B) one two) := hrows.below (Below.drew (Below.refl _ _))
          clear hrows
          go_wp2_with fail
          go_region_held3 (fun W => ((W.cell? ⟨w.heap.size, 1, none⟩ = some (.slice (some ⟨ba, oa, none⟩) n ca) ∧ W.cell? ⟨w.heap.size + 1, 1, none⟩ = some (.slice (some ⟨b2, o2, none⟩) n cb)) ∧ (W.cell? ⟨ba, oa + k, none⟩ = some (.int .u64 (V (rowF A k))) ∧ W.cell? ⟨b2, o2 + k, none⟩ = some (.int .u64 (V (rowF B k))))) ∧ Below wc.heap.size wc W) (exact keep4 (by first | assumption | exact Below.alloc (by assumption) (by assumption) _) ka1 kb1 ha2 hb22) (first
            | (go_simp; go_at_call 27; refine (equation_any (rowF A k) (rowF B k) k one two _ (by omega) (by omega) (by omega)).mono ?_; rintro e w2 ⟨v2, rfl, ho2, hb2'⟩; (have hb02 := hbd.trans (hb2'.mono hbd.size)); obtain ⟨p2, c2, rfl, hc2, hu2⟩ := ho2.u; obtain ⟨g2, rfl⟩ := own_some ho2 (by omega); have hsz2 := hb02.size)
            | (refine app_t_step rfl (.tmp 63) (.tmp 78) rfl ((hrd.below hb2').below (Below.lit w2 _)).tab rfl rfl ((Arr.new w2 22 [.slice (some ⟨g2, 0, none⟩) (one + two + 1) c2]).cell (i := 0) (by simp)) (by omega) (by simp; omega) ?_; intro g3 cap3 w3 hT hG; (have hb3 := (hb02.alloc hsz2 (.cells #[.slice (some ⟨g2, 0, none⟩) (one + two + 1) c2] 22)).grown hG (by simp; omega) (fun k e => (hrd.tab.lt k e).1)))
            | fail)
          have hst := hrd.step (by omega) hbd.size hb2' ho2 hc2 hT hG
          go_wp2_with fail
          go_roundw
          case rel => exact ⟨k + 1, _, _, _, by omega, by go_num, rfl, hst, hb3⟩
          case measure => simp [intOf]; omega
        · obtain rfl : k = all := by omega
          rw [hs.out] at hrows
          go_wp2_with fail
          refine (solve_rows hrows (by omega) hbr.size).mono ?_
          rintro e w4 ⟨hb4, ⟨g4, l, rfl, hU4, hg4, hsol⟩ | ⟨rfl, hno⟩⟩
          · obtain ⟨q5, s2, hcut⟩ := cut_from g4 one two k hs.out
            have s1 := slice_to (some ⟨g4, 0, none⟩) k k one (by have := hs.out; omega)
            have hb04 := hbr.trans hb4
            have hU41 := hU4.take (k := one) (by have := hs.out; omega)
            have hU42 := hcut hU4
            have hsol' := Lib.hid hsol
            have hbd4 : Below w4.heap.size w4 w4.drew := (Below.refl _ _).drew
            rw [range_take l (by have := hs.out; omega)] at hU41
            rw [range_drop l hs.out] at hU42
            clear hcut hsol hrows
            go_upto_region 19 with fail
            go_cut [15, 16] from 89 to 100 (fun pv qv wx => ∃ p6 c6 p8 c8, pv = .slice p6 (one + 1) c6 ∧ qv = .slice p8 (two + 1) c8 ∧ Rp wx p6 (one + 1) (mon l one) ∧ Rp wx p8 (two + 1) (mon (fun j => l (one + j)) two) ∧ Below w4.heap.size w4 wx)
            case first =>
              go_region_held3 (fun W => Below w4.heap.size w4 W) (go_grown) (first
                | (go_simp; go_at_call 29; (with_reducible refine (Clone_b (p := some ⟨g4, 0, none⟩) (w0 := w4) (by go_grown) hU41 (fun h => by cases h) (by omega)).mono ?_); rintro e w5 ⟨⟨v5, rfl, ho5⟩, hb5, hb45⟩; (have hs45 := hb45.size); (have hz5 := hb5.size); (repeat (first | simp only [World.size_alloc] at hz5 | simp only [World.size_drew] at hz5)))
                | (refine app_step (y := 1) rfl (.tmp 92) (.tmp 93) rfl (ho5.below (by go_grown)) rfl rfl (by repeat' (first | (with_reducible refine new_at _ ?_; (first | (with_reducible rfl) | ((repeat (first | simp only [World.size_alloc] | simp only [World.size_drew])); done))) | (with_reducible refine ((Below.lit _ _).cell ?_).trans ?_) | (with_reducible refine (hb7.cell ?_).trans ?_) | (with_reducible refine cell_keep hG6 ?_ (fun e => ?_)) | (with_reducible refine (hb5.cell ?_).trans ?_) | (go_size; done) | (have := ho5.lt e.symm; (repeat (first | simp only [World.size_alloc] at this | simp only [World.size_drew] at this)); (repeat (first | simp only [World.size_alloc] | simp only [World.size_drew])); omega))) ⟨by omega, by omega⟩ (by omega) (by go_size) ?_; intro g6 c6 w6 hX6 hG6 hat6 hlt6; (have hb46 : Below w4.heap.size w4 w6 := (show Below w4.heap.size w4 _ by go_grown).grown hG6 (by go_size) (fun k e => by have := (ho5.lt e).1; (repeat (first | simp only [World.size_alloc] at this | simp only [World.size_drew] at this)); omega)); (have hs46 := hb46.size); (have hz6 := hG6.size); (repeat (first | simp only [World.size_alloc] at hz6 | simp only [World.size_drew] at hz6)))
                | (go_simp; go_at_call 29; (with_reducible refine (Clone_b (p := some q5) (w0 := w6) (by go_grown) (hU42.below hb46) (fun h => by cases h) (by omega)).mono ?_); rintro e w7 ⟨⟨v7, rfl, ho7⟩, hb7, hb67⟩; (have hb47 : Below w4.heap.size w4 w7 := hb46.trans (hb67.mono hb46.size)); (have hs47 := hb47.size); (have hz7 := hb7.size); (repeat (first | simp only [World.size_alloc] at hz7 | simp only [World.size_drew] at hz7)))
                | (refine app_step (y := 1) rfl (.tmp 98) (.tmp 99) rfl (ho7.below (by go_grown)) rfl rfl (by repeat' (first | (with_reducible refine new_at _ ?_; (first | (with_reducible rfl) | ((repeat (first | simp only [World.size_alloc] | simp only [World.size_drew])); done))) | (with_reducible refine ((Below.lit _ _).cell ?_).trans ?_) | (with_reducible refine (hb7.cell ?_).trans ?_) | (with_reducible refine cell_keep hG6 ?_ (fun e => ?_)) | (with_reducible refine (hb5.cell ?_).trans ?_) | (go_size; done) | (have := ho5.lt e.symm; (repeat (first | simp only [World.size_alloc] at this | simp only [World.size_drew] at this)); (repeat (first | simp only [World.size_alloc] | simp only [World.size_drew])); omega))) ⟨by omega, by omega⟩ (by omega) (by go_size) ?_; intro g8 c8 w8 hX8 hG8 hat8 hlt8; (have hb48 : Below w4.heap.size w4 w8 := (show Below w4.heap.size w4 _ by go_grown).grown hG8 (by go_size) (fun k e => by have := (ho7.lt e).1; (repeat (first | simp only [World.size_alloc] at this | simp only [World.size_drew] at this)); omega)))
                | fail)
              all_goals
                have hX68 := ((hX6.below hb67).below (by go_grown)).far hG8 (.inr (by simp only [Value.ownBlock]; exact fun e => by have := (ho7.lt e.symm).1; (repeat (first | simp only [World.size_alloc] at this | simp only [World.size_drew] at this)); omega))
                obtain ⟨p6, d6, hv6, _, hu6⟩ := hX68.u
                obtain ⟨p8, d8, hv8, _, hu8⟩ := hX8.u
                injection hv6 with e6 _ _
                injection hv8 with e8 _ _
                subst e6
                subst e8
                have hr6 := mon_rp hu6
                have hr8 := mon_rp hu8
                clear hX68 hX6 hX8 ho5 ho7 hu6 hu8 hG6 hG8 hat6 hat8
                go_wp2_with fail
                go_meet
                exact ⟨_, _, _, _, rfl, rfl, hr6, hr8, hb48⟩
            case rest =>
              obtain ⟨p6, c6, p8, c8, rfl, rfl, hp6, hp8, hb48⟩ := hcut
              go_wp2_with fail
              refine (Gcd_p c6 c8 hp6 hp8 (by omega) (by omega)).mono ?_
              rintro e w9 ⟨⟨p9, n9, c9, G, rfl, hsG, ⟨hn9, hc9⟩, hG⟩, hb9⟩
              have hp69 := hp6.below hb9
              have hp89 := hp8.below hb9
              have hrG := hsG.rp
              clear hp6 hp8 hsG hU41 hU42 hU4
              go_wp2_with fail
              refine (DivMod_p c6 c9 hp69 hrG (by omega) (by omega)).mono ?_
              rintro e w10 ⟨⟨pp, np, cp, pr, nr, cr, P, R, rfl, hsP, hsR, hnp, hnr, hdP⟩, hb10⟩
              have hp810 := hp89.below hb10
              have hrG10 := hrG.below hb10
              clear hp69 hp89 hrG hsR
              go_wp2_with fail
              refine (DivMod_p c8 c9 hp810 hrG10 (by omega) (by omega)).mono ?_
              rintro e w11 ⟨⟨pq, nq, cq, pr2, nr2, cr2, Q', R2, rfl, hsQ, hsR2, hnq, hnr2, hdQ⟩, hb11⟩
              have hsP11 := hsP.below hb11
              have told : Hid (Told k one two (rowF A) (rowF B) l G P Q') := Lib.hid (Told.of hsol'.out hG.out hdP.out hdQ.out)
              have hsm := told.out.small hdeg.out (by omega) (fun i h => hB0.out i h) hfew.out
              have hpos : 0 < P.len ∧ 0 < Q'.len := ⟨Pol.len_pos told.out.p, Pol.len_pos told.out.q⟩
              have elP := hsP11.len
              have elQ := hsQ.len
              rw [elP, elQ] at hsm hpos
              have hno : Hid (∀ rx ry, RootsOk P rx → RootsOk Q' ry → ¬ ((rx.length + 1 = np ∧ ∀ x, x ∈ rx → 1 ≤ V x ∧ V x ≤ 1152921504606846976) ∧ (ry.length + 1 = nq ∧ ∀ x, x ∈ ry → 1 ≤ V x ∧ V x ≤ 1152921504606846976) ∧ ∀ i, i < n → rowF A i * valF ry (ptF i) = rowF B i * valF rx (ptF i)) → DiffIs n d (rowF A) (rowF B) false [] []) :=
                Lib.hid fun rx ry hx hy h => told.out.no hdeg.out (by omega) (fun i h => hB0.out i h) hx hy (by rw [elP, elQ]; exact h)
              have hyes : Hid (∀ rx ry, RootsOk P rx → RootsOk Q' ry → (rx.length + 1 = np ∧ ∀ x, x ∈ rx → 1 ≤ V x ∧ V x ≤ 1152921504606846976) → (ry.length + 1 = nq ∧ ∀ x, x ∈ ry → 1 ≤ V x ∧ V x ≤ 1152921504606846976) → (∀ i, i < n → rowF A i * valF ry (ptF i) = rowF B i * valF rx (ptF i)) → DiffIs n d (rowF A) (rowF B) true rx ry) :=
                Lib.hid fun rx ry hx hy cx cy h => told.out.yes hdeg.out hx hy (by rw [elP]; exact cx) (by rw [elQ]; exact cy) h
              have hb011 := hb04.trans ((hb48.trans ((hb9.trans ((hb10.trans (hb11.mono hb10.size)).mono hb9.size)).mono hb48.size)).mono hb04.size)
              clear told hsP hp810 hrG10 hsR2 hdP hdQ hG hsol' hb9 hb10 hb11 hb48 hb4
              go_wp2_with fail
              refine (elements_any pp np cp P _ hsP11 hsm.1 hpos.1).mono ?_
              rintro e w12 ⟨rx, hrx, hcx, hb12⟩
              replace hrx := Lib.hid hrx
              have hsQ12 := hsQ.below hb12
              have hb012 := hb011.trans (hb12.mono hb011.size)
              clear hsP11 hsQ
              rcases hcx with ⟨hcx, vx, rfl, hox⟩ | ⟨hcx, rfl⟩
              · replace hcx := Lib.hid hcx
                go_wp2_with fail
                refine (elements_any pq nq cq Q' _ hsQ12 hsm.2 hpos.2).mono ?_
                rintro e w13 ⟨ry, hry, hcy, hb13⟩
                replace hry := Lib.hid hry
                have hb013 := hb012.trans (hb13.mono hb012.size)
                have hox13 := hox.below hb13
                clear hsQ12
                rcases hcy with ⟨hcy, vy, rfl, hoy⟩ | ⟨hcy, rfl⟩
                · replace hcy := Lib.hid hcy
                  obtain ⟨px, cx, rfl, _, hux⟩ := hox.u
                  obtain ⟨py, cy, rfl, _, huy⟩ := hoy.u
                  have la0 := (keep1 hb013 ka0.out).1
                  have la1 := (keep1 hb013 ka1).1
                  have lb0 := (keep1 hb013 kb0.out).1
                  have lb1 := (keep1 hb013 kb1).1
                  have hlx : Hid ((rx.map V).map T = rx) := Lib.hid (map_TV rx)
                  have hly : Hid ((ry.map V).map T = ry) := Lib.hid (map_TV ry)
                  have hbs := hb013.size
                  have hl12 : rx.length ≤ 13 ∧ ry.length ≤ 13 := by have := hcx.out.1; have := hcy.out.1; omega
                  clear hb012
                  go_wp2_with fail
                  refine (fit_any px py pa pb rx.length ry.length n cx cy ca cb na nb (rx.map V) (ry.map V) A B _ (hux.below hb13) huy (hA.below hb013) (hB.below hb013) (by omega) (by omega) (by omega)).mono ?_
                  rintro e w14 ⟨hfit, hb14⟩
                  rw [hlx.out, hly.out] at hfit
                  have hb014 := hb013.trans (hb14.mono hbs)
                  rcases hfit with ⟨rfl, hfit⟩ | ⟨rfl, hfit⟩
                  · have hend := Lib.hid (hyes.out rx ry hrx.out hry.out hcx.out hcy.out hfit)
                    have hox14 := hox13.below hb14
                    have hoy14 := hoy.below hb14
                    clear hfit hyes hno
                    go_wp2_with fail
                    go_ret3
                    exact ⟨.inl ⟨rx, ry, ⟨_, _, _, _, rfl, hox14.base (by have := hb0.size; have := hb011.size; omega), hoy14.base (by have := hb0.size; have := hb011.size; have := hb12.size; omega)⟩, hend.out⟩, hb0.trans (hb014.mono hb0.size)⟩
                  · have hend := Lib.hid (hno.out rx ry hrx.out hry.out fun h => hfit h.2.2)
                    clear hfit hyes hno
                    go_wp2_with fail
                    go_ret3
                    exact ⟨.inr ⟨rfl, hend.out⟩, hb0.trans (hb014.mono hb0.size)⟩
                · have hend := Lib.hid (hno.out rx ry hrx.out hry.out fun h => hcy h.2.1)
                  clear hcy hno hyes
                  go_wp2_with fail
                  go_ret3
                  exact ⟨.inr ⟨rfl, hend.out⟩, hb0.trans (hb013.mono hb0.size)⟩
              · go_wp2_with fail
                refine (elements_any pq nq cq Q' _ hsQ12 hsm.2 hpos.2).mono ?_
                rintro e w13 ⟨ry, hry, hcy, hb13⟩
                have hb013 := hb012.trans (hb13.mono hb012.size)
                have hend := Lib.hid (hno.out rx ry hrx.out hry fun h => hcx h.1)
                clear hsQ12 hno hyes hcx
                rcases hcy with ⟨_, vy, rfl, _⟩ | ⟨_, rfl⟩
                all_goals
                  go_wp2_with fail
                  go_ret3
                  exact ⟨.inr ⟨rfl, hend.out⟩, hb0.trans (hb013.mono hb0.size)⟩
          · have hnone := Lib.hid (DiffIs.none hdeg.out hno)
            clear hno
            go_wp2_with fail
            go_ret3
            exact ⟨.inr ⟨rfl, .inr ⟨rfl, hnone.out⟩⟩, hb0.trans ((hbr.trans hb4).mono hb0.size)⟩
end Go.Proofs.Ytelnhpcehmdffaa
