/-
  The walk of the statement that as many keys are kept as may be, and not one more.
-/
import Derived.Test.YtcnhgkgabddjmaaChK
import Derived.Test.YtcnhgkgabddjmaaChLawA
namespace Go.Proofs.Ytcnhgkgabddjmaa
open Go.RowKit Go.Maps

theorem ask_far {m : Ch} (hok : m.Ok) (hst : m.st ≠ 0) (s : Nat) (h : 50 < m.ks.length + s) : m.ask ((m.num : Int) + s) = (m, 0, 3) :=
  Ch.ask_full hst (valK_none fun p hp e => by have := hok.low p hp; omega) (by omega) (by omega)
theorem ask_on {m : Ch} (hok : m.Ok) (hst : m.st ≠ 0) (s : Nat) (h : m.ks.length + s ≤ 50) :
    ∃ m' k, m.ask ((m.num : Int) + s) = (m', k, 0) ∧ m'.Ok ∧ m'.st ≠ 0 ∧ m'.ks.length = m.ks.length + s ∧ m'.num = m.num + s + 1 := by
  have e : ((m.num : Int) + s - m.num).toNat = s := by omega
  refine ⟨(m.fill s).step, (m.fill s).key, ?_, (hok.fill h).step, ?_, Ch.fill_len m s, ?_⟩
  · rw [Ch.ask_ok hst (valK_none fun p hp e => by have := hok.low p hp; omega) (by omega) (by omega), e]
  · have := secI_bd nextL [(m.fill s).st]; show secI nextL [(m.fill s).st] ≠ 0; omega
  · show (m.fill s).num + 1 = _; rw [Ch.fill_num]
theorem B8.two {w w' : World} {c b : Nat} {p : Option Addr} {n : Nat} {xs : List Int} (h : B8 w p n xs) (hT : Two w w' c b) (hf : ∀ a, p = some a → a.block ≠ c ∧ a.block ≠ b) : B8 w' p n xs := ⟨h.len, h.rd.two hT hf, h.bd⟩
theorem keep1c {wl W : World} {b o : Nat} {v : Value} (h : Below wl.heap.size wl W) (h1 : wl.cell? ⟨b, o, none⟩ = some v) : W.cell? ⟨b, o, none⟩ = some v ∧ Below wl.heap.size wl W :=
  ⟨(World.cell?_of_block (h.block b (cell_lt h1))).trans h1, h⟩
theorem Kept_b {w0 w : World} (c b : Nat) (m : Ch) (hb : Below w0.heap.size w0 w) (hC : ChAt w0 c b m) (hok : m.Ok) (hn : m.num ≤ 1152921504606846976) (L : Nat) (hL : m.ks.length = L) :
    Calls Try.prog 21 #[.pointer (some ⟨c, 0, none⟩)] w fun e w' => ∃ (p : Option Addr) (cp : Nat), e = .returned (.slice p L cp) ∧ Below w0.heap.size w0 w' := by
  refine (Kept_any c b m w (hC.below hb) hok hn).mono ?_
  rintro e w' ⟨p, cp, rfl, _, _, hb'⟩
  exact ⟨p, cp, by rw [hL], hb.trans (hb'.mono hb.size)⟩
set_option maxRecDepth 100000 in
set_option maxHeartbeats 4000000 in
theorem full_walk (ep dev far ahead : Int) (w : World) (ep0 : 0 ≤ ep) (ep1 : ep < 18446744073709551616) (dev0 : -9223372036854775808 ≤ dev) (dev1 : dev ≤ 9223372036854775807) (far0 : -9223372036854775808 ≤ far) (far1 : far ≤ 9223372036854775807) (ahead0 : -9223372036854775808 ≤ ahead) (ahead1 : ahead ≤ 9223372036854775807) :
    Calls Try.prog 5 #[.int .u64 ep, .int .i64 dev, .int .i64 far, .int .i64 ahead] w fun e w' => e = .returned (.bool true) ∧ Below w.heap.size w w' := by
  obtain ⟨d, ed, hd⟩ := around_21 dev
  obtain ⟨K, eK, hK⟩ : ∃ K : Nat, Hid (around ahead 10 = (K : Int)) ∧ K ≤ 9 := by
    obtain ⟨h0, h1⟩ := around_bd ahead 10 (by omega)
    exact ⟨(around ahead 10).toNat, Lib.hid (by omega), by omega⟩
  obtain ⟨F, eF, hF⟩ : ∃ F : Nat, Hid (around far 11 = (F : Int)) ∧ F ≤ 10 := by
    obtain ⟨h0, h1⟩ := around_bd far 11 (by omega)
    exact ⟨(around far 11).toNat, Lib.hid (by omega), by omega⟩
  obtain ⟨m0, hm0⟩ : ∃ m0, Hid (Ch.new ep d = m0) := ⟨_, Lib.hid rfl⟩
  have hok0 : m0.Ok := by rw [← hm0.out]; exact Ch.Ok.new _ _
  have hst0 : m0.st ≠ 0 := by rw [← hm0.out]; have := secI_bd chainL [ep, (d : Int)]; show secI chainL [ep, (d : Int)] ≠ 0; omega
  have hn0 : m0.num = 0 := by rw [← hm0.out]; rfl
  have hk0 : m0.ks.length = 0 := by rw [← hm0.out]; rfl
  obtain ⟨m, hcase, hok, hst, hlen, hnum⟩ : ∃ m : Ch, (K = 0 ∧ m = m0 ∨ 0 < K ∧ ∃ key, m0.ask (K : Int) = (m, key, 0)) ∧ m.Ok ∧ m.st ≠ 0 ∧ m.ks.length = K ∧ m.num ≤ 10 := by
    by_cases h : K = 0
    · exact ⟨m0, .inl ⟨h, rfl⟩, hok0, hst0, by omega, by omega⟩
    · obtain ⟨m', k, h1, h2, h3, h4, h5⟩ := ask_on hok0 hst0 K (by omega)
      rw [hn0] at h1
      have : ((0 : Nat) : Int) + (K : Int) = K := by omega
      rw [this] at h1
      exact ⟨m', .inr ⟨by omega, k, h1⟩, h2, h3, by omega, by omega⟩
  replace hok := Lib.hid hok
  replace hok0 := Lib.hid hok0
  replace hst := Lib.hid hst
  clear hst0 hk0
  have hn0' : m0.num ≤ 1 := by omega
  clear hn0
  go_enter Try.func5, Try.ntmps5
  go_wp2_with fail
  refine (Around_any dev 21 _ dev0 dev1 (by omega) (by omega)).mono ?_
  rintro e w1 ⟨rfl, rfl⟩
  rw [ed.out]
  go_wp2_with fail
  refine (New_as ep d _ ep0 ep1 hd _ hm0.out).mono ?_
  rintro e w1 ⟨c, b, rfl, hC, hc, hbb, hb⟩
  go_wp2_with fail
  refine (Around_any ahead 10 _ ahead0 ahead1 (by omega) (by omega)).mono ?_
  rintro e w2 ⟨rfl, rfl⟩
  rw [eK.out]
  obtain ⟨B, hB, hB1, hB2⟩ : ∃ B : Nat, min (max (51 : Int) far) 1099511627776 = B ∧ 51 ≤ B ∧ B ≤ 1099511627776 := ⟨(min (max (51 : Int) far) 1099511627776).toNat, by omega, by omega, by omega⟩
  rcases hcase with ⟨h0, h9⟩ | ⟨h0, key, hask⟩
  rotate_left
  · replace hask := Lib.hid hask
    go_wp2_with fail
    refine (Key_as c b _ K _ hC (by omega) hok0.out (by omega) (by omega) _ _ _ hask.out).mono ?_
    rintro e w2 ⟨rfl, hC2, hT2⟩
    have hb2 := Two.below0 hb hT2 hc hbb
    clear hC hb hT2 hask
    have hC := hC2
    have hb := hb2
    clear hC2 hb2
    go_wp2_with fail
    refine (At_any c b _ _ hC).mono ?_
    rintro e w3 ⟨rfl, rfl⟩
    go_wp2_with fail
    refine (Kept_any c b _ _ hC hok.out (by omega)).mono ?_
    rintro e w3 ⟨p3, c3, rfl, h3, hf3, hb3⟩
    have hC3 := hC.below hb3
    have hb30 := hb.trans (hb3.mono hb.size)
    clear hC hb hb3 h3
    rw [hlen]
    go_wp2_with fail
    refine (Around_any far 11 _ far0 far1 (by omega) (by omega)).mono ?_
    rintro e w4 ⟨rfl, rfl⟩
    rw [eF.out]
    go_wp2_with fail
    have hU := UI_lit w3 3 [45 + (F : Int), (B : Int)] #[.int .i64 (45 + (F : Int)), .int .i64 (B : Int)] 2 rfl rfl (by
      intro u hu
      simp only [List.mem_cons, List.not_mem_nil, or_false] at hu
      rcases hu with rfl | rfl <;> omega)
    have hbL := Below.lit w3 (.cells #[.int .i64 (45 + (F : Int)), .int .i64 (B : Int)] 3)
    have hCL := hC3.below hbL
    have hbL0 := hb30.trans (hbL.mono hb30.size)
    have hfx : ∀ a, some (⟨w3.heap.size, 0, none⟩ : Addr) = some a → a.block ≠ c ∧ a.block ≠ b := fun a ha => by
      injection ha with ha
      rw [← ha]
      have := hC3.lt
      have := hC3.map.lt
      show w3.heap.size ≠ c ∧ w3.heap.size ≠ b
      omega
    clear hbL hC3 hb30
    generalize w3.heap.size = z3 at *
    generalize w3.alloc (.cells #[.int .i64 (45 + (F : Int)), .int .i64 (B : Int)] 3) = w4 at *
    go_loopw [16] (fun i W => ∃ (j : Nat) (m' : Ch), j ≤ 2 ∧ i = .int .i64 (1 - (j : Int)) ∧ ChAt W c b m' ∧ (j < 2 → m' = m) ∧ UI W (some ⟨z3, 0, none⟩) 2 [45 + (F : Int), (B : Int)] ∧ Below w.heap.size w W)
      (fun i _ => (intOf i + 1).toNat)
    case atStart => exact ⟨0, m, by omega, rfl, hCL, fun _ => rfl, hU, hbL0⟩
    case round =>
      clear hCL hU hbL0
      obtain ⟨j, m', hj, hi, hC, hmm, hU, hb⟩ := hrel
      by_cases hlt : j < 2
      · obtain rfl := hmm hlt
        clear hmm
        obtain ⟨q, s, hq, hqs, hq1, hs0, hs1, hsf⟩ : ∃ q s : Nat, (1 - (j : Int)) = q ∧ nth [45 + (F : Int), (B : Int)] q = s ∧ q ≤ 1 ∧ 45 ≤ s ∧ s ≤ 1099511627776 ∧ (j = 0 → 50 < K + s) := by
          rcases (by omega : j = 0 ∨ j = 1) with rfl | rfl
          · exact ⟨1, B, rfl, rfl, by omega, by omega, by omega, fun _ => by omega⟩
          · exact ⟨0, 45 + F, rfl, by show 45 + (F : Int) = _; omega, by omega, by omega, by omega, fun h => by omega⟩
        rw [hq] at hi
        subst hi
        have hcell := hU.cell (i := q) (by omega)
        rw [hqs, Nat.zero_add] at hcell
        have hix0 : (0 : Int) ≤ (q : Int) := by omega
        have hix1 : (q : Int) < 2 := by omega
        replace hqs := Lib.hid hqs
        go_wp2_with fail
        refine (Put_any c b _ _ hC hok.out (by omega)).mono ?_
        rintro e w4 ⟨p4, c4, rfl, hc4, h4, hf4, hp4, hb4, hl4⟩
        have hlo := And.intro hC.lt hC.map.lt
        have hf40 : ∀ a, p4 = some a → a.block ≠ c ∧ a.block ≠ b := fun a ha => by have := hf4 a ha; omega
        clear hlo
        have hC4 := hC.below hb4
        have hb40 := hb.trans (hb4.mono hb.size)
        have hU4 := hU.below hb4
        clear hC hb4 hb hU hcell
        have hcell := hU4.cell (i := q) (by omega)
        rw [hqs.out, Nat.zero_add] at hcell
        by_cases hfar : 50 < K + s
        · have hask := Lib.hid (ask_far hok.out hst.out s (by omega))
          go_wp2_with fail
          refine (Key_as c b _ _ _ hC4 (by omega) hok.out (by omega) (by omega) _ _ _ hask.out).mono ?_
          rintro e w5 ⟨rfl, hC5, hT5⟩
          have hb50 := Two.below0 hb40 hT5 hc hbb
          have h45 := h4.two hT5 hf40
          have hU5 := hU4.two hT5 hfx
          clear hC4 hb40 hU4 hcell h4
          have hcell := hU5.cell (i := q) (by omega)
          rw [hqs.out, Nat.zero_add] at hcell
          have tgt : decide ((50 : Int) < (K : Int) + (s : Int)) = true := by rw [decide_eq_true_eq]; omega
          go_wp2_with fail
          refine (Put_any c b _ _ hC5 hok.out (by omega)).mono ?_
          rintro e w6 ⟨p6, c6, rfl, hc6, h6, hf6, hp6, hb6, hl6⟩
          have hC6 := hC5.below hb6
          have hb60 := hb50.trans (hb6.mono hb50.size)
          have hU6 := hU5.below hb6
          have h46 := h45.below hb6
          clear hC5 hb50 hU5 hcell h45 hb6
          generalize putB m' = PB at *
          go_wp2_with fail
          refine (SameBytes_yes _ _ _ _ _ _ _ h6 h46 (by omega)).mono ?_
          rintro e w7 ⟨rfl, hb7⟩
          have hC7 := hC6.below hb7
          have hb70 := hb60.trans (hb7.mono hb60.size)
          have hU7 := hU6.below hb7
          clear hC6 hb60 hU6 h46 h6 hb7
          go_wp2_with fail
          go_roundw
          case rel => exact ⟨j + 1, m', by omega, by go_num, hC7, fun _ => rfl, hU7, hb70⟩
          case measure => show ((q : Int) - 1 + 1).toNat < ((q : Int) + 1).toNat; omega
        · obtain ⟨m2, ky, hask, hok2, hst2, hl2, hn2⟩ := ask_on hok.out hst.out s (by omega)
          replace hask := Lib.hid hask
          replace hok2 := Lib.hid hok2
          replace hst2 := Lib.hid hst2
          have hn20 : m2.num ≤ 100 := by omega
          have hl20 : m2.ks.length = K + s := by omega
          clear hl2 hn2
          have hj0 : j ≠ 0 := fun h => hfar (hsf h)
          obtain rfl : j = 1 := by omega
          have tgt : decide ((50 : Int) < (K : Int) + (s : Int)) = false := by rw [decide_eq_false_iff_not]; omega
          clear h4 hf4 hf40
          go_wp2_with fail
          refine (Key_as c b _ _ _ hC4 (by omega) hok.out (by omega) (by omega) _ _ _ hask.out).mono ?_
          rintro e w5 ⟨rfl, hC5, hT5⟩
          have hb50 := Two.below0 hb40 hT5 hc hbb
          have hU5 := hU4.two hT5 hfx
          clear hC4 hb40 hU4 hcell
          have hcell := hU5.cell (i := q) (by omega)
          rw [hqs.out, Nat.zero_add] at hcell
          go_wp2_with fail
          have tne : ((K : Int) + (s : Int) != (K : Int) + (s : Int)) = false := bne_self_eq_false _
          have hwr : IntKind.i64.wrap ((K : Int) + (s : Int)) = (K : Int) + (s : Int) := IntWalk.i64_in _ (by omega)
          have tnw : ((K : Int) + (s : Int) != IntKind.i64.wrap ((K : Int) + (s : Int))) = false := by rw [hwr]; exact tne
          have hbd : Below w5.heap.size w5 w5.drew := (Below.refl _ _).drew
          go_region_held3 (fun W => W.cell? ⟨z3, q, none⟩ = some (.int .i64 (s : Int)) ∧ Below w5.heap.size w5 W) (exact keep1c (by assumption) hcell) (first
            | (go_simp; go_at_call 21; (with_reducible refine (Kept_b c b _ (by assumption) hC5 hok2.out (by omega) (K + s) hl20).mono ?_); rintro e w9 ⟨p9, c9, rfl, hb9⟩)
            | fail)
          all_goals
            have hC9 := hC5.below (by assumption)
            have hU9 := hU5.below (by assumption)
            have hb9' := hb50.trans (Below.mono (by assumption) hb50.size)
            go_wp2_with fail
            go_roundw
            case rel => exact ⟨2, m2, by omega, by go_num, hC9, fun h => absurd h (by omega), hU9, hb9'⟩
            case measure => show ((q : Int) - 1 + 1).toNat < ((q : Int) + 1).toNat; omega
      · obtain rfl : j = 2 := by omega
        subst hi
        clear hC hU hmm
        go_wp2_with fail
        refine (lives_any _).mono ?_
        rintro e w7 ⟨rfl, hb7⟩
        go_wp2_with fail
        go_ret
        exact ⟨rfl, hb.trans (hb7.mono hb.size)⟩
  · subst h9
    have hd1 : decide ((0 : Int) < (K : Int)) = false := by rw [decide_eq_false_iff_not]; omega
    have hd2 : decide (0 < K) = false := by rw [decide_eq_false_iff_not]; omega
    replace h0 := Lib.hid h0
    go_wp2_with fail
    refine (At_any c b _ _ hC).mono ?_
    rintro e w3 ⟨rfl, rfl⟩
    go_wp2_with fail
    refine (Kept_any c b _ _ hC hok.out (by omega)).mono ?_
    rintro e w3 ⟨p3, c3, rfl, h3, hf3, hb3⟩
    have hC3 := hC.below hb3
    have hb30 := hb.trans (hb3.mono hb.size)
    clear hC hb hb3 h3
    rw [hlen]
    go_wp2_with fail
    refine (Around_any far 11 _ far0 far1 (by omega) (by omega)).mono ?_
    rintro e w4 ⟨rfl, rfl⟩
    rw [eF.out]
    go_wp2_with fail
    have hU := UI_lit w3 3 [45 + (F : Int), (B : Int)] #[.int .i64 (45 + (F : Int)), .int .i64 (B : Int)] 2 rfl rfl (by
      intro u hu
      simp only [List.mem_cons, List.not_mem_nil, or_false] at hu
      rcases hu with rfl | rfl <;> omega)
    have hbL := Below.lit w3 (.cells #[.int .i64 (45 + (F : Int)), .int .i64 (B : Int)] 3)
    have hCL := hC3.below hbL
    have hbL0 := hb30.trans (hbL.mono hb30.size)
    have hfx : ∀ a, some (⟨w3.heap.size, 0, none⟩ : Addr) = some a → a.block ≠ c ∧ a.block ≠ b := fun a ha => by
      injection ha with ha
      rw [← ha]
      have := hC3.lt
      have := hC3.map.lt
      show w3.heap.size ≠ c ∧ w3.heap.size ≠ b
      omega
    clear hbL hC3 hb30
    generalize w3.heap.size = z3 at *
    generalize w3.alloc (.cells #[.int .i64 (45 + (F : Int)), .int .i64 (B : Int)] 3) = w4 at *
    go_loopw [16] (fun i W => ∃ (j : Nat) (m' : Ch), j ≤ 2 ∧ i = .int .i64 (1 - (j : Int)) ∧ ChAt W c b m' ∧ (j < 2 → m' = m) ∧ UI W (some ⟨z3, 0, none⟩) 2 [45 + (F : Int), (B : Int)] ∧ Below w.heap.size w W)
      (fun i _ => (intOf i + 1).toNat)
    case atStart => exact ⟨0, m, by omega, rfl, hCL, fun _ => rfl, hU, hbL0⟩
    case round =>
      clear hCL hU hbL0
      obtain ⟨j, m', hj, hi, hC, hmm, hU, hb⟩ := hrel
      by_cases hlt : j < 2
      · obtain rfl := hmm hlt
        clear hmm
        obtain ⟨q, s, hq, hqs, hq1, hs0, hs1, hsf⟩ : ∃ q s : Nat, (1 - (j : Int)) = q ∧ nth [45 + (F : Int), (B : Int)] q = s ∧ q ≤ 1 ∧ 45 ≤ s ∧ s ≤ 1099511627776 ∧ (j = 0 → 50 < K + s) := by
          rcases (by omega : j = 0 ∨ j = 1) with rfl | rfl
          · exact ⟨1, B, rfl, rfl, by omega, by omega, by omega, fun _ => by omega⟩
          · exact ⟨0, 45 + F, rfl, by show 45 + (F : Int) = _; omega, by omega, by omega, by omega, fun h => by omega⟩
        rw [hq] at hi
        subst hi
        have hcell := hU.cell (i := q) (by omega)
        rw [hqs, Nat.zero_add] at hcell
        have hix0 : (0 : Int) ≤ (q : Int) := by omega
        have hix1 : (q : Int) < 2 := by omega
        replace hqs := Lib.hid hqs
        go_wp2_with fail
        refine (Put_any c b _ _ hC hok.out (by omega)).mono ?_
        rintro e w4 ⟨p4, c4, rfl, hc4, h4, hf4, hp4, hb4, hl4⟩
        have hlo := And.intro hC.lt hC.map.lt
        have hf40 : ∀ a, p4 = some a → a.block ≠ c ∧ a.block ≠ b := fun a ha => by have := hf4 a ha; omega
        clear hlo
        have hC4 := hC.below hb4
        have hb40 := hb.trans (hb4.mono hb.size)
        have hU4 := hU.below hb4
        clear hC hb4 hb hU hcell
        have hcell := hU4.cell (i := q) (by omega)
        rw [hqs.out, Nat.zero_add] at hcell
        by_cases hfar : 50 < K + s
        · have hask := Lib.hid (ask_far hok.out hst.out s (by omega))
          go_wp2_with fail
          refine (Key_as c b _ _ _ hC4 (by omega) hok.out (by omega) (by omega) _ _ _ hask.out).mono ?_
          rintro e w5 ⟨rfl, hC5, hT5⟩
          have hb50 := Two.below0 hb40 hT5 hc hbb
          have h45 := h4.two hT5 hf40
          have hU5 := hU4.two hT5 hfx
          clear hC4 hb40 hU4 hcell h4
          have hcell := hU5.cell (i := q) (by omega)
          rw [hqs.out, Nat.zero_add] at hcell
          have tgt : decide ((50 : Int) < (K : Int) + (s : Int)) = true := by rw [decide_eq_true_eq]; omega
          go_wp2_with fail
          refine (Put_any c b _ _ hC5 hok.out (by omega)).mono ?_
          rintro e w6 ⟨p6, c6, rfl, hc6, h6, hf6, hp6, hb6, hl6⟩
          have hC6 := hC5.below hb6
          have hb60 := hb50.trans (hb6.mono hb50.size)
          have hU6 := hU5.below hb6
          have h46 := h45.below hb6
          clear hC5 hb50 hU5 hcell h45 hb6
          generalize putB m' = PB at *
          go_wp2_with fail
          refine (SameBytes_yes _ _ _ _ _ _ _ h6 h46 (by omega)).mono ?_
          rintro e w7 ⟨rfl, hb7⟩
          have hC7 := hC6.below hb7
          have hb70 := hb60.trans (hb7.mono hb60.size)
          have hU7 := hU6.below hb7
          clear hC6 hb60 hU6 h46 h6 hb7
          go_wp2_with fail
          go_roundw
          case rel => exact ⟨j + 1, m', by omega, by go_num, hC7, fun _ => rfl, hU7, hb70⟩
          case measure => show ((q : Int) - 1 + 1).toNat < ((q : Int) + 1).toNat; omega
        · obtain ⟨m2, ky, hask, hok2, hst2, hl2, hn2⟩ := ask_on hok.out hst.out s (by omega)
          replace hask := Lib.hid hask
          replace hok2 := Lib.hid hok2
          replace hst2 := Lib.hid hst2
          have hn20 : m2.num ≤ 100 := by omega
          have hl20 : m2.ks.length = K + s := by omega
          clear hl2 hn2
          have hj0 : j ≠ 0 := fun h => hfar (hsf h)
          obtain rfl : j = 1 := by omega
          have tgt : decide ((50 : Int) < (K : Int) + (s : Int)) = false := by rw [decide_eq_false_iff_not]; omega
          clear h4 hf4 hf40
          go_wp2_with fail
          refine (Key_as c b _ _ _ hC4 (by omega) hok.out (by omega) (by omega) _ _ _ hask.out).mono ?_
          rintro e w5 ⟨rfl, hC5, hT5⟩
          have hb50 := Two.below0 hb40 hT5 hc hbb
          have hU5 := hU4.two hT5 hfx
          clear hC4 hb40 hU4 hcell
          have hcell := hU5.cell (i := q) (by omega)
          rw [hqs.out, Nat.zero_add] at hcell
          go_wp2_with fail
          have tne : ((K : Int) + (s : Int) != (K : Int) + (s : Int)) = false := bne_self_eq_false _
          have hwr : IntKind.i64.wrap ((K : Int) + (s : Int)) = (K : Int) + (s : Int) := IntWalk.i64_in _ (by omega)
          have tnw : ((K : Int) + (s : Int) != IntKind.i64.wrap ((K : Int) + (s : Int))) = false := by rw [hwr]; exact tne
          have hbd : Below w5.heap.size w5 w5.drew := (Below.refl _ _).drew
          go_region_held3 (fun W => W.cell? ⟨z3, q, none⟩ = some (.int .i64 (s : Int)) ∧ Below w5.heap.size w5 W) (exact keep1c (by assumption) hcell) (first
            | (go_simp; go_at_call 21; (with_reducible refine (Kept_b c b _ (by assumption) hC5 hok2.out (by omega) (K + s) hl20).mono ?_); rintro e w9 ⟨p9, c9, rfl, hb9⟩)
            | fail)
          all_goals
            have hC9 := hC5.below (by assumption)
            have hU9 := hU5.below (by assumption)
            have hb9' := hb50.trans (Below.mono (by assumption) hb50.size)
            go_wp2_with fail
            go_roundw
            case rel => exact ⟨2, m2, by omega, by go_num, hC9, fun h => absurd h (by omega), hU9, hb9'⟩
            case measure => show ((q : Int) - 1 + 1).toNat < ((q : Int) + 1).toNat; omega
      · obtain rfl : j = 2 := by omega
        subst hi
        clear hC hU hmm
        go_wp2_with fail
        refine (lives_any _).mono ?_
        rintro e w7 ⟨rfl, hb7⟩
        go_wp2_with fail
        go_ret
        exact ⟨rfl, hb.trans (hb7.mono hb.size)⟩
end Go.Proofs.Ytcnhgkgabddjmaa
