/-
  The document's chain (4): its bytes.
-/
import Derived.Test.YtcnhgkgabddjmaaChY
import Derived.Deep.RegionHeld3
import Derived.Deep.AppendLies
namespace Go.Proofs.Ytcnhgkgabddjmaa
open Go.RowKit Go.Maps

set_option maxRecDepth 100000 in
theorem rsevens_any (n : Nat) (w : World) (h : n < 18446744073709551616) :
    Calls Try.prog 42 #[.int .u64 n] w fun e w' => ∃ v, e = .returned v ∧ OwnB w' w.heap.size v (sevens n).length (sevens n) ∧ Below w.heap.size w w' := by
  obtain ⟨l1, l2⟩ := sevens_len64 h
  obtain ⟨LN, hLN⟩ : ∃ LN, sevens n = LN := ⟨_, rfl⟩
  rw [hLN] at l1 l2 ⊢
  replace hLN := Lib.hid hLN
  go_enter Try.func42, Try.ntmps42
  go_wp2_with fail
  go_loopw [0, 3] (fun c v W => ∃ (m t : Nat) (xs : List Int), m ≤ n ∧ c = .int .u64 m ∧ OwnB W w.heap.size v t xs ∧ Hid (xs ++ sevens m = LN) ∧ t ≤ 10 ∧ Below w.heap.size w W)
    (fun c _ _ => (intOf c).toNat)
  case atStart => exact ⟨n, 0, [], Nat.le_refl _, rfl, OwnB.nil _ _, Lib.hid hLN.out, by omega, Below.refl _ _⟩
  case round =>
    obtain ⟨m, t, xs, hm, rfl, hO, he, ht, hb⟩ := hrel
    have hsz := hb.size
    have hlen := congrArg List.length he.out
    rw [List.length_append, hO.len] at hlen
    by_cases h1 : m < 128
    · have tm : decide ((128 : Int) ≤ (m : Int)) = false := decide_eq_false (by omega)
      have tm2 : decide (128 ≤ m) = false := decide_eq_false (by omega)
      have hw1 : IntKind.u8.wrap (m : Int) = (m : Int) := by rw [IntKind.wrap_u8]; omega
      have hfin : Hid (xs ++ [(m : Int)] = LN) := Lib.hid (by rw [← he.out, sevens_last h1])
      have hl2 : Hid (LN.length = t + 1) := Lib.hid (by rw [← hlen, sevens_last h1]; rfl)
      clear hlen
      go_wp2_with (at_builtin; refine app_b (y := (m : Int)) rfl _ _ rfl hO rfl rfl (by omega) (by omega) hsz ?_; intro v' w1 hO1 hb1 _ _)
      go_ret
      exact ⟨_, rfl, by rw [hl2.out, ← hfin.out]; exact hO1, hb.trans hb1⟩
    · have tm : decide ((128 : Int) ≤ (m : Int)) = true := decide_eq_true (by omega)
      have tm2 : decide (128 ≤ m) = true := decide_eq_true (by omega)
      have hs := sevens_more (n := m) (by omega)
      have h2 := (sevens_len64 (n := m / 128) (by omega)).1
      have ht2 : t + 1 ≤ 10 := by rw [hs] at hlen; simp only [List.length_cons] at hlen; omega
      have hstep : Hid ((xs ++ [((m % 128 + 128 : Nat) : Int)]) ++ sevens (m / 128) = LN) := Lib.hid (by rw [← he.out, hs, List.append_assoc]; rfl)
      have hw1 : IntKind.u8.wrap ((m : Int) % 128 + 128) = (m : Int) % 128 + 128 := by rw [IntKind.wrap_u8]; omega
      clear hlen hs h2
      go_wp2_with (at_builtin; refine app_b (y := ((m % 128 + 128 : Nat) : Int)) rfl _ _ rfl hO rfl rfl (by omega) (by omega) hsz ?_; intro v' w1 hO1 hb1 _ _)
      go_roundw
      case rel => exact ⟨m / 128, t + 1, _, by omega, by go_num, hO1, hstep, ht2, hb.trans hb1⟩
      case measure => simp [intOf]; omega
theorem rsevens_b {w0 w : World} (hb : Below w0.heap.size w0 w) (n : Nat) (h : n < 18446744073709551616) (xs : List Int) (L : Nat) (hx : sevens n = xs) (hL : xs.length = L) :
    Calls Try.prog 42 #[.int .u64 n] w fun e w' => ∃ g c, e = .returned (.slice (some ⟨g, 0, none⟩) L c) ∧ OwnB w' w0.heap.size (.slice (some ⟨g, 0, none⟩) L c) L xs ∧ B8 w' (some ⟨g, 0, none⟩) L xs ∧ Below w0.heap.size w0 w' ∧ Below w.heap.size w w' := by
  refine (rsevens_any n w h).mono ?_
  rintro e w' ⟨v, rfl, hO, hb'⟩
  have l1 := (sevens_len64 h).1
  have hO := hO.base hb.size
  rw [hx, hL] at hO l1
  obtain ⟨p, c, rfl, _, hB, _, _⟩ := hO.u
  obtain ⟨bb, oo, hp, _⟩ := hB.look (i := 0) (by omega)
  rcases hO.row.2 with ⟨hv, hn⟩ | ⟨g, cap, cur, hv, _⟩
  · omega
  · injection hv with h1 h2 h3
    subst h1
    exact ⟨g, c, rfl, hO, hB, hb.trans (hb'.mono hb.size), hb'⟩
set_option maxRecDepth 100000 in
/-- append(out, ys...), as one step of a region that draws its order. -/
theorem app_bs_step {ops : Array Oper} {o : Oper} {a : Act} {K : Act → World → Prop} {Q : Exit → Act → World → Prop} {E : Prop} (hgd : o.guard = none) (s x : Operand)
    (ho : o.op = .call { callee := .builtin .append, args := #[s, x], argTypes := #[37, 37] }) {base : Nat} {v : Value} {n m c B : Nat} {xs ys : List Int} {W : World}
    (hown : OwnB W base v n xs) (hs : a.eval s = v) (hx : a.eval x = .slice (some ⟨B, 0, none⟩) m c) (hY : B8 W (some ⟨B, 0, none⟩) m ys) (hm : 0 < m) (hn : n + m ≤ 8796093022208) (hbase : base ≤ W.heap.size)
    (h : ∀ g cap w', OwnB w' base (.slice (some ⟨g, 0, none⟩) (n + m) cap) (n + m) (xs ++ ys) → Below base W w' → K (a.put o.dst (.slice (some ⟨g, 0, none⟩) (n + m) cap)) w') :
    if Region.wanted o (yielded ops a.tmps) = true then Oper.wp Try.prog o a W K Q else E := by
  obtain ⟨i0, hi, hz0, hz1, hz2⟩ := info_parts byte_info
  refine step_append_lies W hgd s x 37 ho base 5 i0 (.int .u8 0) 1 1 Try.underlying37 hi hz0 hz1 hz2 rfl (by decide) v n _ hs hown.row
    ⟨B, 0, none⟩ m c (ys.map (Value.int .u8)) hx (by rw [List.length_map, hY.len]; omega) ?_ ?_ hm (by unfold maxLen; omega) (by omega) hbase _ rfl ?_
  · intro j u hj
    rw [List.getElem?_map] at hj
    have hjl : j < ys.length := by
      rcases Nat.lt_or_ge j ys.length with h | h
      · exact h
      · rw [List.getElem?_eq_none h] at hj; cases hj
    rw [List.getElem?_eq_getElem hjl] at hj
    obtain ⟨b, off, he, _, hc, _⟩ := hY.look (i := j) (by rw [← hY.len]; exact hjl)
    injection he with he
    injection he with h1 h2
    subst h1; subst h2
    simp only [Option.map_some, Option.some.injEq] at hj
    rw [← hj, ← nth_eq hjl, ← hc]
    unfold Addr.add
    by_cases h0 : j = 0
    · subst h0; rfl
    · rw [if_neg h0]
  · intro u hu
    obtain ⟨y, _, rfl⟩ := List.mem_map.1 hu
    rfl
  · intro g cap w' h1 h2 _ _
    refine h g cap w' ⟨by rw [List.length_append, hown.len, hY.len], by rw [List.map_append]; exact h1, ?_⟩ ((Below.refl _ _).grown h2 hbase (fun k e => (hown.row.lt k e).1))
    intro z hz
    rcases List.mem_append.1 hz with hz | hz
    · exact hown.bd z hz
    · exact hY.bd z hz
theorem keepz {wl W : World} {b o o' : Nat} {v v' : Value} (h : Below wl.heap.size wl W) (h1 : wl.cell? ⟨b, o, none⟩ = some v) (h2 : wl.cell? ⟨b, o', none⟩ = some v') : (W.cell? ⟨b, o, none⟩ = some v ∧ W.cell? ⟨b, o', none⟩ = some v') ∧ Below wl.heap.size wl W :=
  ⟨⟨(World.cell?_of_block (h.block b (cell_lt h1))).trans h1, (World.cell?_of_block (h.block b (cell_lt h1))).trans h2⟩, h⟩
set_option maxRecDepth 100000 in
set_option maxHeartbeats 4000000 in
theorem rPut_any (m : Ch) (pn pk : Option Addr) (cn ck L : Nat) (w : World) (hR : RefAt w m pn pk L) (hok : m.Ok) (hnum : m.num ≤ 1152921504606846976) :
    Calls Try.prog 28 #[.agg #[.int .i64 m.num, .int .u64 m.st, .slice pn L cn, .slice pk L ck]] w fun e w' => ∃ p cp, e = .returned (.slice p (putB m).length cp) ∧ B8 w' p (putB m).length (putB m) ∧ (putB m).length ≤ 2000 ∧ Below w.heap.size w w' := by
  obtain ⟨hL, hN, hK⟩ := hR
  obtain ⟨S, hS⟩ : ∃ S : Nat, m.st = S := ⟨m.st.toNat, by rcases hok.st with h | h <;> omega⟩
  have hS1 : S ≤ 2305843009213693949 := by rcases hok.st with h | h <;> omega
  have hfew := hok.few
  rw [hL] at hfew
  have hlow : ∀ q ∈ m.ks, 0 ≤ q.1 ∧ q.1 ≤ 1152921504606846976 ∧ 0 ≤ q.2 ∧ q.2 ≤ 2305843009213693949 := fun q hq => by
    have h1 := hok.low q hq
    have h2 := hok.val q hq
    omega
  replace hlow := Lib.hid hlow
  rw [hS]
  have hA := C4.new w (.int .i64 m.num) (.int .u64 S) (.slice pn L cn) (.slice pk L ck)
  have hb := Below.lit w (.cells #[.int .i64 m.num, .int .u64 S, .slice pn L cn, .slice pk L ck] 46)
  have hN1 := hN.below hb
  have hK1 := hK.below hb
  obtain ⟨x1, ex1⟩ : ∃ x, sevens (2 * m.num) = x := ⟨_, rfl⟩
  obtain ⟨x2, ex2⟩ : ∃ x, sevens S = x := ⟨_, rfl⟩
  obtain ⟨x3, ex3⟩ : ∃ x, sevens (2 * L) = x := ⟨_, rfl⟩
  have l1 := sevens_len64 (n := 2 * m.num) (by omega)
  have l2 := sevens_len64 (n := S) (by omega)
  have l3 := sevens_len64 (n := 2 * L) (by omega)
  rw [ex1] at l1
  rw [ex2] at l2
  rw [ex3] at l3
  obtain ⟨L1, eL1⟩ : ∃ x, x1.length = x := ⟨_, rfl⟩
  obtain ⟨L2, eL2⟩ : ∃ x, x2.length = x := ⟨_, rfl⟩
  obtain ⟨L3, eL3⟩ : ∃ x, x3.length = x := ⟨_, rfl⟩
  rw [eL1] at l1
  rw [eL2] at l2
  rw [eL3] at l3
  have hput : putB m = ((x1 ++ x2) ++ x3) ++ putKs m.ks := by unfold putB; rw [hS, hL, ← ex1, ← ex2, ← ex3]; rfl
  replace hput := Lib.hid hput
  replace ex1 := Lib.hid ex1
  replace ex2 := Lib.hid ex2
  replace ex3 := Lib.hid ex3
  replace eL1 := Lib.hid eL1
  replace eL2 := Lib.hid eL2
  replace eL3 := Lib.hid eL3
  replace hL := Lib.hid hL
  replace hS := Lib.hid hS
  obtain ⟨a0, a1, a2, a3, _⟩ := hA.cells
  obtain ⟨M, hM⟩ : ∃ M : Nat, Hid (M = m.num) ∧ M ≤ 1152921504606846976 := ⟨m.num, Lib.hid rfl, hnum⟩
  go_enter Try.func28, Try.ntmps28
  go_wp2_with fail
  generalize w.alloc (.cells #[.int .i64 m.num, .int .u64 S, .slice pn L cn, .slice pk L ck] 46) = w1 at *
  have hbd : Below w1.heap.size w1 w1.drew := (Below.refl _ _).drew
  have hwr1 : IntKind.u64.wrap ((m.num : Int)) = (m.num : Int) := IntWalk.u64_in _ (by omega)
  have hwr2 : IntKind.u64.wrap (2 * (m.num : Int)) = ((2 * m.num : Nat) : Int) := by rw [IntKind.wrap_u64]; omega
  have hbs : w1.heap.size ≤ w1.heap.size := Nat.le_refl _
  go_region_held3 (fun W => (W.cell? ⟨w.heap.size, 0, none⟩ = some (.int .i64 m.num) ∧ W.cell? ⟨w.heap.size, 1, none⟩ = some (.int .u64 (S : Int))) ∧ Below w1.heap.size w1 W) (exact keepz (by assumption) a0 a1) (first
    | (go_simp; go_at_call 42; (with_reducible refine (rsevens_b (w0 := w1) (by assumption) S (by omega) x2 L2 ex2.out eL2.out).mono ?_); rintro e w12 ⟨g2, c2, rfl, hO2, hB2, hb2, hbx2⟩; have hO12 := hO1.below hbx2)
    | (go_simp; go_at_call 42; (try rw [hwr1]); (try rw [hwr2]); (refine (rsevens_b (w0 := w1) (by assumption) (2 * m.num) (by omega) x1 L1 ex1.out eL1.out).mono ?_); rintro e w11 ⟨g1, c1, rfl, hO1, hB1, hb1, hbx1⟩)
    | (refine app_bs_step rfl (.tmp 9) (.tmp 12) rfl hO12 rfl rfl hB2 (by omega) (by omega) hb2.size ?_; intro g3 c3 w13 hO3 hb3; have hb13 := hb2.trans hb3)
    | fail)
  obtain ⟨a2', a3'⟩ : w13.cell? ⟨w.heap.size, 2, none⟩ = some (.slice pn L cn) ∧ w13.cell? ⟨w.heap.size, 3, none⟩ = some (.slice pk L ck) := ⟨(keepz hb13 a2 a3).1.1, (keepz hb13 a2 a3).1.2⟩
  have hwr3 : IntKind.u64.wrap ((L : Int)) = (L : Int) := IntWalk.u64_in _ (by omega)
  go_wp2_with (first
    | (go_at_call 42; refine (rsevens_b (w0 := w1) hb13 (2 * L) (by omega) x3 L3 ex3.out eL3.out).mono ?_; rintro e w14 ⟨g4, c4, rfl, hO4, hB4, hb14, hbx4⟩; have hO14 := hO3.below hbx4)
    | (at_builtin; refine app_bs rfl _ _ rfl hO14 rfl rfl hB4 (fun h => by cases h) (by omega) hb14.size ?_; intro v5 w15 hO5 hb5))
  have hb150 := hb14.trans hb5
  clear hO1 hB1 hb1 hbx1 hO2 hB2 hb2 hbx2 hO12 hO3 hb3 hb13 hO4 hB4 hb14 hbx4 hO14 hb5 a2' a3'
  obtain ⟨base, hbase⟩ : ∃ base, Hid (base = w1.heap.size) := ⟨_, Lib.hid rfl⟩
  go_loopw [3, 4] (fun v i W => ∃ (j t : Nat) (xs : List Int), j ≤ L ∧ i = .int .i64 j ∧ OwnB W w1.heap.size v t xs ∧ Hid (xs = ((x1 ++ x2) ++ x3) ++ putKs (m.ks.take j)) ∧ t ≤ 30 + 20 * j ∧ Below w1.heap.size w1 W)
    (fun _ i _ => L - (intOf i).toNat)
  case atStart => exact ⟨0, _, _, by omega, rfl, hO5, Lib.hid (by show _ = _ ++ []; rw [List.append_nil]), by omega, hb150⟩
  case round =>
    clear hO5 hb150
    obtain ⟨j, t, xs, hj, rfl, hO, hx, ht, hbr⟩ := hrel
    have a2' := (keepz hbr a2 a3).1.1
    have a3' := (keepz hbr a2 a3).1.2
    by_cases hlt : j < L
    · have hjl : j < m.ks.length := by rw [hL.out]; exact hlt
      obtain ⟨bn, on, rfl, hbn, hcn0, hn0, hn1⟩ := hN1.look hlt
      obtain ⟨bk, ok, rfl, hbk, hck0, hv0, hv1⟩ := hK1.look hlt
      have hpr := hlow.out m.ks[j] (List.getElem_mem hjl)
      have htk := List.take_succ_eq_append_getElem hjl
      rw [nth_numsK hjl] at hcn0 hn0 hn1
      rw [nth_valsK hjl] at hck0 hv0 hv1
      generalize m.ks[j] = pr at *
      obtain ⟨p1, p2⟩ := pr
      dsimp only at hcn0 hn0 hn1 hck0 hv0 hv1 hpr
      obtain ⟨P1, rfl⟩ : ∃ P1 : Nat, p1 = P1 := ⟨p1.toNat, by omega⟩
      obtain ⟨P2, rfl⟩ : ∃ P2 : Nat, p2 = P2 := ⟨p2.toNat, by omega⟩
      have hcn := (World.cell?_of_block (hbr.block bn hbn)).trans hcn0
      obtain ⟨y1, ey1⟩ : ∃ y, sevens (2 * P1) = y := ⟨_, rfl⟩
      obtain ⟨y2, ey2⟩ : ∃ y, sevens P2 = y := ⟨_, rfl⟩
      have m1 := sevens_len64 (n := 2 * P1) (by omega)
      have m2 := sevens_len64 (n := P2) (by omega)
      rw [ey1] at m1
      rw [ey2] at m2
      obtain ⟨M1, eM1⟩ : ∃ y, y1.length = y := ⟨_, rfl⟩
      obtain ⟨M2, eM2⟩ : ∃ y, y2.length = y := ⟨_, rfl⟩
      rw [eM1] at m1
      rw [eM2] at m2
      have hxs : Hid ((xs ++ y1) ++ y2 = ((x1 ++ x2) ++ x3) ++ putKs (m.ks.take (j + 1))) := Lib.hid (by
        rw [htk, putKs_append, hx.out]
        show _ = _ ++ (_ ++ ((sevens (2 * ((P1 : Nat) : Int).toNat) ++ sevens ((P2 : Nat) : Int).toNat) ++ []))
        rw [Int.toNat_natCast, Int.toNat_natCast, ey1, ey2]
        simp only [List.append_assoc, List.append_nil])
      have hw1 : IntKind.u64.wrap (P1 : Int) = (P1 : Int) := IntWalk.u64_in _ (by omega)
      replace ey1 := Lib.hid ey1
      replace ey2 := Lib.hid ey2
      replace eM1 := Lib.hid eM1
      replace eM2 := Lib.hid eM2
      replace htk := Lib.hid htk
      replace hx := Lib.hid hx
      clear hn0 hn1 hv0 hv1
      go_wp2_with (first
        | (go_at_call 42; (with_reducible refine (rsevens_b (w0 := w1) (by assumption) P2 (by omega) y2 M2 ey2.out eM2.out).mono ?_); rintro e w6 ⟨g6, c6, rfl, hO6, hB6, hb6, hbx6⟩; have hO16 := hO15.below hbx6)
        | (go_at_call 42; (refine (rsevens_b (w0 := w1) hbr (2 * P1) (by omega) y1 M1 ey1.out eM1.out).mono ?_); rintro e w4 ⟨g4, c4, rfl, hO4, hB4, hb4, hbx4⟩; have hO14 := hO.below hbx4)
        | (at_builtin; refine app_bs rfl _ _ rfl hO16 rfl rfl hB6 (fun h => by cases h) (by omega) hb6.size ?_; intro v7 w7 hO7 hb7; have hb17 := hb6.trans hb7)
        | (at_builtin; refine app_bs rfl _ _ rfl hO14 rfl rfl hB4 (fun h => by cases h) (by omega) hb4.size ?_; intro v5 w5 hO15 hb5; have hb15 := hb4.trans hb5; have a2'' := (keepz hb15 a2 a3).1.1; have a3'' := (keepz hb15 a2 a3).1.2; have hck := (World.cell?_of_block (hb15.block bk hbk)).trans hck0))
      go_roundw
      case rel => exact ⟨j + 1, _, _, by omega, by go_num, hO7, hxs, by omega, hb17⟩
      case measure => simp [intOf]; omega
    · obtain rfl : j = L := by omega
      have hfin : xs = putB m := by rw [hx.out, hput.out, List.take_of_length_le (by rw [hL.out]; exact Nat.le_refl _)]
      subst hfin
      have htl : t = (putB m).length := hO.len.symm
      subst htl
      obtain ⟨p, cp, rfl, _, hB, _, _⟩ := hO.u
      have hfb : Below w.heap.size w wr := hb.trans (hbr.mono hb.size)
      clear hO
      go_wp2_with fail
      go_ret
      exact ⟨p, cp, rfl, hB, by omega, hfb⟩
end Go.Proofs.Ytcnhgkgabddjmaa
