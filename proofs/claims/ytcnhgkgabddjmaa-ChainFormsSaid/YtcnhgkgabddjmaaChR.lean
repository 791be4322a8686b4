/-
  Bytes that are read, in the program: numbers.
-/
import Derived.Test.YtcnhgkgabddjmaaChQ
import Derived.Deep.QuietTactic
import Derived.BigQuiet
import Derived.WalkSmall
namespace Go.Proofs.Ytcnhgkgabddjmaa
open Go.RowKit Go.Maps

/-- Block i is bytes that are read: at place a, with an error e. -/
structure InAt (w : World) (i : Nat) (p : Option Addr) (n c : Nat) (bs : List Int) (s : Nat × Int) : Prop where
  blk : w.heap[i]? = some (.cells #[.slice p n c, .int .i64 s.1, .int .i64 s.2] 101 (0, 0))
  b8 : B8 w p n bs
  far : ∀ q, p = some q → q.block ≠ i
  le : s.1 ≤ n
theorem InAt.c0 {w : World} {i n c : Nat} {p : Option Addr} {bs : List Int} {s : Nat × Int} (h : InAt w i p n c bs s) : w.cell? ⟨i, 0, none⟩ = some (.slice p n c) := by simp [World.cell?, h.blk]
theorem InAt.c1 {w : World} {i n c : Nat} {p : Option Addr} {bs : List Int} {s : Nat × Int} (h : InAt w i p n c bs s) : w.cell? ⟨i, 1, none⟩ = some (.int .i64 s.1) := by simp [World.cell?, h.blk]
theorem InAt.c2 {w : World} {i n c : Nat} {p : Option Addr} {bs : List Int} {s : Nat × Int} (h : InAt w i p n c bs s) : w.cell? ⟨i, 2, none⟩ = some (.int .i64 s.2) := by simp [World.cell?, h.blk]
theorem InAt.free {w : World} {i n c : Nat} {p : Option Addr} {bs : List Int} {s : Nat × Int} (h : InAt w i p n c bs s) (j : Nat) : w.frozen? ⟨i, j, none⟩ = false := by simp [World.frozen?, h.blk]
theorem InAt.lt {w : World} {i n c : Nat} {p : Option Addr} {bs : List Int} {s : Nat × Int} (h : InAt w i p n c bs s) : i < w.heap.size := (Array.getElem?_eq_some_iff.1 h.blk).1
theorem InAt.below {w w' : World} {i n c : Nat} {p : Option Addr} {bs : List Int} {s : Nat × Int} (h : InAt w i p n c bs s) (hb : Below w.heap.size w w') : InAt w' i p n c bs s :=
  ⟨(hb.block i h.lt).trans h.blk, h.b8.below hb, h.far, h.le⟩
theorem InAt.two {w w' : World} {i n c d b : Nat} {p : Option Addr} {bs : List Int} {s : Nat × Int} (h : InAt w i p n c bs s) (hT : Two w w' d b) (h1 : i ≠ d ∧ i ≠ b) (hf : ∀ a, p = some a → a.block ≠ d ∧ a.block ≠ b) : InAt w' i p n c bs s :=
  ⟨(hT.blk i h.lt h1.1 h1.2).trans h.blk, ⟨h.b8.len, h.b8.rd.two hT hf, h.b8.bd⟩, h.far, h.le⟩
theorem InAt.put {w : World} {i n c j : Nat} {p : Option Addr} {bs : List Int} {s s' : Nat × Int} {u : Value} (h : InAt w i p n c bs s) (e : (#[Value.slice p n c, .int .i64 s.1, .int .i64 s.2].set! j u) = #[.slice p n c, .int .i64 s'.1, .int .i64 s'.2]) (hl : s'.1 ≤ n) : InAt (w.setCell ⟨i, j, none⟩ u) i p n c bs s' := by
  have hT : Two w (w.setCell ⟨i, j, none⟩ u) i i := Two.of_grown (grown_cell w i j u) (.inl rfl)
  refine ⟨?_, ⟨h.b8.len, h.b8.rd.two hT (fun a ha => ⟨h.far a ha, h.far a ha⟩), h.b8.bd⟩, h.far, hl⟩
  show (w.heap.modify i _)[i]? = _
  rw [Array.getElem?_modify, if_pos rfl, h.blk, ← e]; rfl
set_option maxRecDepth 100000 in
theorem wrong_any (i : Nat) (p : Option Addr) (n c : Nat) (bs : List Int) (s : Nat × Int) (er : Int) (a : Nat) (w : World) (hI : InAt w i p n c bs s) (ha : a ≤ n) :
    Calls Try.prog 58 #[.pointer (some ⟨i, 0, none⟩), .int .i64 er, .int .i64 a] w fun e w' => e = .returned (.tuple #[]) ∧ InAt w' i p n c bs (a, er) ∧ Two w w' i i := by
  have x2 := hI.c2
  have f2 := hI.free 2
  have hP := hI.put (s' := (s.1, er)) (j := 2) (u := .int .i64 er) rfl hI.le
  have x1 := hP.c1
  have f1 := hP.free 1
  have hP2 := hP.put (s' := (a, er)) (j := 1) (u := .int .i64 a) rfl ha
  have hT : Two w ((w.setCell ⟨i, 2, none⟩ (.int .i64 er)).setCell ⟨i, 1, none⟩ (.int .i64 a)) i i := (Two.of_grown (grown_cell w i 2 _) (.inl rfl)).trans (Two.of_grown (grown_cell _ i 1 _) (.inl rfl))
  go_enter Try.func58, Try.ntmps58
  go_wp2_with fail
  go_returns
  exact ⟨rfl, hP2, hT⟩
theorem seven_lt {j xn : Nat} (h : j < 9) : xn % 128 * 128 ^ j < 18446744073709551616 := by
  have h1 : 128 ^ j ≤ 128 ^ 8 := Nat.pow_le_pow_right (by omega) (by omega)
  have h2 := Nat.mul_le_mul (Nat.le_of_lt_succ (Nat.mod_lt xn (show 0 < 128 by omega))) h1
  have h3 : 127 * 128 ^ 8 < 18446744073709551616 := by decide
  exact Nat.lt_of_le_of_lt h2 h3
theorem seven_9 {j xn : Nat} (h : j = 9) (hx : xn = 1) : xn % 128 * 128 ^ j < 18446744073709551616 := by subst h; subst hx; decide
theorem seven_up {uj j xn : Nat} (h : uj < 128 ^ j) : uj + xn % 128 * 128 ^ j < 128 ^ (j + 1) := by
  have h2 := Nat.mul_le_mul_right (128 ^ j) (show xn % 128 ≤ 127 by omega)
  rw [Nat.pow_succ]
  have h3 : 128 ^ j * 128 = 127 * 128 ^ j + 128 ^ j := by rw [Nat.mul_comm]; omega
  have h4 : 128 - 1 = 127 := rfl
  omega
theorem or_seven {uj j xn : Nat} (hj : j ≤ 9) (hu : uj < 128 ^ j) (hb : xn % 128 * 128 ^ j < 18446744073709551616) : bits .or .u64 (uj : Int) (IntKind.u64.wrap ((xn : Int) % 128 * 2 ^ (7 * j))) = ((uj + xn % 128 * 128 ^ j : Nat) : Int) := by
  have e0 : (128 : Nat) ^ j = 2 ^ (7 * j) := by rw [Nat.pow_mul]
  have e1 : (xn : Int) % 128 * 2 ^ (7 * j) = ((xn % 128 * 128 ^ j : Nat) : Int) := by rw [e0, Int.natCast_mul, Int.natCast_pow]; rfl
  have hu2 : uj < 18446744073709551616 := by
    have h2 : 128 ^ j ≤ 128 ^ 9 := Nat.pow_le_pow_right (by omega) hj
    have h3 : 128 ^ 9 < 18446744073709551616 := by decide
    omega
  rw [e1, IntKind.wrap_u64]
  show IntKind.u64.wrap (((BitVec.ofInt 64 (uj : Int)) ||| (BitVec.ofInt 64 _)).toNat : Int) = _
  have e2 : ((xn % 128 * 128 ^ j : Nat) : Int) % 18446744073709551616 = ((xn % 128 * 128 ^ j : Nat) : Int) := by omega
  rw [e2, BitVec.toNat_or, BitVec.toNat_ofInt, BitVec.toNat_ofInt]
  have e3 : ((uj : Int) % ((2 ^ 64 : Nat) : Int)).toNat = uj := by omega
  have e4 : (((xn % 128 * 128 ^ j : Nat) : Int) % ((2 ^ 64 : Nat) : Int)).toNat = xn % 128 * 128 ^ j := by omega
  rw [e3, e4]
  rw [e0] at hu
  have e5 := Nat.two_pow_add_eq_or_of_lt hu (xn % 128)
  have e6 : uj ||| xn % 128 * 128 ^ j = uj + xn % 128 * 128 ^ j := by rw [e0, Nat.or_comm, Nat.mul_comm (xn % 128), ← e5]; omega
  rw [e6, IntKind.wrap_u64]
  have e7 : uj + xn % 128 * 128 ^ j < 18446744073709551616 := by
    rw [← e6]
    exact Nat.or_lt_two_pow (n := 64) hu2 hb
  omega
theorem num_form {l r : List Int} {j uj xn n a v a' : Nat} {er' : Int} (h : numP 0 0 l = numP j uj ((xn : Int) :: r)) (hc : (j = 9 ∧ 1 < xn) ∨ (xn = 0 ∧ 0 < j))
    (h2 : (if (numP 0 0 l).1 = 0 then ((numP 0 0 l).2.1, n - (numP 0 0 l).2.2.length, 0) else (0, a, (numP 0 0 l).1)) = (v, a', er')) : v = 0 ∧ a' = a ∧ er' = 7 := by
  have e : numP j uj ((xn : Int) :: r) = (7, 0, []) := by
    show (if _ then _ else _) = _
    rw [if_pos (by omega)]
  rw [h, e] at h2
  simp at h2
  omega
theorem num_ret {l bs : List Int} {j uj xn n q a v a' : Nat} {er' : Int} (h : numP 0 0 l = numP j uj ((xn : Int) :: bs.drop (q + 1))) (hc : ¬ ((j = 9 ∧ 1 < xn) ∨ (xn = 0 ∧ 0 < j))) (hx : xn < 128) (hl : bs.length = n) (hq : q < n)
    (h2 : (if (numP 0 0 l).1 = 0 then ((numP 0 0 l).2.1, n - (numP 0 0 l).2.2.length, 0) else (0, a, (numP 0 0 l).1)) = (v, a', er')) : v = uj + xn % 128 * 128 ^ j ∧ a' = q + 1 ∧ er' = 0 := by
  have e : numP j uj ((xn : Int) :: bs.drop (q + 1)) = (0, uj + xn * 128 ^ j, bs.drop (q + 1)) := by
    show (if _ then _ else if _ then _ else _) = _
    rw [if_neg (by omega), if_pos (by omega), Int.toNat_natCast]
  rw [h, e] at h2
  rw [Nat.mod_eq_of_lt hx]
  simp at h2
  omega
theorem num_next {l r : List Int} {j uj xn : Nat} (h : numP 0 0 l = numP j uj ((xn : Int) :: r)) (hc : ¬ ((j = 9 ∧ 1 < xn) ∨ (xn = 0 ∧ 0 < j))) (hx : 128 ≤ xn) : numP 0 0 l = numP (j + 1) (uj + xn % 128 * 128 ^ j) r := by
  rw [h]
  show (if _ then _ else if _ then _ else _) = _
  rw [if_neg (by omega), if_neg (by omega), Int.toNat_natCast]
set_option maxRecDepth 100000 in
set_option maxHeartbeats 2000000 in
theorem number_any (i : Nat) (p : Option Addr) (n c : Nat) (bs : List Int) (a : Nat) (er : Int) (w : World) (hI : InAt w i p n c bs (a, er)) (hn : n ≤ 1000000) (v a' : Nat) (er' : Int) (h : rdNum bs (a, er) = (v, a', er')) :
    Calls Try.prog 57 #[.pointer (some ⟨i, 0, none⟩)] w fun e w' => e = .returned (.int .u64 v) ∧ InAt w' i p n c bs (a', er') ∧ Two w w' i i := by
  have hlen : bs.length = n := hI.b8.len
  by_cases he : er = 0
  · subst he
    unfold rdNum at h
    rw [if_neg (by simp), hlen] at h
    replace h := Lib.hid h
    replace hlen := Lib.hid hlen
    have y1 := hI.c1
    go_enter Try.func57, Try.ntmps57
    go_wp2_with fail
    go_loopw [4, 5] (fun u k W => ∃ j uj : Nat, j ≤ 9 ∧ u = .int .u64 uj ∧ k = .int .i64 j ∧ uj < 128 ^ j ∧ InAt W i p n c bs (a + j, 0) ∧ Hid (numP 0 0 (bs.drop a) = numP j uj (bs.drop (a + j))) ∧ Two w W i i)
      (fun _ k _ => 10 - (intOf k).toNat)
    case atStart => exact ⟨0, 0, by omega, rfl, rfl, by decide, hI, Lib.hid rfl, Two.refl _ _ _⟩
    case round =>
      clear hI y1
      obtain ⟨j, uj, hj, rfl, rfl, hu, hI, hnp, hT⟩ := hrel
      obtain ⟨q, hq⟩ : ∃ q, a + j = q := ⟨_, rfl⟩
      rw [hq] at hI hnp
      have y0 := hI.c0
      have y1 := hI.c1
      have y2 := hI.c2
      have hle := hI.le
      dsimp only at y1 y2 hle
      have haq : a ≤ q ∧ q ≤ a + 9 := by omega
      by_cases hlt : q < n
      · have tn : ((q : Int) == (n : Int)) = false := beq_eq_false_iff_ne.2 (by omega)
        obtain ⟨bl, ol, rfl, _, hcl, hx0, hx1⟩ := hI.b8.look hlt
        have hdr : bs.drop q = nth bs q :: bs.drop (q + 1) := by
          have hq' : q < bs.length := by rw [hlen.out]; exact hlt
          rw [List.drop_eq_getElem_cons hq', nth_eq hq']
        rw [hdr] at hnp
        replace hdr := Lib.hid hdr
        generalize hx : nth bs q = x at *
        replace hx := Lib.hid hx
        obtain ⟨xn, rfl⟩ : ∃ xn : Nat, x = xn := ⟨x.toNat, by omega⟩
        replace hq := Lib.hid hq
        have iq0 : (0 : Int) ≤ (q : Int) := by omega
        have iq1 : (q : Int) < (n : Int) := by omega
        have f1 := hI.free 1
        have hPk : ∀ k, InAt ((wr.drewN k).setCell ⟨i, 1, none⟩ (.int .i64 ((q : Int) + 1))) i (some ⟨bl, ol, none⟩) n c bs (q + 1, 0) := fun k => (hI.below (below_drewN (Below.refl _ _) k)).put (s' := (q + 1, 0)) (j := 1) (u := .int .i64 ((q : Int) + 1)) rfl (by show q + 1 ≤ n; omega)
        have hTk : ∀ k, Two w ((wr.drewN k).setCell ⟨i, 1, none⟩ (.int .i64 ((q : Int) + 1))) i i := fun k => hT.trans ((Two.of_below (below_drewN (Below.refl _ _) k)).trans (Two.of_grown (grown_cell _ i 1 (.int .i64 ((q : Int) + 1))) (.inl rfl)))
        rcases (by omega : (j = 9 ∧ 1 < xn) ∨ (j = 9 ∧ xn = 0) ∨ (j = 9 ∧ xn = 1) ∨ (j < 9 ∧ xn = 0 ∧ 0 < j) ∨ (j < 9 ∧ xn = 0 ∧ j = 0) ∨ (j < 9 ∧ 0 < xn ∧ xn < 128) ∨ (j < 9 ∧ 128 ≤ xn)) with hcs | hcs | hcs | hcs | hcs | hcs | hcs
        · have t90 : ((j : Int) == 9) = true := beq_iff_eq.2 (by omega)
          have t10 : decide ((1 : Int) < (xn : Int)) = true := by rw [decide_eq_true_eq]; omega
          have t11 : decide (1 < xn) = true := by rw [decide_eq_true_eq]; omega
          have hfin : Hid (v = 0 ∧ a' = a ∧ er' = 7) := Lib.hid (num_form hnp.out (by omega) h.out)
          clear hcs
          go_wp2_with fail
          go_quiet (fail)
          go_wp2_with fail
          go_quiet (fail)
          go_wp2_with fail
          refine (wrong_any i _ n c bs _ 7 a _ (hPk _) (by omega)).mono ?_
          rintro e w4 ⟨rfl, hI4, hT4⟩
          go_wp2_with fail
          go_ret
          exact ⟨by rw [hfin.out.1]; rfl, by rw [hfin.out.2.1, hfin.out.2.2]; exact hI4, (hTk _).trans hT4⟩
        · have t90 : ((j : Int) == 9) = true := beq_iff_eq.2 (by omega)
          have t10 : decide ((1 : Int) < (xn : Int)) = false := by rw [decide_eq_false_iff_not]; omega
          have t11 : decide (1 < xn) = false := by rw [decide_eq_false_iff_not]; omega
          have t00 : ((xn : Int) == 0) = true := beq_iff_eq.2 (by omega)
          have tp0 : decide ((0 : Int) < (j : Int)) = true := by rw [decide_eq_true_eq]; omega
          have tp1 : decide (0 < j) = true := by rw [decide_eq_true_eq]; omega
          have hfin : Hid (v = 0 ∧ a' = a ∧ er' = 7) := Lib.hid (num_form hnp.out (by omega) h.out)
          clear hcs
          go_wp2_with fail
          go_quiet (fail)
          go_wp2_with fail
          go_quiet (fail)
          go_wp2_with fail
          refine (wrong_any i _ n c bs _ 7 a _ (hPk _) (by omega)).mono ?_
          rintro e w4 ⟨rfl, hI4, hT4⟩
          go_wp2_with fail
          go_ret
          exact ⟨by rw [hfin.out.1]; rfl, by rw [hfin.out.2.1, hfin.out.2.2]; exact hI4, (hTk _).trans hT4⟩
        · have t90 : ((j : Int) == 9) = true := beq_iff_eq.2 (by omega)
          have t10 : decide ((1 : Int) < (xn : Int)) = false := by rw [decide_eq_false_iff_not]; omega
          have t11 : decide (1 < xn) = false := by rw [decide_eq_false_iff_not]; omega
          have t00 : ((xn : Int) == 0) = false := beq_eq_false_iff_ne.2 (by omega)
          have tl0 : decide ((xn : Int) < 128) = true := by rw [decide_eq_true_eq]; omega
          have tl1 : decide (xn < 128) = true := by rw [decide_eq_true_eq]; omega
          have hfin : Hid (v = uj + xn % 128 * 128 ^ j ∧ a' = q + 1 ∧ er' = 0) := Lib.hid (num_ret hnp.out (by omega) (by omega) hlen.out hlt h.out)
          have hor : bits .or .u64 (uj : Int) (IntKind.u64.wrap ((xn : Int) % 128 * 2 ^ (7 * j))) = ((uj + xn % 128 * 128 ^ j : Nat) : Int) := or_seven hj hu (seven_9 (by omega) (by omega))
          replace hor := Lib.hid hor
          clear hcs
          go_wp2_with fail
          go_quiet (fail)
          go_wp2_with fail
          go_quiet (fail)
          go_wp2_with fail
          go_ret
          exact ⟨by rw [hfin.out.1]; exact ret_int hor.out, by rw [hfin.out.2.1, hfin.out.2.2]; exact hPk _, hTk _⟩
        · have t90 : ((j : Int) == 9) = false := beq_eq_false_iff_ne.2 (by omega)
          have t00 : ((xn : Int) == 0) = true := beq_iff_eq.2 (by omega)
          have tp0 : decide ((0 : Int) < (j : Int)) = true := by rw [decide_eq_true_eq]; omega
          have tp1 : decide (0 < j) = true := by rw [decide_eq_true_eq]; omega
          have hfin : Hid (v = 0 ∧ a' = a ∧ er' = 7) := Lib.hid (num_form hnp.out (by omega) h.out)
          clear hcs
          go_wp2_with fail
          go_quiet (fail)
          go_wp2_with fail
          go_quiet (fail)
          go_wp2_with fail
          refine (wrong_any i _ n c bs _ 7 a _ (hPk _) (by omega)).mono ?_
          rintro e w4 ⟨rfl, hI4, hT4⟩
          go_wp2_with fail
          go_ret
          exact ⟨by rw [hfin.out.1]; rfl, by rw [hfin.out.2.1, hfin.out.2.2]; exact hI4, (hTk _).trans hT4⟩
        · have t90 : ((j : Int) == 9) = false := beq_eq_false_iff_ne.2 (by omega)
          have t00 : ((xn : Int) == 0) = true := beq_iff_eq.2 (by omega)
          have tp0 : decide ((0 : Int) < (j : Int)) = false := by rw [decide_eq_false_iff_not]; omega
          have tp1 : decide (0 < j) = false := by rw [decide_eq_false_iff_not]; omega
          have tl0 : decide ((xn : Int) < 128) = true := by rw [decide_eq_true_eq]; omega
          have tl1 : decide (xn < 128) = true := by rw [decide_eq_true_eq]; omega
          have hfin : Hid (v = uj + xn % 128 * 128 ^ j ∧ a' = q + 1 ∧ er' = 0) := Lib.hid (num_ret hnp.out (by omega) (by omega) hlen.out hlt h.out)
          have hor : bits .or .u64 (uj : Int) (IntKind.u64.wrap ((xn : Int) % 128 * 2 ^ (7 * j))) = ((uj + xn % 128 * 128 ^ j : Nat) : Int) := or_seven hj hu (seven_lt (by omega))
          replace hor := Lib.hid hor
          clear hcs
          go_wp2_with fail
          go_quiet (fail)
          go_wp2_with fail
          go_quiet (fail)
          go_wp2_with fail
          go_ret
          exact ⟨by rw [hfin.out.1]; exact ret_int hor.out, by rw [hfin.out.2.1, hfin.out.2.2]; exact hPk _, hTk _⟩
        · have t90 : ((j : Int) == 9) = false := beq_eq_false_iff_ne.2 (by omega)
          have t00 : ((xn : Int) == 0) = false := beq_eq_false_iff_ne.2 (by omega)
          have tl0 : decide ((xn : Int) < 128) = true := by rw [decide_eq_true_eq]; omega
          have tl1 : decide (xn < 128) = true := by rw [decide_eq_true_eq]; omega
          have hfin : Hid (v = uj + xn % 128 * 128 ^ j ∧ a' = q + 1 ∧ er' = 0) := Lib.hid (num_ret hnp.out (by omega) (by omega) hlen.out hlt h.out)
          have hor : bits .or .u64 (uj : Int) (IntKind.u64.wrap ((xn : Int) % 128 * 2 ^ (7 * j))) = ((uj + xn % 128 * 128 ^ j : Nat) : Int) := or_seven hj hu (seven_lt (by omega))
          replace hor := Lib.hid hor
          clear hcs
          go_wp2_with fail
          go_quiet (fail)
          go_wp2_with fail
          go_quiet (fail)
          go_wp2_with fail
          go_ret
          exact ⟨by rw [hfin.out.1]; exact ret_int hor.out, by rw [hfin.out.2.1, hfin.out.2.2]; exact hPk _, hTk _⟩
        · have t90 : ((j : Int) == 9) = false := beq_eq_false_iff_ne.2 (by omega)
          have t00 : ((xn : Int) == 0) = false := beq_eq_false_iff_ne.2 (by omega)
          have tl0 : decide ((xn : Int) < 128) = false := by rw [decide_eq_false_iff_not]; omega
          have tl1 : decide (xn < 128) = false := by rw [decide_eq_false_iff_not]; omega
          have hnx := num_next hnp.out (by omega) (by omega)
          have hor : bits .or .u64 (uj : Int) (IntKind.u64.wrap ((xn : Int) % 128 * 2 ^ (7 * j))) = ((uj + xn % 128 * 128 ^ j : Nat) : Int) := or_seven hj hu (seven_lt (by omega))
          have hu2 := seven_up (xn := xn) hu
          replace hor := Lib.hid hor
          replace hnx := Lib.hid hnx
          replace hu2 := Lib.hid hu2
          have hj9 : j < 9 := hcs.1
          clear hcs
          go_wp2_with fail
          go_quiet (fail)
          go_wp2_with fail
          go_quiet (fail)
          go_wp2_with fail
          rw [hor.out]
          go_roundw
          case rel => exact ⟨j + 1, uj + xn % 128 * 128 ^ j, by omega, by rfl, by go_num, hu2.out, by rw [show a + (j + 1) = q + 1 by rw [← hq.out]; rfl]; exact hPk _, by rw [show a + (j + 1) = q + 1 by rw [← hq.out]; rfl]; exact hnx, hTk _⟩
          case measure => simp [intOf]; omega
      · obtain rfl : q = n := by omega
        have tn : ((q : Int) == (q : Int)) = true := beq_self_eq_true _
        have hfin : Hid (v = 0 ∧ a' = a ∧ er' = 9) := Lib.hid (by
          have hd : bs.drop q = [] := by rw [← hlen.out]; exact List.drop_length
          have h1 := hnp.out
          rw [hd] at h1
          have h2 := h.out
          rw [h1] at h2
          simp [numP] at h2
          omega)
        go_wp2_with fail
        go_quiet (fail)
        go_wp2_with fail
        refine (wrong_any i p q c bs _ 9 a _ (hI.below (below_drewN (Below.refl _ _) _)) (by omega)).mono ?_
        rintro e w4 ⟨rfl, hI4, hT4⟩
        go_wp2_with fail
        go_ret
        exact ⟨by rw [hfin.out.1]; rfl, by rw [hfin.out.2.1, hfin.out.2.2]; exact hI4, (hT.trans (Two.of_below (below_drewN (Below.refl _ _) _))).trans hT4⟩
  · have hfin : Hid (v = 0 ∧ a' = a ∧ er' = er) := Lib.hid (by
      unfold rdNum at h
      rw [if_pos he] at h
      injection h with h1 h2
      injection h2 with h2 h3
      exact ⟨h1.symm, h2.symm, h3.symm⟩)
    clear h
    have y1 := hI.c1
    have y2 := hI.c2
    dsimp only at y1 y2
    have te : (er == 0) = false := beq_eq_false_iff_ne.2 he
    replace hlen := Lib.hid hlen
    clear he
    go_enter Try.func57, Try.ntmps57
    go_wp2_with fail
    go_loopw [4, 5] (fun u k W => u = .int .u64 0 ∧ k = .int .i64 0 ∧ Hid (W = w))
      (fun _ k _ => 0)
    case atStart => exact ⟨rfl, rfl, Lib.hid rfl⟩
    case round =>
      obtain ⟨rfl, rfl, hW⟩ := hrel
      obtain rfl := hW.out
      go_wp2_with fail
      go_ret
      exact ⟨by rw [hfin.out.1]; rfl, by rw [hfin.out.2.1, hfin.out.2.2]; exact hI, Two.refl _ _ _⟩
end Go.Proofs.Ytcnhgkgabddjmaa
