/-
  Bytes that are read, in the program (2): numbers with a sign, how many, the end; Open.
-/
import Derived.Test.YtcnhgkgabddjmaaChR
namespace Go.Proofs.Ytcnhgkgabddjmaa
open Go.RowKit Go.Maps

theorem xor_m1 (x : Int) (h0 : 0 ≤ x) (h1 : x ≤ 9223372036854775807) : bits .xor .i64 x (-1) = -x - 1 := by
  show IntKind.i64.wrap (((BitVec.ofInt 64 x) ^^^ (BitVec.ofInt 64 (-1))).toNat : Int) = _
  rw [show BitVec.ofInt 64 (-1) = BitVec.allOnes 64 from rfl, BitVec.xor_allOnes, BitVec.toNat_not, BitVec.toNat_ofInt]
  have e : (x % ((2 ^ 64 : Nat) : Int)).toNat = x.toNat := by omega
  rw [e]
  rw [IntKind.wrap_i64]
  omega
theorem xor_0i (x : Int) (h0 : 0 ≤ x) (h1 : x ≤ 9223372036854775807) : bits .xor .i64 x 0 = x := by
  show IntKind.i64.wrap (((BitVec.ofInt 64 x) ^^^ (BitVec.ofInt 64 0)).toNat : Int) = _
  rw [show BitVec.ofInt 64 0 = 0#64 from rfl, BitVec.xor_zero, BitVec.toNat_ofInt]
  have e : (x % ((2 ^ 64 : Nat) : Int)).toNat = x.toNat := by omega
  rw [e]
  rw [IntKind.wrap_i64]
  omega
theorem unI_bits (v : Nat) (h : v < 18446744073709551616) : bits .xor .i64 ((v : Int) / 2) (wrap64 (-wrap64 (bits .and .u64 (v : Int) 1))) = unI v := by
  rw [and_one_u64 _ (by omega) (by omega)]
  unfold unI
  by_cases h1 : v % 2 = 0
  · rw [if_pos h1]
    have e : (v : Int) % 2 = 0 := by omega
    rw [e, show wrap64 (-wrap64 0) = 0 by unfold wrap64; omega, xor_0i _ (by omega) (by omega)]
    omega
  · rw [if_neg h1]
    have e : (v : Int) % 2 = 1 := by omega
    rw [e, show wrap64 (-wrap64 1) = -1 by unfold wrap64; omega, xor_m1 _ (by omega) (by omega)]
    omega
set_option maxRecDepth 100000 in
theorem unfold_any (v : Nat) (w : World) (h : v < 18446744073709551616) :
    Calls Try.prog 56 #[.int .u64 v] w fun e w' => e = .returned (.int .i64 (unI v)) ∧ w = w' := by
  have e := Lib.hid (unI_bits v h)
  go_enter Try.func56, Try.ntmps56
  go_wp2_with fail
  go_ret
  exact ⟨ret_int e.out, rfl⟩
set_option maxRecDepth 100000 in
theorem secret_any (v : Int) (w : World) (h : 0 ≤ v ∧ v < 18446744073709551616) :
    Calls Try.prog 47 #[.int .u64 v] w fun e w' => e = .returned (.bool (isSec v)) ∧ w = w' := by
  by_cases h1 : 1 ≤ v
  · by_cases h2 : v ≤ 2305843009213693949
    · have e : Hid (true = isSec v) := Lib.hid (by unfold isSec; symm; exact decide_eq_true ⟨h1, h2⟩)
      go_enter Try.func47, Try.ntmps47
      go_wp2_with fail
      go_ret
      exact ⟨ret_bool e.out, rfl⟩
    · have e : Hid (false = isSec v) := Lib.hid (by unfold isSec; symm; exact decide_eq_false (by omega))
      have t : decide (v ≤ 2305843009213693949) = false := decide_eq_false h2
      go_enter Try.func47, Try.ntmps47
      go_wp2_with fail
      go_ret
      exact ⟨ret_bool e.out, rfl⟩
  · have e : Hid (false = isSec v) := Lib.hid (by unfold isSec; symm; exact decide_eq_false (by omega))
    have t : decide (1 ≤ v) = false := decide_eq_false h1
    go_enter Try.func47, Try.ntmps47
    go_wp2_with fail
    go_ret
    exact ⟨ret_bool e.out, rfl⟩
set_option maxRecDepth 100000 in
theorem RNum_any (i : Nat) (p : Option Addr) (n c : Nat) (bs : List Int) (s : Nat × Int) (w : World) (hI : InAt w i p n c bs s) (hn : n ≤ 1000000) (v : Nat) (s' : Nat × Int) (h : rdNum bs s = (v, s')) :
    Calls Try.prog 45 #[.pointer (some ⟨i, 0, none⟩)] w fun e w' => e = .returned (.int .u64 v) ∧ InAt w' i p n c bs s' ∧ Two w w' i i := by
  obtain ⟨a, er⟩ := s
  obtain ⟨a', er'⟩ := s'
  go_enter Try.func45, Try.ntmps45
  replace h := Lib.hid h
  go_wp2_with fail
  refine (number_any i p n c bs a er _ hI hn v a' er' h.out).mono ?_
  rintro e w2 ⟨rfl, hI2, hT2⟩
  go_wp2_with fail
  go_ret
  exact ⟨rfl, hI2, hT2⟩
set_option maxRecDepth 100000 in
theorem RInt_any (i : Nat) (p : Option Addr) (n c : Nat) (bs : List Int) (s : Nat × Int) (w : World) (hI : InAt w i p n c bs s) (hn : n ≤ 1000000) (v : Nat) (s' : Nat × Int) (h : rdNum bs s = (v, s')) :
    Calls Try.prog 44 #[.pointer (some ⟨i, 0, none⟩)] w fun e w' => e = .returned (.int .i64 (unI v)) ∧ InAt w' i p n c bs s' ∧ Two w w' i i := by
  have hb := rdNum_bd hI.b8.bd (s := s) (by rw [hI.b8.len]; exact hI.le)
  rw [h] at hb
  have hv := hb.1
  clear hb
  obtain ⟨a, er⟩ := s
  obtain ⟨a', er'⟩ := s'
  go_enter Try.func44, Try.ntmps44
  replace h := Lib.hid h
  go_wp2_with fail
  refine (number_any i p n c bs a er _ hI hn v a' er' h.out).mono ?_
  rintro e w2 ⟨rfl, hI2, hT2⟩
  go_wp2_with fail
  refine (unfold_any v _ hv).mono ?_
  rintro e w3 ⟨rfl, rfl⟩
  go_wp2_with fail
  go_ret
  exact ⟨rfl, hI2, hT2⟩
set_option maxRecDepth 100000 in
theorem RMany_any (i : Nat) (p : Option Addr) (n c : Nat) (bs : List Int) (s : Nat × Int) (most : Int) (w : World) (hI : InAt w i p n c bs s) (hn : n ≤ 1000000) (v : Int) (s' : Nat × Int) (h : rdMany most bs s = (v, s')) :
    Calls Try.prog 46 #[.pointer (some ⟨i, 0, none⟩), .int .i64 most] w fun e w' => e = .returned (.int .i64 v) ∧ InAt w' i p n c bs s' ∧ Two w w' i i := by
  have y1 := hI.c1
  have hle := hI.le
  obtain ⟨u, s2, hr⟩ : ∃ u s2, rdNum bs s = (u, s2) := ⟨_, _, rfl⟩
  unfold rdMany at h
  rw [hr] at h
  dsimp only at h
  replace hr := Lib.hid hr
  by_cases h1 : unI u < 0
  · rw [if_pos (.inl h1)] at h
    injection h with h2 h3
    replace h2 := Lib.hid h2
    replace h3 := Lib.hid h3
    have t1 : decide (unI u < 0) = true := decide_eq_true h1
    clear h1
    go_enter Try.func46, Try.ntmps46
    go_wp2_with fail
    refine (RInt_any i p n c bs s _ hI hn u s2 hr.out).mono ?_
    rintro e w2 ⟨rfl, hI2, hT2⟩
    clear y1
    go_wp2_with fail
    refine (wrong_any i p n c bs s2 7 s.1 _ hI2 hle).mono ?_
    rintro e w3 ⟨rfl, hI3, hT3⟩
    go_wp2_with fail
    go_ret
    exact ⟨by rw [← h2.out]; rfl, by rw [← h3.out]; exact hI3, hT2.trans hT3⟩
  · by_cases h4 : most < unI u
    · rw [if_pos (.inr h4)] at h
      injection h with h2 h3
      replace h2 := Lib.hid h2
      replace h3 := Lib.hid h3
      have t1 : decide (unI u < 0) = false := decide_eq_false h1
      have t2 : decide (most < unI u) = true := decide_eq_true h4
      clear h1 h4
      go_enter Try.func46, Try.ntmps46
      go_wp2_with fail
      refine (RInt_any i p n c bs s _ hI hn u s2 hr.out).mono ?_
      rintro e w2 ⟨rfl, hI2, hT2⟩
      clear y1
      go_wp2_with fail
      refine (wrong_any i p n c bs s2 7 s.1 _ hI2 hle).mono ?_
      rintro e w3 ⟨rfl, hI3, hT3⟩
      go_wp2_with fail
      go_ret
      exact ⟨by rw [← h2.out]; rfl, by rw [← h3.out]; exact hI3, hT2.trans hT3⟩
    · rw [if_neg (by omega)] at h
      injection h with h2 h3
      replace h2 := Lib.hid h2
      replace h3 := Lib.hid h3
      have t1 : decide (unI u < 0) = false := decide_eq_false h1
      have t2 : decide (most < unI u) = false := decide_eq_false h4
      clear h1 h4
      go_enter Try.func46, Try.ntmps46
      go_wp2_with fail
      refine (RInt_any i p n c bs s _ hI hn u s2 hr.out).mono ?_
      rintro e w2 ⟨rfl, hI2, hT2⟩
      clear y1
      go_wp2_with fail
      go_ret
      exact ⟨by rw [← h2.out]; rfl, by rw [← h3.out]; exact hI2, hT2⟩
set_option maxRecDepth 100000 in
theorem Left_any (i : Nat) (p : Option Addr) (n c : Nat) (bs : List Int) (s : Nat × Int) (w : World) (hI : InAt w i p n c bs s) (hn : n ≤ 1000000) :
    Calls Try.prog 59 #[.pointer (some ⟨i, 0, none⟩)] w fun e w' => e = .returned (.int .i64 ((n : Int) - s.1)) ∧ Below w.heap.size w w' := by
  have y0 := hI.c0
  have y1 := hI.c1
  have hle := hI.le
  go_enter Try.func59, Try.ntmps59
  go_wp2_with fail
  go_quiet (fail)
  go_wp2_with fail
  go_ret
  exact ⟨rfl, below_drewN (Below.refl _ _) _⟩
set_option maxRecDepth 100000 in
theorem End_any (i : Nat) (p : Option Addr) (n c : Nat) (bs : List Int) (s : Nat × Int) (w : World) (hI : InAt w i p n c bs s) (hn : n ≤ 1000000) :
    Calls Try.prog 48 #[.pointer (some ⟨i, 0, none⟩)] w fun e w' => (∃ er : Int, e = .returned (.int .i64 er) ∧ (er = 0 ↔ s.2 = 0 ∧ s.1 = n)) ∧ Below w.heap.size w w' := by
  have y2 := hI.c2
  have hle := hI.le
  by_cases h : s.2 = 0
  · have t : (s.2 == 0) = true := beq_iff_eq.2 h
    replace h := Lib.hid h
    by_cases h2 : s.1 < n
    · have t2 : decide ((0 : Int) < (n : Int) - s.1) = true := decide_eq_true (by omega)
      go_enter Try.func48, Try.ntmps48
      go_wp2_with fail
      refine (Left_any i p n c bs s _ hI hn).mono ?_
      rintro e w2 ⟨rfl, hb⟩
      go_wp2_with fail
      go_ret
      exact ⟨⟨2, rfl, by constructor; (intro h; omega); (intro h; omega)⟩, hb⟩
    · have t2 : decide ((0 : Int) < (n : Int) - s.1) = false := decide_eq_false (by omega)
      go_enter Try.func48, Try.ntmps48
      go_wp2_with fail
      refine (Left_any i p n c bs s _ hI hn).mono ?_
      rintro e w2 ⟨rfl, hb⟩
      clear y2
      have y2 := (hI.below hb).c2
      go_wp2_with fail
      go_ret
      exact ⟨⟨s.2, rfl, by rw [h.out]; constructor; (intro _; exact ⟨rfl, by omega⟩); (intro _; rfl)⟩, hb⟩
  · have t : (s.2 == 0) = false := beq_eq_false_iff_ne.2 h
    replace h := Lib.hid h
    go_enter Try.func48, Try.ntmps48
    go_wp2_with fail
    go_ret
    exact ⟨⟨s.2, rfl, by constructor; (intro h1; exact absurd h1 h.out); (intro h1; exact h1.1)⟩, Below.refl _ _⟩
set_option maxRecDepth 100000 in
theorem Open_any (p : Option Addr) (n c : Nat) (bs : List Int) (w : World) (hB : B8 w p n bs) (hp : p = none → c = 0) (hn : n ≤ 1000000) :
    Calls Try.prog 43 #[.slice p n c] w fun e w' => ∃ (q : Option Addr) (i cq : Nat), e = .returned (.pointer (some ⟨i, 0, none⟩)) ∧ InAt w' i q n cq bs (0, 0) ∧ w.heap.size ≤ i ∧ FarP w.heap.size q ∧ Below w.heap.size w w' := by
  have hlen := hB.len
  replace hlen := Lib.hid hlen
  go_enter Try.func43, Try.ntmps43
  go_wp2_with (at_builtin; refine app_bs rfl _ _ rfl (OwnB.nil w w.heap.size) rfl rfl hB hp (by omega) (Nat.le_refl _) ?_; intro v' w1 hown1 hb1; rw [Nat.zero_add, List.nil_append] at hown1; obtain ⟨p1, c1, rfl, hc1, hB1, hf1, hp1⟩ := hown1.u)
  have hbX := hb1.alloc hb1.size (.cells #[.slice p1 n c1, .int .i64 0, .int .i64 0] 101)
  have hB2 := hB1.below (Below.lit w1 (.cells #[.slice p1 n c1, .int .i64 0, .int .i64 0] 101))
  have hblk : (w1.alloc (.cells #[.slice p1 n c1, .int .i64 0, .int .i64 0] 101)).heap[w1.heap.size]? = some (.cells #[.slice p1 n c1, .int .i64 0, .int .i64 0] 101 (0, 0)) := World.alloc_heap_new w1 _
  go_ret
  refine ⟨p1, w1.heap.size, c1, rfl, ⟨hblk, hB2, fun q hq => ?_, Nat.zero_le _⟩, hb1.size, hf1, hbX⟩
  subst hq
  have := (hown1.lt (g := q.block) rfl).2
  omega
end Go.Proofs.Ytcnhgkgabddjmaa
