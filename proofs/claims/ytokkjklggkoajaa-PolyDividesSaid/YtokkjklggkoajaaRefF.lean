/-
  The contracts of the references' polynomials (6): what has no roots; is a number among some; the statements' first coefficients.
-/
import Derived.Test.YtokkjklggkoajaaRefE
import Derived.Test.YtokkjklggkoajaaPolyL
namespace Go.Proofs.Ytokkjklggkoajaa
open Go.RowKit
attribute [local go_sem] T_V

theorem sq_two (x : F) : x ^ 2 = x * x := by grind
theorem sq_pow (x : F) (hx : x ≠ 0) : fpow (x * x) 1152921504606846975 = 1 := by
  have h := fermat x hx
  have e : M = 2 * 1152921504606846975 := by decide +kernel
  rw [e, pow_mul', sq_two] at h
  exact h
theorem no_root {c : F} (hc : fpow c 1152921504606846975 ≠ 1) (h0 : c ≠ 0) (x : F) : x * x - c ≠ 0 := fun e => by
  have e1 : x * x = c := by grind
  have hx : x ≠ 0 := fun h => h0 (by rw [← e1, h]; grind)
  exact hc (by rw [← e1]; exact sq_pow x hx)
/-- A polynomial without roots. -/
def NoRoots (R : Pol) : Prop := R ≠ 0 ∧ ∀ x, R.at' x ≠ 0
theorem NoRoots.of {R : Pol} (h : ∀ x, R.at' x ≠ 0) : NoRoots R := ⟨fun e => h 0 (by rw [e, Pol.at_zero]), h⟩
theorem at_pol (xs : List Int) (x : F) : (pol xs).at' x = ev (xs.map T) x := Pol.ev_congr (Pol.coef_mk _) x
theorem T_ne {c : Int} (h0 : 0 < c) (h1 : c < 2305843009213693951) : T c ≠ 0 := fun e => by
  have := (T_eq c 0).1 e
  omega
theorem rootless_con {c : Int} (h0 : 0 < c) (h1 : c < 2305843009213693951) : NoRoots (pol [c]) := NoRoots.of fun x => by
  rw [at_pol, List.map_cons, List.map_nil, ev, ev, mul_zero', add_zero']
  exact T_ne h0 h1
theorem rootless_sq {c : Int} (h0 : 0 < c) (h1 : c < 2305843009213693951) (hc : fpow (T c) 1152921504606846975 ≠ 1) : NoRoots (pol [V (-T c), 0, 1]) := NoRoots.of fun x => by
  rw [at_pol, List.map_cons, List.map_cons, List.map_cons, List.map_nil, T_V, T_zero, T_one, ev, ev, ev, ev]
  have := no_root hc (T_ne h0 h1) x
  grind

/-- What Rootless answers. -/
def RootlessTo (w : World) (e : Ending) (w' : World) : Prop := ∃ p m c xs, e = .returned (.slice p m c) ∧ U w' p m xs ∧ m ≤ 3 ∧ NoRoots (pol xs) ∧ Below w.heap.size w w'
set_option maxRecDepth 100000 in
set_option maxHeartbeats 1000000 in
theorem Rootless_any (n : Int) (w : World) (h0 : -9223372036854775808 ≤ n) (h1 : n ≤ 9223372036854775807) :
    Calls Try.prog 33 #[.int .i64 n] w (RootlessTo w) := by
  obtain ⟨hk0, hk1⟩ := around_bd n 60 (by omega)
  go_enter Try.func33, Try.ntmps33
  go_wp2_with fail
  refine (Around_any n 60 _ h0 h1 (by omega) (by omega)).mono ?_
  rintro e w1 ⟨rfl, rfl⟩
  generalize around n 60 = k at *
  by_cases h10 : k < 10
  · have hS := U_lit w 23 [1 + k] #[.int .u64 (1 + k)] 1 rfl rfl (by intro x hx; simp at hx; omega)
    have hb := Below.lit w (.cells #[.int .u64 (1 + k)] 23)
    have hN : Hid (NoRoots (pol [1 + k])) := Lib.hid (rootless_con (by omega) (by omega))
    go_wp2_with fail
    go_ret
    exact ⟨_, _, _, _, rfl, hS, by omega, hN.out, hb⟩
  · go_wp2_with fail
    go_loopw [4] (fun cv wr => ∃ c : Int, 10 ≤ c ∧ c ≤ 200 ∧ cv = .int .u64 c ∧ Below w.heap.size w wr) (fun cv _ => (200 - intOf cv).toNat)
    case atStart => exact ⟨k, by omega, by omega, rfl, Below.refl _ _⟩
    case round =>
      obtain ⟨c, hc0, hc1, rfl, hb⟩ := hrel
      by_cases hlt : c < 200
      · by_cases hp : V (fpow (T c) 1152921504606846975) = 1
        · have hp' : (V (fpow (T c) 1152921504606846975) != 1) = false := by rw [hp]; rfl
          have hp2 := Lib.hid hp'
          clear hp hp'
          go_wp2_with fail
          refine (rpow_b (Below.refl _ _) c 1152921504606846975 (by omega) (by omega) (by omega) (by omega)).mono ?_
          rintro e w2 ⟨rfl, hb2⟩
          have hp3 := hp2.out
          go_wp2_with fail
          go_roundw
          case rel => exact ⟨c + 1, by omega, by omega, rfl, hb.trans (hb2.mono hb.size)⟩
          case measure => simp [intOf]; omega
        · have hp' : (V (fpow (T c) 1152921504606846975) != 1) = true := by rw [bne_iff_ne]; exact hp
          have hp2 := Lib.hid hp'
          have hN : Hid (NoRoots (pol [V (-T c), 0, 1])) := Lib.hid (rootless_sq (by omega) (by omega) fun e => hp (by rw [e]; rfl))
          clear hp hp'
          go_wp2_with fail
          refine (rpow_b (Below.refl _ _) c 1152921504606846975 (by omega) (by omega) (by omega) (by omega)).mono ?_
          rintro e w2 ⟨rfl, hb2⟩
          have hp3 := hp2.out
          go_wp2_with fail
          refine (rsub_any 0 c _ (by omega) (by omega) (by omega) (by omega)).mono ?_
          rintro e w3 ⟨rfl, rfl⟩
          rw [T_zero, zero_sub']
          have hS := U_lit w2 23 [V (-T c), 0, 1] #[.int .u64 (V (-T c)), .int .u64 0, .int .u64 1] 3 rfl rfl (by
            intro x hx; simp at hx; rcases hx with rfl | rfl | rfl
            · exact ⟨V_lo _, V_64 _⟩
            · omega
            · omega)
          have hl := Below.lit w2 (.cells #[.int .u64 (V (-T c)), .int .u64 0, .int .u64 1] 23)
          have hb03 := hb.trans ((hb2.trans (hl.mono hb2.size)).mono hb.size)
          clear hp3
          go_wp2_with fail
          go_ret
          exact ⟨_, _, _, _, rfl, hS, by omega, hN.out, hb03⟩
      · have hS := U_lit wr 23 [1] #[.int .u64 1] 1 rfl rfl (by decide)
        have hl := Below.lit wr (.cells #[.int .u64 1] 23)
        have hN : Hid (NoRoots (pol [1])) := Lib.hid (rootless_con (by omega) (by omega))
        go_wp2_with fail
        go_ret
        exact ⟨_, _, _, _, rfl, hS, by omega, hN.out, hb.trans (hl.mono hb.size)⟩
theorem ret_bool {a b : Bool} (h : a = b) : Ending.returned (.bool a) = .returned (.bool b) := by rw [h]

set_option maxRecDepth 100000 in
theorem HasNum_any (p : Option Addr) (n : Nat) (xs : List Int) (c : Nat) (x : Int) (w : World) (hU : U w p n xs) (hn : n ≤ 9223372036854775806) (r : Bool) (hr : Hid (r = xs.contains x)) :
    Calls Try.prog 41 #[.slice p n c, .int .u64 x] w fun e w' => e = .returned (.bool r) ∧ w = w' := by
  have hX := Lib.hid hU.len
  go_enter Try.func41, Try.ntmps41
  go_wp2
  go_loopw [5] (fun i wr => ∃ k : Nat, k ≤ n ∧ i = .int .i64 k ∧ Hid (∀ j, j < k → nth xs j ≠ x) ∧ w = wr)
    (fun i _ => n - (intOf i).toNat)
  case atStart => exact ⟨0, Nat.zero_le _, rfl, Lib.hid (fun j hj => absurd hj (by omega)), rfl⟩
  case round =>
    obtain ⟨k, hk, rfl, hno, rfl⟩ := hrel
    by_cases hlt : k < n
    · obtain ⟨b, off, rfl, _, hc, _⟩ := hU.look hlt
      by_cases he : nth xs k = x
      · have he' : (nth xs k == x) = true := by rw [beq_iff_eq]; exact he
        have hfin : Hid (xs.contains x = true) := Lib.hid (by rw [List.contains_iff_mem, ← he]; exact nth_mem (by rw [hX.out]; exact hlt))
        clear he
        go_wp2
        go_ret
        exact ⟨ret_bool (by rw [hr.out, hfin.out]), rfl⟩
      · have he' : (nth xs k == x) = false := beq_eq_false_iff_ne.2 he
        have hno' : Hid (∀ j, j < k + 1 → nth xs j ≠ x) := Lib.hid (fun j hj => by
          by_cases hjk : j = k
          · subst hjk; exact he
          · exact hno.out j (by omega))
        clear he hno
        go_wp2
        go_roundw
        case rel => exact ⟨k + 1, by omega, by go_num, hno', by trivial⟩
        case measure => simp [intOf]; omega
    · have hfin : Hid (xs.contains x = false) := Lib.hid (by
        rw [← Bool.not_eq_true, List.contains_iff_mem]
        intro hm
        obtain ⟨j, hj, rfl⟩ := List.getElem_of_mem hm
        have := hno.out j (by rw [hX.out] at hj; omega)
        rw [nth_eq hj] at this
        exact this rfl)
      clear hno
      go_wp2
      go_ret
      exact ⟨ret_bool (by rw [hr.out, hfin.out]), rfl⟩

set_option maxRecDepth 100000 in
theorem few_any (p : Option Addr) (n : Nat) (xs : List Int) (c : Nat) (w : World) (hU : U w p n xs) (hc : n ≤ c) (hp : p = none → c = 0) (hn : n ≤ 9223372036854775807) :
    Calls Try.prog 12 #[.slice p n c] w fun e w' => ∃ v, e = .returned v ∧ Own w' w.heap.size v (min n 9) (xs.take (min n 9)) ∧ Below w.heap.size w w' := by
  go_enter Try.func12, Try.ntmps12
  go_wp2_with fail
  refine (Nums_c 9 9 rfl p n xs c _ hU hc hp hn (by omega)).mono ?_
  rintro e w1 ⟨v, rfl, hown, hb1⟩
  go_wp2_with fail
  go_ret
  exact ⟨v, rfl, hown, hb1⟩
end Go.Proofs.Ytokkjklggkoajaa
