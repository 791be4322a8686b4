/-
  The contracts of the helpers of shares (1): the first numbers, a number around, a secret's shares.
-/
import Derived.Test.YtpngkdhfjginlaaRefB
import Derived.Test.YtpngkdhfjginlaaShMem
import Derived.Laws.AppendOwnNone
namespace Go.Proofs.Ytpngkdhfjginlaa
open Go.RowKit
attribute [local go_sem] T_V

/-- append(out, ys...). -/
theorem app_many {ops : Array Oper} {rest : List Oper} {o : Oper} {a : Act} {Q : Exit → Act → World → Prop} (hgd : o.guard = none) (s x : Operand)
    (ho : o.op = .call { callee := .builtin .append, args := #[s, x], argTypes := #[23, 23] }) {base : Nat} {v : Value} {n m c : Nat} {q : Option Addr} {xs ys : List Int} {w : World}
    (hown : Own w base v n xs) (hs : a.eval s = v) (hx : a.eval x = .slice q m c) (hY : U w q m ys) (hq : q = none → c = 0) (hn : n + m ≤ 8796093022208) (hbase : base ≤ w.heap.size)
    (h : ∀ v' w', Own w' base v' (n + m) (xs ++ ys) → Below base w w' → wpList Try.prog ops Q rest (a.put o.dst v') w') :
    wpList Try.prog ops Q (o :: rest) a w := by
  obtain ⟨i0, hi, hz0, hz1, hz2⟩ := info_parts u64_info
  cases q with
  | none =>
    have hm : m = 0 := by
      rcases Nat.eq_zero_or_pos m with h0 | h0
      · exact h0
      · obtain ⟨_, _, he, _⟩ := hY.look h0
        cases he
    subst hm
    have hys : ys = [] := List.eq_nil_of_length_eq_zero hY.len
    rw [hq rfl] at hx
    refine wpList_append_own_none hgd s x 23 ho base 22 i0 1 Try.underlying23 hi v n _ hs hown.row hx ?_
    exact h v w (by rw [hys, List.append_nil]; exact hown) (Below.refl _ _)
  | some ad =>
    refine wpList_append_own _ hgd s x 23 ho base 22 i0 (.int .u64 0) 1 8 Try.underlying23 hi hz0 hz1 hz2 rfl (by decide) v n _ hs hown.row
      ad m c (ys.map (Value.int .u64)) hx (by rw [List.length_map, hY.len]; omega) ?_ ?_ (by unfold maxLen; omega) (by omega) hbase ?_
    · intro j u hj
      rw [List.getElem?_map] at hj
      have hjl : j < ys.length := by
        rcases Nat.lt_or_ge j ys.length with h | h
        · exact h
        · rw [List.getElem?_eq_none h] at hj; cases hj
      rw [List.getElem?_eq_getElem hjl] at hj
      obtain ⟨b, off, he, _, hc, _⟩ := hY.look (i := j) (by rw [← hY.len]; exact hjl)
      injection he with he
      subst he
      simp only [Option.map_some, Option.some.injEq] at hj
      rw [← hj, ← nth_eq hjl, ← hc]
      unfold Addr.add
      by_cases h0 : j = 0
      · subst h0; rfl
      · rw [if_neg h0]
    · intro u hu
      obtain ⟨y, _, rfl⟩ := List.mem_map.1 hu
      rfl
    · intro v' w' h1 h2 _
      have hb : Below base w w' := (Below.refl _ _).grown h2 hbase (fun k e => (hown.row.lt k e).1)
      refine h v' w' ⟨by rw [List.length_append, hown.len, hY.len], by rw [List.map_append]; exact h1, ?_⟩ hb
      intro z hz
      rcases List.mem_append.1 hz with hz | hz
      · exact hown.bd z hz
      · exact hY.bd z hz

set_option maxRecDepth 100000 in
theorem Nums_any (p : Option Addr) (n : Nat) (xs : List Int) (c : Nat) (most : Nat) (w : World) (hU : U w p n xs) (hc : n ≤ c) (hp : p = none → c = 0) (hn : n ≤ 9223372036854775807) (hm : most ≤ 1000000) :
    Calls Try.prog 10 #[.slice p n c, .int .i64 most] w fun e w' => ∃ v, e = .returned v ∧ Own w' w.heap.size v (min n most) (xs.take (min n most)) ∧ Below w.heap.size w w' := by
  have hown := Own.nil w w.heap.size
  have hT := hU.take (k := min n most) (Nat.min_le_left _ _)
  by_cases hlt : n ≤ most
  · rw [Nat.min_eq_left hlt] at hT ⊢
    go_enter Try.func10, Try.ntmps10
    go_wp2_with (at_builtin; refine app_many rfl _ _ rfl hown rfl rfl hT hp (by omega) (Nat.le_refl _) ?_; intro v' w1 hown1 hb1)
    go_ret
    rw [Nat.zero_add, List.nil_append] at hown1
    exact ⟨v', rfl, hown1, hb1⟩
  · rw [Nat.min_eq_right (by omega)] at hT ⊢
    go_enter Try.func10, Try.ntmps10
    go_wp2_with (at_builtin; refine app_many rfl _ _ rfl hown rfl rfl hT hp (by omega) (Nat.le_refl _) ?_; intro v' w1 hown1 hb1)
    go_ret
    rw [Nat.zero_add, List.nil_append] at hown1
    exact ⟨v', rfl, hown1, hb1⟩

/-- .. the number of the first ones written out. -/
theorem Nums_c (k : Nat) (most : Int) (hk : most = k) (p : Option Addr) (n : Nat) (xs : List Int) (c : Nat) (w : World) (hU : U w p n xs) (hc : n ≤ c) (hp : p = none → c = 0) (hn : n ≤ 9223372036854775807) (hm : k ≤ 1000000) :
    Calls Try.prog 10 #[.slice p n c, .int .i64 most] w fun e w' => ∃ v, e = .returned v ∧ Own w' w.heap.size v (min n k) (xs.take (min n k)) ∧ Below w.heap.size w w' := by
  rw [hk]; exact Nums_any p n xs c k w hU hc hp hn hm

/-- A number from 0 on, below most, of any. -/
def around (n most : Int) : Int := (if n < 0 then -(n + 1) else n) % most
theorem around_bd (n most : Int) (h : 0 < most) : 0 ≤ around n most ∧ around n most < most := by
  unfold around
  exact ⟨Int.emod_nonneg _ (by omega), Int.emod_lt_of_pos _ h⟩

set_option maxRecDepth 100000 in
theorem Around_any (n most : Int) (w : World) (h0 : -9223372036854775808 ≤ n) (h1 : n ≤ 9223372036854775807) (hm : 0 < most) (hm1 : most ≤ 9223372036854775807) :
    Calls Try.prog 11 #[.int .i64 n, .int .i64 most] w fun e w' => e = .returned (.int .i64 (around n most)) ∧ w = w' := by
  have hz : (most == 0) = false := by rw [beq_eq_false_iff_ne]; omega
  by_cases hn : n < 0
  · have hnn : 0 ≤ -(n + 1) := by omega
    have e : Hid (around n most = -(n + 1) % most) := Lib.hid (by unfold around; rw [if_pos hn])
    go_enter Try.func11, Try.ntmps11
    go_wp2
    go_ret
    exact ⟨ret_int (by rw [e.out, ← Int.neg_tmod, Int.tmod_eq_emod_of_nonneg hnn]), rfl⟩
  · have hnn : 0 ≤ n := by omega
    have e : Hid (around n most = n % most) := Lib.hid (by unfold around; rw [if_neg hn])
    go_enter Try.func11, Try.ntmps11
    go_wp2
    go_ret
    exact ⟨ret_int e.out.symm, rfl⟩

/-! ### A secret's shares -/
/-- A secret in n shares. -/
def splitL (P : List F) (n : Nat) : List (Int × Int) := (List.range n).map fun i : Nat => ((i : Int) + 1, V (ev P (T ((i : Int) + 1))))
theorem splitL_length (P : List F) (n : Nat) : (splitL P n).length = n := by simp [splitL]
theorem splitL_snoc (P : List F) (n : Nat) : splitL P (n + 1) = splitL P n ++ [((n : Int) + 1, V (ev P (T ((n : Int) + 1))))] := by
  unfold splitL; rw [List.range_succ, List.map_append]; rfl

set_option maxRecDepth 100000 in
theorem Split_any (s : Int) (p : Option Addr) (m : Nat) (cs : List Int) (c : Nat) (n : Int) (w : World) (hs0 : 0 ≤ s) (hs1 : s < 18446744073709551616) (hU : U w p m cs) (hp : p = none → c = 0) (hm : m ≤ 1000000) (hn0 : -9223372036854775808 ≤ n) (hn : n ≤ 1000000) :
    Calls Try.prog 13 #[.int .u64 s, .slice p m c, .int .i64 n] w fun e w' => ∃ v, e = .returned v ∧ OwnS w' w.heap.size v n.toNat (splitL ((s :: cs).map T) n.toNat) ∧ Below w.heap.size w w' := by
  have hX := Lib.hid hU.len
  have hb0 : Below w.heap.size w (w.alloc (.cells #[.int .u64 s] 22)) := (Below.refl _ _).alloc (Nat.le_refl _) _
  have hU1 := hU.below hb0
  have hown : Own (w.alloc (.cells #[.int .u64 s] 22)) w.heap.size (.slice (some ⟨w.heap.size, 0, none⟩) 1 1) 1 [s] :=
    ⟨rfl, World.ownsRow_lit w #[.int .u64 s] 1 (Nat.le_refl _) (by unfold maxLen; omega) rfl, by intro x hx; rw [List.mem_singleton] at hx; subst hx; exact ⟨hs0, hs1⟩⟩
  go_enter Try.func13, Try.ntmps13
  go_wp2_with (at_builtin; refine app_many rfl _ _ rfl hown rfl rfl hU1 hp (by omega) hb0.size ?_; intro v' w1 hown1 hb1)
  obtain ⟨q, d, rfl, hqd, hQ⟩ := hown1.u
  have hbw : Below w.heap.size w w1 := hb0.trans hb1
  clear hown hown1 hU1 hb1 hb0
  rw [List.singleton_append] at hQ
  have hN : n.toNat ≤ 1000000 := by omega
  go_loopw [8, 9] (fun o a wr => ∃ k : Nat, k ≤ n.toNat ∧ a = .int .u64 ((k : Int) + 1) ∧ OwnS wr w1.heap.size o k (splitL ((s :: cs).map T) k) ∧ Below w1.heap.size w1 wr)
    (fun _ a _ => n.toNat + 1 - (intOf a).toNat)
  case atStart => exact ⟨0, Nat.zero_le _, rfl, OwnS.nil _ _, Below.refl _ _⟩
  case round =>
    obtain ⟨k, hk, rfl, hown, hb⟩ := hrel
    by_cases hlt : k < n.toNat
    · have hd : decide ((0 : Int) < n) = true := by rw [decide_eq_true_eq]; omega
      have hd2 : (k : Int) + 1 ≤ n := by omega
      have hst := Lib.hid (splitL_snoc ((s :: cs).map T) k)
      go_wp2_with fail
      refine (Eval_any q (1 + m) (s :: cs) d _ wr (hQ.below hb) (by omega) (by omega) (by omega)).mono ?_
      rintro e w2 ⟨rfl, hb2⟩
      have hown2 := hown.below hb2
      have hb3 := hb.trans (hb2.mono hb.size)
      go_wp2_with (at_builtin; refine app_sh rfl _ _ rfl hown2 rfl rfl ⟨⟨by omega, by omega⟩, V_lo _, V_64 _⟩ (by omega) hb3.size ?_; intro v' w4 hown4 hb4)
      go_roundw
      case rel => exact ⟨k + 1, by omega, by go_num, by rw [hst.out]; exact hown4, hb3.trans hb4⟩
      case measure => simp [intOf]; omega
    · have hk' : k = n.toNat := by omega
      have hfin := hown.weaken hbw.size
      rw [hk'] at hfin
      have hbf := hbw.trans (hb.mono hbw.size)
      by_cases hd0 : 0 < n
      · have hd : decide ((0 : Int) < n) = true := by rw [decide_eq_true_eq]; omega
        have hd2 : ¬ ((k : Int) + 1 ≤ n) := by omega
        clear hk' hown
        go_wp2
        go_ret
        exact ⟨_, rfl, hfin, hbf⟩
      · have hd : decide ((0 : Int) < n) = false := by rw [decide_eq_false_iff_not]; omega
        clear hk' hown
        go_wp2
        go_ret
        exact ⟨_, rfl, hfin, hbf⟩
set_option maxRecDepth 100000 in
theorem rSplit_any (s : Int) (p : Option Addr) (m : Nat) (cs : List Int) (c : Nat) (n : Int) (w : World) (hs0 : 0 ≤ s) (hs1 : s < 18446744073709551616) (hU : U w p m cs) (hp : p = none → c = 0) (hm : m ≤ 1000000) (hn0 : -9223372036854775808 ≤ n) (hn : n ≤ 1000000) :
    Calls Try.prog 14 #[.int .u64 s, .slice p m c, .int .i64 n] w fun e w' => ∃ v, e = .returned v ∧ OwnS w' w.heap.size v n.toNat (splitL ((s :: cs).map T) n.toNat) ∧ Below w.heap.size w w' := by
  have hX := Lib.hid hU.len
  have hb0 : Below w.heap.size w (w.alloc (.cells #[.int .u64 s] 22)) := (Below.refl _ _).alloc (Nat.le_refl _) _
  have hU1 := hU.below hb0
  have hown : Own (w.alloc (.cells #[.int .u64 s] 22)) w.heap.size (.slice (some ⟨w.heap.size, 0, none⟩) 1 1) 1 [s] :=
    ⟨rfl, World.ownsRow_lit w #[.int .u64 s] 1 (Nat.le_refl _) (by unfold maxLen; omega) rfl, by intro x hx; rw [List.mem_singleton] at hx; subst hx; exact ⟨hs0, hs1⟩⟩
  go_enter Try.func14, Try.ntmps14
  go_wp2_with (at_builtin; refine app_many rfl _ _ rfl hown rfl rfl hU1 hp (by omega) hb0.size ?_; intro v' w1 hown1 hb1)
  obtain ⟨q, d, rfl, hqd, hQ⟩ := hown1.u
  have hbw : Below w.heap.size w w1 := hb0.trans hb1
  clear hown hown1 hU1 hb1 hb0
  rw [List.singleton_append] at hQ
  have hN : n.toNat ≤ 1000000 := by omega
  go_loopw [8, 9] (fun o a wr => ∃ k : Nat, k ≤ n.toNat ∧ a = .int .i64 ((k : Int) + 1) ∧ OwnS wr w1.heap.size o k (splitL ((s :: cs).map T) k) ∧ Below w1.heap.size w1 wr)
    (fun _ a _ => n.toNat + 1 - (intOf a).toNat)
  case atStart => exact ⟨0, Nat.zero_le _, rfl, OwnS.nil _ _, Below.refl _ _⟩
  case round =>
    obtain ⟨k, hk, rfl, hown, hb⟩ := hrel
    by_cases hlt : k < n.toNat
    · have hd2 : (k : Int) + 1 ≤ n := by omega
      have hst := Lib.hid (splitL_snoc ((s :: cs).map T) k)
      go_wp2_with fail
      refine (rEval_any q (1 + m) (s :: cs) d _ wr (hQ.below hb) (by omega) (by omega) (by omega)).mono ?_
      rintro e w2 ⟨rfl, hb2⟩
      have hown2 := hown.below hb2
      have hb3 := hb.trans (hb2.mono hb.size)
      go_wp2_with (at_builtin; refine app_sh rfl _ _ rfl hown2 rfl rfl ⟨⟨by omega, by omega⟩, V_lo _, V_64 _⟩ (by omega) hb3.size ?_; intro v' w4 hown4 hb4)
      go_roundw
      case rel => exact ⟨k + 1, by omega, by go_num, by rw [hst.out]; exact hown4, hb3.trans hb4⟩
      case measure => simp [intOf]; omega
    · have hk' : k = n.toNat := by omega
      have hfin := hown.weaken hbw.size
      rw [hk'] at hfin
      have hbf := hbw.trans (hb.mono hbw.size)
      have hd2 : ¬ ((k : Int) + 1 ≤ n) := by omega
      clear hk' hown
      go_wp2
      go_ret
      exact ⟨_, rfl, hfin, hbf⟩
end Go.Proofs.Ytpngkdhfjginlaa
