/-
  The helpers of all references (1): the first numbers; a number around; are numbers the same; small numbers.
-/
import Derived.Test.YtcnhgkgabddjmaaFieldC
import Derived.Test.YtcnhgkgabddjmaaApp
import Derived.Test.YtcnhgkgabddjmaaOpen
import Derived.Laws.AppendOwnNone
namespace Go.Proofs.Ytcnhgkgabddjmaa
open Go.RowKit
attribute [local go_sem] T_V

set_option maxRecDepth 100000 in
/-- append(out, ys...). -/
theorem app_many {ops : Array Oper} {rest : List Oper} {o : Oper} {a : Act} {Q : Exit → Act → World → Prop} (hgd : o.guard = none) (s x : Operand)
    (ho : o.op = .call { callee := .builtin .append, args := #[s, x], argTypes := #[27, 27] }) {base : Nat} {v : Value} {n m c : Nat} {q : Option Addr} {xs ys : List Int} {w : World}
    (hown : Own w base v n xs) (hs : a.eval s = v) (hx : a.eval x = .slice q m c) (hY : U w q m ys) (hq : q = none → c = 0) (hn : n + m ≤ 8796093022208) (hbase : base ≤ w.heap.size)
    (h : ∀ v' w', Own w' base v' (n + m) (xs ++ ys) → Below base w w' → wpList Try.prog ops Q rest (a.put o.dst v') w') :
    wpList Try.prog ops Q (o :: rest) a w := by
  obtain ⟨i0, hi, hz0, hz1, hz2⟩ := info_parts u64_info
  cases q with
  | none =>
    have hm : m = 0 := by
      rcases Nat.eq_zero_or_pos m with h0 | h0
      · exact h0
      · obtain ⟨_, _, he, _⟩ := hY.look h0
        cases he
    subst hm
    have hys : ys = [] := List.eq_nil_of_length_eq_zero hY.len
    rw [hq rfl] at hx
    refine wpList_append_own_none hgd s x 27 ho base 22 i0 1 Try.underlying27 hi v n _ hs hown.row hx ?_
    exact h v w (by rw [hys, List.append_nil]; exact hown) (Below.refl _ _)
  | some ad =>
    refine wpList_append_own _ hgd s x 27 ho base 22 i0 (.int .u64 0) 1 8 Try.underlying27 hi hz0 hz1 hz2 rfl (by decide) v n _ hs hown.row
      ad m c (ys.map (Value.int .u64)) hx (by rw [List.length_map, hY.len]; omega) ?_ ?_ (by unfold maxLen; omega) (by omega) hbase ?_
    · intro j u hj
      rw [List.getElem?_map] at hj
      have hjl : j < ys.length := by
        rcases Nat.lt_or_ge j ys.length with h | h
        · exact h
        · rw [List.getElem?_eq_none h] at hj; cases hj
      rw [List.getElem?_eq_getElem hjl] at hj
      obtain ⟨b, off, he, _, hc, _⟩ := hY.look (i := j) (by rw [← hY.len]; exact hjl)
      injection he with he
      subst he
      simp only [Option.map_some, Option.some.injEq] at hj
      rw [← hj, ← nth_eq hjl, ← hc]
      unfold Addr.add
      by_cases h0 : j = 0
      · subst h0; rfl
      · rw [if_neg h0]
    · intro u hu
      obtain ⟨y, _, rfl⟩ := List.mem_map.1 hu
      rfl
    · intro v' w' h1 h2 _
      have hb : Below base w w' := (Below.refl _ _).grown h2 hbase (fun k e => (hown.row.lt k e).1)
      refine h v' w' ⟨by rw [List.length_append, hown.len, hY.len], by rw [List.map_append]; exact h1, ?_⟩ hb
      intro z hz
      rcases List.mem_append.1 hz with hz | hz
      · exact hown.bd z hz
      · exact hY.bd z hz



/-- A number from 0 on, below most, of any. -/
def around (n most : Int) : Int := (if n < 0 then -(n + 1) else n) % most
theorem around_bd (n most : Int) (h : 0 < most) : 0 ≤ around n most ∧ around n most < most := by
  unfold around
  exact ⟨Int.emod_nonneg _ (by omega), Int.emod_lt_of_pos _ h⟩

set_option maxRecDepth 100000 in
theorem Around_any (n most : Int) (w : World) (h0 : -9223372036854775808 ≤ n) (h1 : n ≤ 9223372036854775807) (hm : 0 < most) (hm1 : most ≤ 9223372036854775807) :
    Calls Try.prog 11 #[.int .i64 n, .int .i64 most] w fun e w' => e = .returned (.int .i64 (around n most)) ∧ w = w' := by
  have hz : (most == 0) = false := by rw [beq_eq_false_iff_ne]; omega
  by_cases hn : n < 0
  · have hnn : 0 ≤ -(n + 1) := by omega
    have e : Hid (around n most = -(n + 1) % most) := Lib.hid (by unfold around; rw [if_pos hn])
    go_enter Try.func11, Try.ntmps11
    go_wp2
    go_ret
    exact ⟨ret_int (by rw [e.out, ← Int.neg_tmod, Int.tmod_eq_emod_of_nonneg hnn]), rfl⟩
  · have hnn : 0 ≤ n := by omega
    have e : Hid (around n most = n % most) := Lib.hid (by unfold around; rw [if_neg hn])
    go_enter Try.func11, Try.ntmps11
    go_wp2
    go_ret
    exact ⟨ret_int e.out.symm, rfl⟩

end Go.Proofs.Ytcnhgkgabddjmaa
