/-
  Shares (10): a list of shares appended to a list of one's own.
-/
import Derived.Test.YtpngkdhfjginlaaShI
import Derived.Laws.AppendOwnNone
namespace Go.Proofs.Ytpngkdhfjginlaa
open Go.RowKit
attribute [local go_sem] T_V

/-- append(out, l...). -/
theorem app_shs {ops : Array Oper} {rest : List Oper} {o : Oper} {a : Act} {Q : Exit → Act → World → Prop} (hgd : o.guard = none) (s x : Operand)
    (ho : o.op = .call { callee := .builtin .append, args := #[s, x], argTypes := #[27, 27] }) {base : Nat} {v : Value} {n m c : Nat} {q : Option Addr} {xs ys : List (Int × Int)} {w : World}
    (hown : OwnS w base v n xs) (hs : a.eval s = v) (hx : a.eval x = .slice q m c) (hY : Sh w q m ys) (hq : q = none → c = 0) (hn : n + m ≤ 4398046511104) (hbase : base ≤ w.heap.size)
    (h : ∀ v' w', OwnS w' base v' (n + m) (xs ++ ys) → Below base w w' → wpList Try.prog ops Q rest (a.put o.dst v') w') :
    wpList Try.prog ops Q (o :: rest) a w := by
  obtain ⟨i0, hi, hz0, hz1, hz2⟩ := info_parts sh_info
  cases q with
  | none =>
    have hm : m = 0 := by
      rcases Nat.eq_zero_or_pos m with h0 | h0
      · exact h0
      · obtain ⟨_, _, he, _⟩ := hY.look h0
        cases he
    subst hm
    have hys : ys = [] := List.eq_nil_of_length_eq_zero hY.len
    rw [hq rfl] at hx
    refine wpList_append_own_none hgd s x 27 ho base 33 i0 2 Try.underlying27 hi v n _ hs hown.row hx ?_
    exact h v w (by rw [hys, List.append_nil]; exact hown) (Below.refl _ _)
  | some ad =>
    have hfl : (flat ys).length = m * 2 := by rw [flat_length, hY.len]
    refine wpList_append_own _ hgd s x 27 ho base 33 i0 (.agg #[.int .u64 0, .int .u64 0]) 2 16 Try.underlying27 hi hz0 hz1 hz2 rfl (by decide) v n _ hs hown.row
      ad m c (flat ys) hx hfl ?_ ?_ (by unfold maxLen; omega) (by omega) hbase ?_
    · intro j u hj
      have hjl : j < (flat ys).length := by
        rcases Nat.lt_or_ge j (flat ys).length with h | h
        · exact h
        · rw [List.getElem?_eq_none h] at hj; cases hj
      rw [List.getElem?_eq_getElem hjl] at hj
      obtain ⟨b, off, he, _, hc⟩ := hY.rd.here hjl
      injection he with he
      subst he
      injection hj with hj
      rw [← hj, ← hc j hjl]
      unfold Addr.add
      by_cases h0 : j = 0
      · subst h0; rfl
      · rw [if_neg h0]
    · intro u hu
      unfold flat at hu
      obtain ⟨y, _, hy⟩ := List.mem_flatMap.1 hu
      simp only [List.mem_cons, List.not_mem_nil, or_false] at hy
      rcases hy with rfl | rfl <;> rfl
    · intro v' w' h1 h2 _
      have hb : Below base w w' := (Below.refl _ _).grown h2 hbase (fun k e => (hown.row.lt k e).1)
      refine h v' w' ⟨by rw [List.length_append, hown.len, hY.len], ?_, ?_⟩ hb
      · have e : flat (xs ++ ys) = flat xs ++ flat ys := by simp [flat]
        rw [e]; exact h1
      · intro z hz
        rcases List.mem_append.1 hz with hz | hz
        · exact hown.bd z hz
        · exact hY.bd z hz
end Go.Proofs.Ytpngkdhfjginlaa
