/-
  Slices of acts on a chain: what they read as; lists of acts that a call appends to.
-/
import Derived.Test.YtcnhgkgabddjmaaApp
namespace Go.Proofs.Ytcnhgkgabddjmaa
open Go.RowKit

/-- The cells of acts. -/
def flatA (l : List (Int × Int)) : List Value := l.flatMap fun s => [.int .i64 s.1, .int .i64 s.2]
theorem flatA_length (l : List (Int × Int)) : (flatA l).length = l.length * 2 := by
  induction l with
  | nil => rfl
  | cons a l ih => simp only [flatA, List.flatMap_cons, List.length_append, List.length_cons, List.length_nil] at *; omega
theorem flatA_snoc (l : List (Int × Int)) (s : Int × Int) : flatA (l ++ [s]) = flatA l ++ [.int .i64 s.1, .int .i64 s.2] := by simp [flatA]
/-- The i-th act. -/
def ac (l : List (Int × Int)) (i : Nat) : Int × Int := l.getD i (0, 0)
theorem ac_eq {l : List (Int × Int)} {i : Nat} (h : i < l.length) : ac l i = l[i] := by simp [ac, h]
theorem flatA_get (l : List (Int × Int)) (i : Nat) (h : i < l.length) : (flatA l)[i * 2]? = some (.int .i64 (ac l i).1) ∧ (flatA l)[i * 2 + 1]? = some (.int .i64 (ac l i).2) := by
  induction l generalizing i with
  | nil => simp at h
  | cons a l ih =>
    have e : flatA (a :: l) = .int .i64 a.1 :: .int .i64 a.2 :: flatA l := by simp [flatA]
    rw [e]
    cases i with
    | zero => exact ⟨rfl, rfl⟩
    | succ i =>
      have := ih i (by simpa using h)
      rw [show (i + 1) * 2 = i * 2 + 1 + 1 by omega]
      exact this

/-- A slice of n acts. -/
structure Ac (w : World) (p : Option Addr) (n : Nat) (l : List (Int × Int)) : Prop where
  len : l.length = n
  rd : Rd w p (flatA l)
  bd : ∀ s ∈ l, (-9223372036854775808 ≤ s.1 ∧ s.1 ≤ 9223372036854775807) ∧ -9223372036854775808 ≤ s.2 ∧ s.2 ≤ 9223372036854775807
theorem Ac.nil {w : World} {p : Option Addr} : Ac w p 0 [] := ⟨rfl, .nil, fun _ h => by cases h⟩
theorem Ac.below {w w' : World} {p : Option Addr} {n : Nat} {l : List (Int × Int)} (h : Ac w p n l) (hb : Below w.heap.size w w') : Ac w' p n l := ⟨h.len, h.rd.below hb, h.bd⟩
theorem Ac.look_bd {w : World} {p : Option Addr} {n : Nat} {l : List (Int × Int)} (h : Ac w p n l) {i : Nat} (hi : i < n) :
    (-9223372036854775808 ≤ (ac l i).1 ∧ (ac l i).1 ≤ 9223372036854775807) ∧ -9223372036854775808 ≤ (ac l i).2 ∧ (ac l i).2 ≤ 9223372036854775807 := by
  have hi' : i < l.length := by rw [h.len]; exact hi
  rw [ac_eq hi']
  exact h.bd _ (List.getElem_mem hi')
theorem Ac.look {w : World} {p : Option Addr} {n : Nat} {l : List (Int × Int)} (h : Ac w p n l) {i : Nat} (hi : i < n) :
    ∃ b off, p = some ⟨b, off, none⟩ ∧ b < w.heap.size ∧ w.cell? ⟨b, off + i * 2, none⟩ = some (.int .i64 (ac l i).1) ∧ w.cell? ⟨b, off + i * 2 + 1, none⟩ = some (.int .i64 (ac l i).2) := by
  have hi' : i < l.length := by rw [h.len]; exact hi
  obtain ⟨h1, h2⟩ := flatA_get l i hi'
  obtain ⟨b, off, hp, hb, hc⟩ := h.rd.here (i := i * 2) (by rw [flatA_length]; omega)
  refine ⟨b, off, hp, hb, ?_, ?_⟩
  · have := hc (i * 2) (by rw [flatA_length]; omega)
    rw [this]
    rw [List.getElem?_eq_getElem (by rw [flatA_length]; omega)] at h1
    exact h1
  · have := hc (i * 2 + 1) (by rw [flatA_length]; omega)
    rw [Nat.add_assoc, this]
    rw [List.getElem?_eq_getElem (by rw [flatA_length]; omega)] at h2
    exact h2
theorem Ac.cell {w : World} {b off n : Nat} {l : List (Int × Int)} (h : Ac w (some ⟨b, off, none⟩) n l) {i : Nat} (hi : i < n) :
    w.cell? ⟨b, off + i * 2, none⟩ = some (.int .i64 (ac l i).1) ∧ w.cell? ⟨b, off + i * 2 + 1, none⟩ = some (.int .i64 (ac l i).2) := by
  obtain ⟨b', off', he, _, hc⟩ := h.look hi
  injection he with he
  injection he with h1 h2
  subst h1; subst h2
  exact hc

theorem flatA_drop (l : List (Int × Int)) (k : Nat) : (flatA l).drop (k * 2) = flatA (l.drop k) := by
  induction k generalizing l with
  | zero => simp
  | succ k ih => cases l with
    | nil => simp [flatA]
    | cons a l =>
      have e : flatA (a :: l) = .int .i64 a.1 :: .int .i64 a.2 :: flatA l := by simp [flatA]
      rw [e, show (k + 1) * 2 = k * 2 + 1 + 1 by omega, List.drop_succ_cons, List.drop_succ_cons, ih, List.drop_succ_cons]
theorem Ac.drop {w : World} {b off n : Nat} {l : List (Int × Int)} (h : Ac w (some ⟨b, off, none⟩) n l) (k : Nat) (_hk : k ≤ n) : Ac w (some ⟨b, off + k * 2, none⟩) (n - k) (l.drop k) := by
  refine ⟨by rw [List.length_drop, h.len], ?_, fun s hs => h.bd s (List.mem_of_mem_drop hs)⟩
  rcases h.rd with h1 | ⟨b', off', he, hc⟩
  · refine .inl ?_
    rw [← flatA_drop, h1, List.drop_nil]
  · injection he with he
    injection he with h1 h2
    subst h1; subst h2
    refine .inr ⟨_, _, rfl, fun i hi => ?_⟩
    have hi' : k * 2 + i < (flatA l).length := by
      rw [← flatA_drop, List.length_drop] at hi; omega
    have := hc (k * 2 + i) hi'
    rw [Nat.add_assoc, this]
    congr 1
    simp [← flatA_drop]
/-- A list of acts of the call's own. -/
structure OwnAc (w : World) (base : Nat) (v : Value) (n : Nat) (l : List (Int × Int)) : Prop where
  len : l.length = n
  row : w.ownsRow base 51 2 v n (flatA l)
  bd : ∀ s ∈ l, (-9223372036854775808 ≤ s.1 ∧ s.1 ≤ 9223372036854775807) ∧ -9223372036854775808 ≤ s.2 ∧ s.2 ≤ 9223372036854775807
theorem OwnAc.nil (w : World) (base : Nat) : OwnAc w base (.slice none 0 0) 0 [] := ⟨rfl, World.ownsRow_nil w base _ 2, fun _ h => by cases h⟩
theorem OwnAc.below {w w' : World} {base : Nat} {v : Value} {n : Nat} {l : List (Int × Int)} (h : OwnAc w base v n l) (hb : Below w.heap.size w w') : OwnAc w' base v n l :=
  ⟨h.len, h.row.kept (row := none) ⟨hb.os, hb.tape, hb.output, hb.size, fun i hi _ => hb.block i hi⟩ (by cases hv : v.ownBlock <;> simp), h.bd⟩
theorem OwnAc.weaken {w : World} {B B' : Nat} {v : Value} {n : Nat} {l : List (Int × Int)} (h : OwnAc w B' v n l) (hB : B ≤ B') : OwnAc w B v n l :=
  ⟨h.len, ⟨h.row.1, by
    rcases h.row.2 with h1 | ⟨g, cap, cur, hv, hg, hr⟩
    · exact .inl h1
    · exact .inr ⟨g, cap, cur, hv, Nat.le_trans hB hg, hr⟩⟩, h.bd⟩
theorem OwnAc.u {w : World} {base : Nat} {v : Value} {n : Nat} {l : List (Int × Int)} (h : OwnAc w base v n l) : ∃ p c, v = .slice p n c ∧ n ≤ c ∧ Ac w p n l := by
  rcases h.row.2 with ⟨hv, hn⟩ | ⟨g, cap, cur, hv, _, hg, hnc, _, hcs, htake⟩
  · refine ⟨none, 0, by rw [hv, hn], by omega, ?_⟩
    have hx : l = [] := List.eq_nil_of_length_eq_zero (by rw [h.len, hn])
    rw [hx, hn]; exact Ac.nil
  · refine ⟨some ⟨g, 0, none⟩, cap, hv, hnc, h.len, ?_, h.bd⟩
    refine .inr ⟨g, 0, rfl, fun i hi => ?_⟩
    have : (cur.toList.take (n * 2))[i]? = some (flatA l)[i] := by rw [htake]; exact List.getElem?_eq_getElem hi
    rw [List.getElem?_take] at this
    split at this
    · simp [World.cell?, hg]
      simpa using this
    · cases this

theorem ac_info : (Try.prog.info? 51).map (fun i => (i.zero, i.size, i.bytes)) = some (some (.agg #[.int .i64 0, .int .i64 0]), 2, 16) := by kernel_rfl

/-- append(out, s). -/
theorem app_ac {ops : Array Oper} {rest : List Oper} {o : Oper} {a : Act} {Q : Exit → Act → World → Prop} (hgd : o.guard = none) (s x : Operand)
    (ho : o.op = .call { callee := .builtin .append, args := #[s, x], argTypes := #[48, 48] }) {base : Nat} {v : Value} {n : Nat} {l : List (Int × Int)} {W : World} {y z : Int}
    (hown : OwnAc W base v n l) (hs : a.eval s = v) (hx : a.eval x = .slice (some ⟨W.heap.size, 0, none⟩) 1 1) (hy : (-9223372036854775808 ≤ y ∧ y ≤ 9223372036854775807) ∧ -9223372036854775808 ≤ z ∧ z ≤ 9223372036854775807) (hn : n ≤ 4398046511104) (hbase : base ≤ W.heap.size)
    (h : ∀ v' w', OwnAc w' base v' (n + 1) (l ++ [(y, z)]) → Below base W w' → wpList Try.prog ops Q rest (a.put o.dst v') w') :
    wpList Try.prog ops Q (o :: rest) a (W.alloc (.cells #[.int .i64 y, .int .i64 z] 51)) := by
  obtain ⟨i0, hi, hz0, hz1, hz2⟩ := info_parts ac_info
  have hb0 : Below W.heap.size W (W.alloc (.cells #[.int .i64 y, .int .i64 z] 51)) := (Below.refl _ _).alloc (Nat.le_refl _) _
  have hown' := hown.below hb0
  refine wpList_append_own _ hgd s x 48 ho base 51 i0 (.agg #[.int .i64 0, .int .i64 0]) 2 16 Try.underlying48 hi hz0 hz1 hz2 rfl (by decide) v n _ hs hown'.row
    ⟨W.heap.size, 0, none⟩ 1 1 [.int .i64 y, .int .i64 z] hx rfl ?_ (by simp [Value.oneCell']) (by unfold maxLen; omega) (by omega) (by simp; omega) ?_
  · intro j u hj
    have hA := Arr.new W 51 [.int .i64 y, .int .i64 z]
    rcases j with _ | _ | j
    · simp only [List.getElem?_cons_zero, Option.some.injEq] at hj
      subst hj
      exact hA.cell (i := 0) (by simp)
    · simp only [List.getElem?_cons_succ, List.getElem?_cons_zero, Option.some.injEq] at hj
      subst hj
      exact hA.cell (i := 1) (by simp)
    · simp at hj
  · intro v' w' h1 h2 _
    have hb : Below base (W.alloc (.cells #[.int .i64 y, .int .i64 z] 51)) w' := (Below.refl _ _).grown h2 (by simp; omega) (fun k e => (hown'.row.lt k e).1)
    refine h v' w' ⟨by rw [List.length_append, hown.len]; rfl, by rw [flatA_snoc]; exact h1, ?_⟩ ((hb0.mono hbase).trans hb)
    intro t ht
    rcases List.mem_append.1 ht with ht | ht
    · exact hown.bd t ht
    · rw [List.mem_singleton] at ht; subst ht; exact hy
end Go.Proofs.Ytcnhgkgabddjmaa
