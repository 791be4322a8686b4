/-
  A list's rest; append of a list, as one step of a region that draws its order.
-/
import Derived.Test.YtelnhpcehmdffaaGz
namespace Go.Proofs.Ytelnhpcehmdffaa
open Go.RowKit
attribute [local go_sem] T_V

theorem slice_from {p : Option Addr} {n c : Nat} (k : Nat) (hk : k ≤ n) (hc : n ≤ c) (hp : p = none → c = 0) : ∃ q, (∀ W, (Instr.slice 22 (.slice p n c) (some (.int .i64 (k : Int))) none none).run Try.prog W = .ok (.slice q (n - k) (c - k)) W) ∧ (q = none → c - k = 0) ∧ ∀ {W xs}, U W p n xs → U W q (n - k) (xs.drop k) := by
  have run : ∀ W, (Instr.slice 22 (.slice p n c) (some (.int .i64 (k : Int))) none none).run Try.prog W = .ok (.slice (if c = k then p else p.map fun x => x.add k) (n - k) (c - k)) W := fun W => by
    have hs : (sizeOf (Try.prog.elem 22)).run Try.prog W = .ok 1 W := by kernel_rfl
    rw [run_slice_l W 22 p n c (by kernel_rfl) .i64 (k : Int) (by omega) (by omega), hs]
    show Result.ok (Value.slice (if c = (k : Int).toNat then p else p.map fun x => x.add ((k : Int).toNat * 1)) (n - (k : Int).toNat) (c - (k : Int).toNat)) W = _
    rw [Int.toNat_natCast, Nat.mul_one]
  refine ⟨_, run, fun h => ?_, fun {W xs} h => ?_⟩
  · by_cases e : c = k
    · omega
    · rw [if_neg e] at h
      cases p with
      | none => have := hp rfl; omega
      | some a => cases h
  · by_cases h0 : n - k = 0
    · rw [h0, List.drop_eq_nil_of_le (by rw [h.len]; omega)]
      exact U.nil
    · obtain ⟨b, off, rfl, _⟩ := h.look (i := k) (by omega)
      rw [if_neg (by omega)]
      have := h.drop k
      have e2 : (⟨b, off, none⟩ : Addr).add k = ⟨b, off + k, none⟩ := by
        unfold Addr.add
        by_cases h0 : k = 0
        · rw [if_pos h0, h0]; rfl
        · rw [if_neg h0]
      show U W (some ((⟨b, off, none⟩ : Addr).add k)) _ _
      rw [e2]; exact this
set_option maxRecDepth 100000 in
/-- append(out, ys...), as one step of a region that draws its order. -/
theorem app_many_step {ops : Array Oper} {o : Oper} {a : Act} {K : Act → World → Prop} {Q : Exit → Act → World → Prop} {E : Prop} (hgd : o.guard = none) (s x : Operand)
    (ho : o.op = .call { callee := .builtin .append, args := #[s, x], argTypes := #[22, 22] }) {base : Nat} {v : Value} {n m c : Nat} {q : Option Addr} {xs ys : List Int} {w : World}
    (hown : Own w base v n xs) (hs : a.eval s = v) (hx : a.eval x = .slice q m c) (hY : U w q m ys) (hq : q = none → c = 0) (hn : n + m ≤ 8796093022208) (hbase : base ≤ w.heap.size)
    (h : ∀ v' w', Own w' base v' (n + m) (xs ++ ys) → Below base w w' → K (a.put o.dst v') w') :
    if Region.wanted o (yielded ops a.tmps) = true then Oper.wp Try.prog o a w K Q else E := by
  have hw : Region.wanted o (yielded ops a.tmps) = true := by simp [Region.wanted, hgd]
  rw [if_pos hw]
  obtain ⟨i0, hi, hz0, hz1, hz2⟩ := info_parts u64_info
  cases q with
  | none =>
    have hm : m = 0 := by
      rcases Nat.eq_zero_or_pos m with h0 | h0
      · exact h0
      · obtain ⟨_, _, he, _⟩ := hY.look h0
        cases he
    subst hm
    have hys : ys = [] := List.eq_nil_of_length_eq_zero hY.len
    rw [hq rfl] at hx
    have hrun := run_append_owned_none (P := Try.prog) (w := w) base 22 o.type 40 i0 1 Try.underlying22 hi v n _ hown.row
    unfold Oper.wp
    simp [execOp, ho, resolve, invoke, builtin, hs, hx, hrun, Result.andThen]
    exact h v w (by rw [hys, List.append_nil]; exact hown) (Below.refl _ _)
  | some ad =>
    refine wp_append_own w s x 22 ho base 40 i0 (.int .u64 0) 1 8 Try.underlying22 hi hz0 hz1 hz2 rfl (by decide) v n _ hs hown.row
      ad m c (ys.map (Value.int .u64)) hx (by rw [List.length_map, hY.len]; omega) ?_ ?_ (by unfold maxLen; omega) (by omega) hbase ?_
    · intro j u hj
      rw [List.getElem?_map] at hj
      have hjl : j < ys.length := by
        rcases Nat.lt_or_ge j ys.length with h | h
        · exact h
        · rw [List.getElem?_eq_none h] at hj; cases hj
      rw [List.getElem?_eq_getElem hjl] at hj
      obtain ⟨b, off, he, _, hc, _⟩ := hY.look (i := j) (by rw [← hY.len]; exact hjl)
      injection he with he
      subst he
      simp only [Option.map_some, Option.some.injEq] at hj
      rw [← hj, ← nth_eq hjl, ← hc]
      unfold Addr.add
      by_cases h0 : j = 0
      · subst h0; rfl
      · rw [if_neg h0]
    · intro u hu
      obtain ⟨y, _, rfl⟩ := List.mem_map.1 hu
      rfl
    · intro v' w' h1 h2 _
      have hb : Below base w w' := (Below.refl _ _).grown h2 hbase (fun k e => (hown.row.lt k e).1)
      refine h v' w' ⟨by rw [List.length_append, hown.len, hY.len], by rw [List.map_append]; exact h1, ?_⟩ hb
      intro z hz
      rcases List.mem_append.1 hz with hz | hz
      · exact hown.bd z hz
      · exact hY.bd z hz
/-- A set turned round has the same values. -/
theorem turn_vals (S : List F) (k : Nat) (z : F) : valF (S.drop k ++ S.take k) z = valF S z := by
  rw [valF_app]
  conv => rhs; rw [← List.take_append_drop k S, valF_app]
  grind
theorem vals_take (S O : List F) {n m : Nat} (h : ∀ z, valF O z = valF S z) (hn : n ≤ m) : ((valsL O m).map V).take n = (valsL S n).map V := by
  have e : valsL O m = valsL S m := by
    unfold valsL
    exact List.map_congr_left fun k _ => h _
  rw [e]
  unfold valsL
  rw [← List.map_take, ← List.map_take, List.take_range, Nat.min_eq_left hn]
end Go.Proofs.Ytelnhpcehmdffaa
