/-
  The document's chain (2): two lists that grow side by side; Key.
-/
import Derived.Test.YtcnhgkgabddjmaaChW
import Derived.Maps.AppendAt
namespace Go.Proofs.Ytcnhgkgabddjmaa
open Go.RowKit Go.Maps

/-- Two lists in unlike blocks. -/
def Sep (a b : Value) : Prop := ∀ g, a.ownBlock = some g → b.ownBlock ≠ some g
theorem Sep.nil {v : Value} : Sep (.slice none 0 0) v := fun g h => (by simp [Value.ownBlock] at h)
theorem Sep.symm {a b : Value} (h : Sep a b) : Sep b a := fun g h1 h2 => h g h2 h1
theorem Sep.far {a b : Value} (h : Sep a b) : b.ownBlock = none ∨ b.ownBlock ≠ a.ownBlock := by
  cases h7 : b.ownBlock with
  | none => exact .inl rfl
  | some g => exact .inr fun e => h g e.symm h7
/-- append(out, y) beside another list. -/
theorem app_u2 {ops : Array Oper} {rest : List Oper} {o : Oper} {a : Act} {Q : Exit → Act → World → Prop} (hgd : o.guard = none) (s x : Operand)
    (ho : o.op = .call { callee := .builtin .append, args := #[s, x], argTypes := #[27, 27] }) {base : Nat} {v yv : Value} {n m : Nat} {xs ys : List Int} {W : World} {y : Int}
    (hown : Own W base v n xs) (hY : OwnI W base yv m ys) (hsep : Sep v yv) (hs : a.eval s = v) (hx : a.eval x = .slice (some ⟨W.heap.size, 0, none⟩) 1 1) (hy : 0 ≤ y ∧ y < 18446744073709551616) (hn : n ≤ 8796093022208) (hbase : base ≤ W.heap.size)
    (h : ∀ v' w', Own w' base v' (n + 1) (xs ++ [y]) → OwnI w' base yv m ys → Sep v' yv → Below base W w' → wpList Try.prog ops Q rest (a.put o.dst v') w') :
    wpList Try.prog ops Q (o :: rest) a (W.alloc (.cells #[.int .u64 y] 22)) := by
  obtain ⟨i0, hi, hz0, hz1, hz2⟩ := info_parts u64_info
  have hb0 : Below W.heap.size W (W.alloc (.cells #[.int .u64 y] 22)) := (Below.refl _ _).alloc (Nat.le_refl _) _
  have hown' := hown.below hb0
  have hY' := hY.below hb0
  refine wpList_append_own_at _ hgd s x 27 ho base 22 i0 (.int .u64 0) 1 8 Try.underlying27 hi hz0 hz1 hz2 rfl (by decide) v n _ hs hown'.row
    ⟨W.heap.size, 0, none⟩ 1 1 [.int .u64 y] hx rfl ?_ (by simp [Value.oneCell']) (by unfold maxLen; omega) (by omega) (by simp; omega) ?_
  · intro j u hj
    cases j with
    | zero =>
      simp only [List.getElem?_cons_zero, Option.some.injEq] at hj
      subst hj
      exact (Arr.new W 22 [.int .u64 y]).cell (i := 0) (by simp)
    | succ j => simp at hj
  · intro v' w' h1 h2 _ h4
    have hb : Below base (W.alloc (.cells #[.int .u64 y] 22)) w' := (Below.refl _ _).grown h2 (by simp; omega) (fun k e => (hown'.row.lt k e).1)
    refine h v' w' ⟨by rw [List.length_append, hown.len]; rfl, by rw [List.map_append]; exact h1, ?_⟩ (hY'.far h2 hsep.far) ?_ ((hb0.mono hbase).trans hb)
    · intro z hz
      rcases List.mem_append.1 hz with hz | hz
      · exact hown.bd z hz
      · rw [List.mem_singleton] at hz; subst hz; exact hy
    · intro g hg hgy
      rcases h4 with h4 | h4
      · exact hsep g (h4.symm.trans hg) hgy
      · have := (hY.lt hgy).2
        rw [h4] at hg
        injection hg with hg
        simp at hg
        omega
/-- append(out, y) beside another list. -/
theorem app_i2 {ops : Array Oper} {rest : List Oper} {o : Oper} {a : Act} {Q : Exit → Act → World → Prop} (hgd : o.guard = none) (s x : Operand)
    (ho : o.op = .call { callee := .builtin .append, args := #[s, x], argTypes := #[23, 23] }) {base : Nat} {v yv : Value} {n m : Nat} {xs ys : List Int} {W : World} {y : Int}
    (hown : OwnI W base v n xs) (hY : Own W base yv m ys) (hsep : Sep v yv) (hs : a.eval s = v) (hx : a.eval x = .slice (some ⟨W.heap.size, 0, none⟩) 1 1) (hy : -9223372036854775808 ≤ y ∧ y ≤ 9223372036854775807) (hn : n ≤ 8796093022208) (hbase : base ≤ W.heap.size)
    (h : ∀ v' w', OwnI w' base v' (n + 1) (xs ++ [y]) → Own w' base yv m ys → Sep v' yv → Below base W w' → wpList Try.prog ops Q rest (a.put o.dst v') w') :
    wpList Try.prog ops Q (o :: rest) a (W.alloc (.cells #[.int .i64 y] 3)) := by
  obtain ⟨i0, hi, hz0, hz1, hz2⟩ := info_parts int_info
  have hb0 : Below W.heap.size W (W.alloc (.cells #[.int .i64 y] 3)) := (Below.refl _ _).alloc (Nat.le_refl _) _
  have hown' := hown.below hb0
  have hY' := hY.below hb0
  refine wpList_append_own_at _ hgd s x 23 ho base 3 i0 (.int .i64 0) 1 8 Try.underlying23 hi hz0 hz1 hz2 rfl (by decide) v n _ hs hown'.row
    ⟨W.heap.size, 0, none⟩ 1 1 [.int .i64 y] hx rfl ?_ (by simp [Value.oneCell']) (by unfold maxLen; omega) (by omega) (by simp; omega) ?_
  · intro j u hj
    cases j with
    | zero =>
      simp only [List.getElem?_cons_zero, Option.some.injEq] at hj
      subst hj
      exact (Arr.new W 3 [.int .i64 y]).cell (i := 0) (by simp)
    | succ j => simp at hj
  · intro v' w' h1 h2 _ h4
    have hb : Below base (W.alloc (.cells #[.int .i64 y] 3)) w' := (Below.refl _ _).grown h2 (by simp; omega) (fun k e => (hown'.row.lt k e).1)
    refine h v' w' ⟨by rw [List.length_append, hown.len]; rfl, by rw [List.map_append]; exact h1, ?_⟩ (hY'.far h2 hsep.far) ?_ ((hb0.mono hbase).trans hb)
    · intro z hz
      rcases List.mem_append.1 hz with hz | hz
      · exact hown.bd z hz
      · rw [List.mem_singleton] at hz; subst hz; exact hy
    · intro g hg hgy
      rcases h4 with h4 | h4
      · exact hsep g (h4.symm.trans hg) hgy
      · have := (hY.lt hgy).2
        rw [h4] at hg
        injection hg with hg
        simp at hg
        omega
/-- The keys of what is kept. -/
def valsK (ks : List (Int × Int)) : List Int := ks.map Prod.snd
theorem nth_numsK {ks : List (Int × Int)} {i : Nat} (h : i < ks.length) : nth (numsK ks) i = ks[i].1 := by
  unfold numsK
  rw [nth_eq (by rw [List.length_map]; exact h), List.getElem_map]
theorem nth_valsK {ks : List (Int × Int)} {i : Nat} (h : i < ks.length) : nth (valsK ks) i = ks[i].2 := by
  unfold valsK
  rw [nth_eq (by rw [List.length_map]; exact h), List.getElem_map]
theorem dropK_snoc (ks : List (Int × Int)) (p : Int × Int) (n : Int) : dropK (ks ++ [p]) n = if p.1 = n then dropK ks n else dropK ks n ++ [p] := by
  unfold dropK
  rw [List.filter_append, List.filter_cons, List.filter_nil]
  by_cases h : p.1 = n
  · rw [if_pos h, if_neg (by simp [h]), List.append_nil]
  · rw [if_neg h, if_pos (by simp [h])]
theorem numsK_snoc (ks : List (Int × Int)) (p : Int × Int) : numsK (ks ++ [p]) = numsK ks ++ [p.1] := by unfold numsK; rw [List.map_append]; rfl
theorem valsK_snoc (ks : List (Int × Int)) (p : Int × Int) : valsK (ks ++ [p]) = valsK ks ++ [p.2] := by unfold valsK; rw [List.map_append]; rfl
theorem dropK_same {ks : List (Int × Int)} {n : Int} (h : valK ks n = none) : dropK ks n = ks := by
  unfold dropK
  refine List.filter_eq_self.2 fun p hp => ?_
  rw [bne_iff_ne]
  intro e
  unfold valK at h
  cases e2 : ks.find? (fun p => p.1 == n) with
  | none => exact absurd (List.find?_eq_none.1 e2 p hp) (by simp [e])
  | some q => rw [e2] at h; cases h
/-- Behind i keys: what was found, and which key. -/
theorem found_snoc {ks : List (Int × Int)} (hr : ks.Pairwise fun p q => p.1 < q.1) {i : Nat} (hi : i < ks.length) (n : Int) :
    (if ks[i].1 = n then some ks[i].2 else valK (ks.take i) n) = valK (ks.take (i + 1)) n := by
  rw [List.take_succ_eq_append_getElem hi]
  by_cases h : ks[i].1 = n
  · rw [if_pos h]
    have h0 : valK (ks.take i) n = none := valK_none fun p hp e => by
      obtain ⟨j, hj, e2⟩ := List.getElem_of_mem hp
      rw [List.getElem_take] at e2
      rw [List.length_take] at hj
      have := List.pairwise_iff_getElem.1 hr j i (by omega) hi (by omega)
      rw [e2] at this
      omega
    have hp : ks[i] = (n, ks[i].2) := by rw [← h]
    rw [hp, valK_snoc _ _ _ _ h0, if_pos rfl]
  · rw [if_neg h]
    unfold valK
    rw [List.find?_append]
    cases e : (ks.take i).find? (fun p => p.1 == n) with
    | some q => rfl
    | none =>
      have : [ks[i]].find? (fun p => p.1 == n) = none := by rw [List.find?_cons_of_neg (by simpa using h)]; rfl
      rw [this]; rfl
end Go.Proofs.Ytcnhgkgabddjmaa
