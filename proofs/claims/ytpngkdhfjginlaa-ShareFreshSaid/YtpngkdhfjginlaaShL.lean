/-
  Shares (12): huddleref09.Some: the shares at the places that are taken.
-/
import Derived.Test.YtpngkdhfjginlaaShK
import Derived.Test.YtpngkdhfjginlaaShJ
namespace Go.Proofs.Ytpngkdhfjginlaa
open Go.RowKit
attribute [local go_sem] T_V

/-- A list of signed numbers of the call's own, in a block from base on. -/
structure OwnI (w : World) (base : Nat) (v : Value) (n : Nat) (xs : List Int) : Prop where
  len : xs.length = n
  row : w.ownsRow base 3 1 v n (xs.map (Value.int .i64))
  bd : ∀ x ∈ xs, -9223372036854775808 ≤ x ∧ x ≤ 9223372036854775807
theorem OwnI.nil (w : World) (base : Nat) : OwnI w base (.slice none 0 0) 0 [] := ⟨rfl, World.ownsRow_nil w base _ 1, fun _ h => by cases h⟩
theorem OwnI.below {w w' : World} {base : Nat} {v : Value} {n : Nat} {xs : List Int} (h : OwnI w base v n xs) (hb : Below w.heap.size w w') : OwnI w' base v n xs :=
  ⟨h.len, h.row.kept (row := none) ⟨hb.os, hb.tape, hb.output, hb.size, fun i hi _ => hb.block i hi⟩ (by cases hv : v.ownBlock <;> simp), h.bd⟩
theorem OwnI.far {w w' : World} {base : Nat} {v : Value} {n : Nat} {xs : List Int} (h : OwnI w base v n xs) {row : Option Nat} (hg : w.grownBy w' row) (hne : v.ownBlock = none ∨ v.ownBlock ≠ row) : OwnI w' base v n xs :=
  ⟨h.len, h.row.kept hg hne, h.bd⟩
theorem OwnI.lt {w : World} {base : Nat} {v : Value} {n : Nat} {xs : List Int} (h : OwnI w base v n xs) {g : Nat} (hg : v.ownBlock = some g) : base ≤ g ∧ g < w.heap.size := h.row.lt g hg
theorem OwnI.u {w : World} {base : Nat} {v : Value} {n : Nat} {xs : List Int} (h : OwnI w base v n xs) : ∃ p c, v = .slice p n c ∧ n ≤ c ∧ UI w p n xs := by
  rcases h.row.2 with ⟨hv, hn⟩ | ⟨g, cap, cur, hv, _, hg, hnc, _, hcs, htake⟩
  · refine ⟨none, 0, by rw [hv, hn], by omega, ?_⟩
    have hx : xs = [] := List.eq_nil_of_length_eq_zero (by rw [h.len, hn])
    rw [hx, hn]; exact ⟨rfl, .nil, fun _ h => by cases h⟩
  · refine ⟨some ⟨g, 0, none⟩, cap, hv, hnc, h.len, ?_, h.bd⟩
    refine .inr ⟨g, 0, rfl, fun i hi => ?_⟩
    have : (cur.toList.take (n * 1))[i]? = some (xs.map (Value.int .i64))[i] := by rw [htake]; exact List.getElem?_eq_getElem hi
    rw [List.getElem?_take] at this
    split at this
    · simp [World.cell?, hg]
      simpa using this
    · cases this
theorem OwnS.far {w w' : World} {base : Nat} {v : Value} {n : Nat} {l : List (Int × Int)} (h : OwnS w base v n l) {row : Option Nat} (hg : w.grownBy w' row) (hne : v.ownBlock = none ∨ v.ownBlock ≠ row) : OwnS w' base v n l :=
  ⟨h.len, h.row.kept hg hne, h.bd⟩
theorem OwnS.lt {w : World} {base : Nat} {v : Value} {n : Nat} {l : List (Int × Int)} (h : OwnS w base v n l) {g : Nat} (hg : v.ownBlock = some g) : base ≤ g ∧ g < w.heap.size := h.row.lt g hg

/-- Two lists lie apart. -/
def Sep (a b : Value) : Prop := ∀ g, a.ownBlock = some g → b.ownBlock ≠ some g
theorem Sep.nil {v : Value} : Sep (.slice none 0 0) v := fun g h => (by simp [Value.ownBlock] at h)
theorem Sep.symm {a b : Value} (h : Sep a b) : Sep b a := fun g h1 h2 => h g h2 h1
theorem Sep.far {a b : Value} (h : Sep a b) : b.ownBlock = none ∨ b.ownBlock ≠ a.ownBlock := by
  cases h7 : b.ownBlock with
  | none => exact .inl rfl
  | some g => exact .inr fun e => h g e.symm h7
theorem int_info : (Try.prog.info? 3).map (fun i => (i.zero, i.size, i.bytes)) = some (some (.int .i64 0), 1, 8) := by kernel_rfl

/-- append(had, y) beside a list of shares. -/
theorem app_int {ops : Array Oper} {rest : List Oper} {o : Oper} {a : Act} {Q : Exit → Act → World → Prop} (hgd : o.guard = none) (s x : Operand)
    (ho : o.op = .call { callee := .builtin .append, args := #[s, x], argTypes := #[31, 31] }) {base : Nat} {v yv : Value} {n m : Nat} {xs : List Int} {l : List (Int × Int)} {W : World} {y : Int}
    (hown : OwnI W base v n xs) (hY : OwnS W base yv m l) (hsep : Sep v yv) (hs : a.eval s = v) (hx : a.eval x = .slice (some ⟨W.heap.size, 0, none⟩) 1 1) (hy : -9223372036854775808 ≤ y ∧ y ≤ 9223372036854775807) (hn : n ≤ 8796093022208) (hbase : base ≤ W.heap.size)
    (h : ∀ v' w', OwnI w' base v' (n + 1) (xs ++ [y]) → OwnS w' base yv m l → Sep v' yv → Below base W w' → wpList Try.prog ops Q rest (a.put o.dst v') w') :
    wpList Try.prog ops Q (o :: rest) a (W.alloc (.cells #[.int .i64 y] 3)) := by
  obtain ⟨i0, hi, hz0, hz1, hz2⟩ := info_parts int_info
  have hb0 : Below W.heap.size W (W.alloc (.cells #[.int .i64 y] 3)) := (Below.refl _ _).alloc (Nat.le_refl _) _
  have hown' := hown.below hb0
  have hY' := hY.below hb0
  refine wpList_append_own_at _ hgd s x 31 ho base 3 i0 (.int .i64 0) 1 8 Try.underlying31 hi hz0 hz1 hz2 rfl (by decide) v n _ hs hown'.row
    ⟨W.heap.size, 0, none⟩ 1 1 [.int .i64 y] hx rfl ?_ (by simp [Value.oneCell']) (by unfold maxLen; omega) (by omega) (by simp; omega) ?_
  · intro j u hj
    cases j with
    | zero =>
      simp only [List.getElem?_cons_zero, Option.some.injEq] at hj
      subst hj
      exact (Arr.new W 3 [.int .i64 y]).cell (i := 0) (by simp)
    | succ j => simp at hj
  · intro v' w' h1 h2 _ h4
    have hb : Below base (W.alloc (.cells #[.int .i64 y] 3)) w' := (Below.refl _ _).grown h2 (by simp; omega) (fun k e => (hown'.row.lt k e).1)
    refine h v' w' ⟨by rw [List.length_append, hown.len]; rfl, by rw [List.map_append]; exact h1, ?_⟩ (hY'.far h2 hsep.far) ?_ ((hb0.mono hbase).trans hb)
    · intro z hz
      rcases List.mem_append.1 hz with hz | hz
      · exact hown.bd z hz
      · rw [List.mem_singleton] at hz; subst hz; exact hy
    · intro g hg hgy
      rcases h4 with h4 | h4
      · exact hsep g (h4.symm.trans hg) hgy
      · have := (hY.lt hgy).2
        rw [h4] at hg
        injection hg with hg
        simp at hg
        omega

/-- append(out, s) beside a list of numbers. -/
theorem app_sh2 {ops : Array Oper} {rest : List Oper} {o : Oper} {a : Act} {Q : Exit → Act → World → Prop} (hgd : o.guard = none) (s x : Operand)
    (ho : o.op = .call { callee := .builtin .append, args := #[s, x], argTypes := #[27, 27] }) {base : Nat} {v yv : Value} {n m : Nat} {l : List (Int × Int)} {xs : List Int} {W : World} {y z : Int}
    (hown : OwnS W base v n l) (hY : OwnI W base yv m xs) (hsep : Sep v yv) (hs : a.eval s = v) (hx : a.eval x = .slice (some ⟨W.heap.size, 0, none⟩) 1 1) (hy : (0 ≤ y ∧ y < 18446744073709551616) ∧ 0 ≤ z ∧ z < 18446744073709551616) (hn : n ≤ 4398046511104) (hbase : base ≤ W.heap.size)
    (h : ∀ v' w', OwnS w' base v' (n + 1) (l ++ [(y, z)]) → OwnI w' base yv m xs → Sep v' yv → Below base W w' → wpList Try.prog ops Q rest (a.put o.dst v') w') :
    wpList Try.prog ops Q (o :: rest) a (W.alloc (.cells #[.int .u64 y, .int .u64 z] 33)) := by
  obtain ⟨i0, hi, hz0, hz1, hz2⟩ := info_parts sh_info
  have hb0 : Below W.heap.size W (W.alloc (.cells #[.int .u64 y, .int .u64 z] 33)) := (Below.refl _ _).alloc (Nat.le_refl _) _
  have hown' := hown.below hb0
  have hY' := hY.below hb0
  refine wpList_append_own_at _ hgd s x 27 ho base 33 i0 (.agg #[.int .u64 0, .int .u64 0]) 2 16 Try.underlying27 hi hz0 hz1 hz2 rfl (by decide) v n _ hs hown'.row
    ⟨W.heap.size, 0, none⟩ 1 1 [.int .u64 y, .int .u64 z] hx rfl ?_ (by simp [Value.oneCell']) (by unfold maxLen; omega) (by omega) (by simp; omega) ?_
  · intro j u hj
    have hA := Arr.new W 33 [.int .u64 y, .int .u64 z]
    rcases j with _ | _ | j
    · simp only [List.getElem?_cons_zero, Option.some.injEq] at hj
      subst hj
      exact hA.cell (i := 0) (by simp)
    · simp only [List.getElem?_cons_succ, List.getElem?_cons_zero, Option.some.injEq] at hj
      subst hj
      exact hA.cell (i := 1) (by simp)
    · simp at hj
  · intro v' w' h1 h2 _ h4
    have hb : Below base (W.alloc (.cells #[.int .u64 y, .int .u64 z] 33)) w' := (Below.refl _ _).grown h2 (by simp; omega) (fun k e => (hown'.row.lt k e).1)
    refine h v' w' ⟨by rw [List.length_append, hown.len]; rfl, by rw [flat_snoc]; exact h1, ?_⟩ (hY'.far h2 hsep.far) ?_ ((hb0.mono hbase).trans hb)
    · intro t ht
      rcases List.mem_append.1 ht with ht | ht
      · exact hown.bd t ht
      · rw [List.mem_singleton] at ht; subst ht; exact hy
    · intro g hg hgy
      rcases h4 with h4 | h4
      · exact hsep g (h4.symm.trans hg) hgy
      · have := (hY.lt hgy).2
        rw [h4] at hg
        injection hg with hg
        simp at hg
        omega

/-- What is taken of shares at places. -/
def takes (l : List (Int × Int)) (ks : List Nat) : List (Int × Int) := ks.map (sh l)
theorem takes_snoc (l : List (Int × Int)) (ks : List Nat) (k : Nat) : takes l (ks ++ [k]) = takes l ks ++ [((sh l k).1, (sh l k).2)] := by simp [takes]
def ints (ks : List Nat) : List Int := ks.map fun k : Nat => (k : Int)
theorem ints_snoc (ks : List Nat) (k : Nat) : ints (ks ++ [k]) = ints ks ++ [(k : Int)] := by simp [ints]
theorem ints_contains (ks : List Nat) (k : Nat) : (ints ks).contains (k : Int) = decide (k ∈ ks) := by
  rw [List.contains_eq_mem]
  congr 1
  unfold ints
  rw [List.mem_map, eq_iff_iff]
  constructor
  · rintro ⟨j, hj, he⟩
    have : j = k := by omega
    rw [← this]; exact hj
  · intro h; exact ⟨k, h, rfl⟩

/-- One step of picking. -/
theorem picks_step {n most : Nat} {xs : List Int} {k : Nat} {had : List Nat} (hk : k < xs.length) (h1 : had.length < most) (h0 : 0 < n) : picks n most (xs.drop k) had = picks n most (xs.drop (k + 1)) (pickOne n had (nth xs k)) := by
  rw [List.drop_eq_getElem_cons hk]
  conv => lhs; unfold picks
  rw [if_pos ⟨h1, h0⟩, nth_eq hk]
theorem picks_stop {n most : Nat} {xs : List Int} {k : Nat} {had : List Nat} (h : ¬ (k < xs.length ∧ had.length < most ∧ 0 < n)) : picks n most (xs.drop k) had = had := by
  by_cases hk : k < xs.length
  · rw [List.drop_eq_getElem_cons hk]
    unfold picks
    rw [if_neg (fun h' => h ⟨hk, h'⟩)]
  · rw [List.drop_eq_nil_of_le (by omega)]; rfl
theorem fills_step {n most : Nat} {had : List Nat} {k : Nat} {out : List Nat} (hk : k < n) (h1 : out.length < most) : fills most had ((List.range n).drop k) out = fills most had ((List.range n).drop (k + 1)) (if k ∈ had then out else out ++ [k]) := by
  rw [List.drop_eq_getElem_cons (by simpa using hk)]
  conv => lhs; unfold fills
  rw [if_pos h1, List.getElem_range]
theorem fills_stop {n most : Nat} {had : List Nat} {k : Nat} {out : List Nat} (h : ¬ (k < n ∧ out.length < most)) : fills most had ((List.range n).drop k) out = out := by
  by_cases hk : k < n
  · rw [List.drop_eq_getElem_cons (by simpa using hk)]
    unfold fills
    rw [if_neg (fun h' => h ⟨hk, h'⟩)]
  · rw [List.drop_eq_nil_of_le (by simpa using hk)]; rfl
end Go.Proofs.Ytpngkdhfjginlaa
