/-
  Three lists of the call's own beside each other; that there is what only one of two has.
-/
import Derived.Test.YtelnhpcehmdffaaGh
import Derived.Deep.AppendLies
namespace Go.Proofs.Ytelnhpcehmdffaa
open Go.RowKit
attribute [local go_sem] T_V

/-- Two lists in two blocks. -/
def Apart2 (x y : Value) : Prop := ∀ g, x.ownBlock = some g → y.ownBlock ≠ some g
theorem Apart2.symm {x y : Value} (h : Apart2 x y) : Apart2 y x := fun g h1 h2 => h g h2 h1
theorem Apart2.nil (y : Value) : Apart2 (.slice none 0 0) y := fun g h => by cases h
/-- append(out, y), telling what grew. -/
theorem app_one_g {ops : Array Oper} {rest : List Oper} {o : Oper} {a : Act} {Q : Exit → Act → World → Prop} (hgd : o.guard = none) (s x : Operand)
    (ho : o.op = .call { callee := .builtin .append, args := #[s, x], argTypes := #[22, 22] }) {base : Nat} {v : Value} {n : Nat} {xs : List Int} {W : World} {y : Int}
    (hown : Own W base v n xs) (hs : a.eval s = v) (hx : a.eval x = .slice (some ⟨W.heap.size, 0, none⟩) 1 1) (hy : 0 ≤ y ∧ y < 18446744073709551616) (hn : n ≤ 8796093022208) (hbase : base ≤ W.heap.size)
    (h : ∀ v' w', Own w' base v' (n + 1) (xs ++ [y]) → Below base W w' → (∀ u m us, Own W base u m us → Apart2 v u → Own w' base u m us ∧ Apart2 v' u) → wpList Try.prog ops Q rest (a.put o.dst v') w') :
    wpList Try.prog ops Q (o :: rest) a (W.alloc (.cells #[.int .u64 y] 40)) := by
  obtain ⟨i0, hi, hz0, hz1, hz2⟩ := info_parts u64_info
  have hb0 : Below W.heap.size W (W.alloc (.cells #[.int .u64 y] 40)) := (Below.refl _ _).alloc (Nat.le_refl _) _
  have hown' := hown.below hb0
  refine wpList_append_lies _ hgd s x 22 ho base 40 i0 (.int .u64 0) 1 8 Try.underlying22 hi hz0 hz1 hz2 rfl (by decide) v n _ hs hown'.row
    ⟨W.heap.size, 0, none⟩ 1 1 [.int .u64 y] hx rfl ?_ (by simp [Value.oneCell']) (by decide) (by unfold maxLen; omega) (by omega) (by simp; omega) _ rfl ?_
  · intro j u hj
    cases j with
    | zero =>
      simp only [List.getElem?_cons_zero, Option.some.injEq] at hj
      subst hj
      exact (Arr.new W 40 [.int .u64 y]).cell (i := 0) (by simp)
    | succ j => simp at hj
  · intro g cap w' h1 h2 h3 h4
    have hb : Below base (W.alloc (.cells #[.int .u64 y] 40)) w' := (Below.refl _ _).grown h2 (by simp; omega) (fun k e => (hown'.row.lt k e).1)
    refine h _ w' ⟨by rw [List.length_append, hown.len]; rfl, by rw [List.map_append]; exact h1, ?_⟩ ((hb0.mono hbase).trans hb) fun u m us hu hap => ⟨(hu.below hb0).far h2 ?_, fun g' e e2 => ?_⟩
    · intro z hz
      rcases List.mem_append.1 hz with hz | hz
      · exact hown.bd z hz
      · rw [List.mem_singleton] at hz; subst hz; exact hy
    · cases e : u.ownBlock with
      | none => exact .inl rfl
      | some g2 => exact .inr fun e2 => hap g2 e2.symm e
    · simp only [Value.ownBlock, Option.some.injEq] at e
      subst e
      rcases h3 with h3 | h3
      · exact hap g h3 e2
      · have := (hu.lt e2).2
        rw [World.size_alloc] at h3
        omega
theorem first_ge (P : Nat → Prop) : ∀ m : Nat, ∃ k, k ≤ m ∧ (∀ j, j < k → P j) ∧ (k < m → ¬ P k)
  | 0 => ⟨0, Nat.le_refl _, fun j h => by omega, fun h => by omega⟩
  | m + 1 => by
    obtain ⟨k, h1, h2, h3⟩ := first_ge P m
    by_cases hk : k < m
    · exact ⟨k, by omega, h2, fun _ => h3 hk⟩
    · obtain rfl : k = m := by omega
      by_cases hp : P k
      · exact ⟨k + 1, by omega, fun j hj => by
          by_cases e : j = k
          · rw [e]; exact hp
          · exact h2 j (by omega), fun h => by omega⟩
      · exact ⟨k, by omega, h2, fun _ => hp⟩
theorem only_ex {L : List F} (hd : L.Nodup) (M : List F) : ∃ S, OnlyOf L M S := by
  have h : ∀ i, i ≤ L.length → ∃ S, OnlySt L M i S := by
    intro i
    induction i with
    | zero => exact fun _ => ⟨[], OnlySt.start L M⟩
    | succ i ih =>
      intro hi
      obtain ⟨S, hS⟩ := ih (by omega)
      by_cases hm : L[i] ∈ M
      · exact ⟨S, hS.skip (by omega) hm⟩
      · obtain ⟨k, h1, h2, h3⟩ := first_ge (fun j => V (coef S j) < V L[i]) S.length
        exact ⟨_, hS.more (by omega) hm h1 h2 fun hk => hS.next hd (by omega) hk (h3 hk)⟩
  obtain ⟨S, hS⟩ := h L.length (Nat.le_refl _)
  exact ⟨S, hS.done (Nat.le_refl _)⟩
/-- What the one, and the other one, has, of some. -/
structure Parts (A B C : List F) : Prop where
  nd : C.Nodup
  bd : ∀ x, x ∈ C → 1 ≤ V x ∧ V x ≤ 1152921504606846976
  na : A.Nodup
  nb : B.Nodup
  sa : ∀ x, x ∈ A → x ∈ C
  sb : ∀ x, x ∈ B → x ∈ C
theorem Parts.nil : Parts [] [] [] := ⟨List.nodup_nil, fun _ h => (by cases h), List.nodup_nil, List.nodup_nil, fun _ h => (by cases h), fun _ h => (by cases h)⟩
theorem nodup_snoc {L : List F} {x : F} (h : L.Nodup) (hx : x ∉ L) : (L ++ [x]).Nodup := by
  have := addS_nodup h x
  rwa [addS_out hx] at this
theorem Parts.more {A B C : List F} (h : Parts A B C) {x : F} (hx : x ∉ C) (hb : 1 ≤ V x ∧ V x ≤ 1152921504606846976) (a b : Bool) : Parts (if a then A ++ [x] else A) (if b then B ++ [x] else B) (C ++ [x]) := by
  refine ⟨nodup_snoc h.nd hx, fun y hy => ?_, ?_, ?_, fun y hy => ?_, fun y hy => ?_⟩
  · rcases List.mem_append.1 hy with hy | hy
    · exact h.bd y hy
    · rw [List.mem_singleton] at hy; rw [hy]; exact hb
  · cases a
    · exact h.na
    · exact nodup_snoc h.na fun hm => hx (h.sa x hm)
  · cases b
    · exact h.nb
    · exact nodup_snoc h.nb fun hm => hx (h.sb x hm)
  · cases a
    · exact List.mem_append_left _ (h.sa y hy)
    · rcases List.mem_append.1 hy with hy | hy
      · exact List.mem_append_left _ (h.sa y hy)
      · exact List.mem_append_right _ hy
  · cases b
    · exact List.mem_append_left _ (h.sb y hy)
    · rcases List.mem_append.1 hy with hy | hy
      · exact List.mem_append_left _ (h.sb y hy)
      · exact List.mem_append_right _ hy
theorem Parts.a {A B C : List F} (h : Parts A B C) : SetOk A := ⟨h.na, fun x hx => h.bd x (h.sa x hx)⟩
theorem Parts.b {A B C : List F} (h : Parts A B C) : SetOk B := ⟨h.nb, fun x hx => h.bd x (h.sb x hx)⟩
theorem Parts.few {A B C X Y : List F} (h : Parts A B C) (hX : OnlyOf A B X) (hY : OnlyOf B A Y) : X.length + Y.length ≤ C.length := by
  have hd : (X ++ Y).Nodup := List.nodup_append.2 ⟨hX.1.nodup, hY.1.nodup, fun a ha b hb e => ((hY.2 b).1 hb).2 (e ▸ ((hX.2 a).1 ha).1)⟩
  have := nodup_le (X ++ Y) C hd fun x hx => by
    rcases List.mem_append.1 hx with hx | hx
    · exact h.sa x ((hX.2 x).1 hx).1
    · exact h.sb x ((hY.2 x).1 hx).1
  rwa [List.length_append] at this
theorem OnlyOf.same {L M X Y : List F} (h : OnlyOf L M X) (k : OnlyOf L M Y) : X = Y := h.1.same k.1 fun x => by rw [h.2, k.2]
end Go.Proofs.Ytelnhpcehmdffaa
