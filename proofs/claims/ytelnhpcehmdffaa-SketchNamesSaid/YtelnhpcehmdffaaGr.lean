/-
  A region that draws its order and holds reads, and calls that only make memory; append beside another list of the call's own.
-/
import Derived.Test.YtelnhpcehmdffaaPolyD
import Derived.Test.YtelnhpcehmdffaaApp
import Derived.Deep.QuietTactic
import Derived.BigQuiet
import Derived.Maps.AppendAt
namespace Go.Proofs.Ytelnhpcehmdffaa
open Go.RowKit

/-- A world in which all that was there stands as it stood. -/
structure GrIn (w : World) where
  at_ : World
  gr : Gr w at_
theorem cells_in {w : World} {a : Addr} {v : Value} (h : w.cell? a = some v) (x : GrIn w) : x.at_.cell? a = some v := x.gr.cell h
instance (w : World) : Nonempty (GrIn w) := ⟨⟨w, Below.refl _ _⟩⟩
theorem in_gr {w : World} (x : GrIn w) : (∃ y : GrIn w, x.at_ = y.at_) = True := eq_true ⟨x, rfl⟩
/-- A region of reads, and of calls that make memory, walked once in the text's order, cheaply. -/
theorem wp_region_gr {P : Program} {id : Nat} {Q : Exit → Act → World → Prop} {a : Act} {w : World} {l : List Oper} (hm : P.follows .mixedOrders = true) (hB : Region.lexB .any l.toArray = true)
    (h : wpQuiet P l.toArray (fun W => ∃ x : GrIn w, W = x.at_) (fun a' => ∀ w', (∃ x : GrIn w, w' = x.at_) → Q .normal a' w') l a) : (Code.region id l.toArray true).wp P Q a w :=
  wp_region_quiet (C := fun W => ∃ x : GrIn w, W = x.at_) hm hB ⟨⟨_, Gr.start w⟩, rfl⟩ (by simpa using h)

/-- Two lists in unlike blocks. -/
def Sep (a b : Value) : Prop := ∀ g, a.ownBlock = some g → b.ownBlock ≠ some g
theorem Sep.nil {v : Value} : Sep (.slice none 0 0) v := fun g h => (by simp [Value.ownBlock] at h)
theorem Sep.symm {a b : Value} (h : Sep a b) : Sep b a := fun g h1 h2 => h g h2 h1
theorem Sep.far {a b : Value} (h : Sep a b) : b.ownBlock = none ∨ b.ownBlock ≠ a.ownBlock := by
  cases h7 : b.ownBlock with
  | none => exact .inl rfl
  | some g => exact .inr fun e => h g e.symm h7
/-- append(out, y) beside another list. -/
theorem app_one2 {ops : Array Oper} {rest : List Oper} {o : Oper} {a : Act} {Q : Exit → Act → World → Prop} (hgd : o.guard = none) (s x : Operand)
    (ho : o.op = .call { callee := .builtin .append, args := #[s, x], argTypes := #[22, 22] }) {base : Nat} {v yv : Value} {n m : Nat} {xs ys : List Int} {W : World} {y : Int}
    (hown : Own W base v n xs) (hY : Own W base yv m ys) (hsep : Sep v yv) (hs : a.eval s = v) (hx : a.eval x = .slice (some ⟨W.heap.size, 0, none⟩) 1 1) (hy : 0 ≤ y ∧ y < 18446744073709551616) (hn : n ≤ 8796093022208) (hbase : base ≤ W.heap.size)
    (h : ∀ v' w', Own w' base v' (n + 1) (xs ++ [y]) → Own w' base yv m ys → Sep v' yv → Below base W w' → wpList Try.prog ops Q rest (a.put o.dst v') w') :
    wpList Try.prog ops Q (o :: rest) a (W.alloc (.cells #[.int .u64 y] 40)) := by
  obtain ⟨i0, hi, hz0, hz1, hz2⟩ := info_parts u64_info
  have hb0 : Below W.heap.size W (W.alloc (.cells #[.int .u64 y] 40)) := (Below.refl _ _).alloc (Nat.le_refl _) _
  have hown' := hown.below hb0
  have hY' := hY.below hb0
  refine wpList_append_own_at _ hgd s x 22 ho base 40 i0 (.int .u64 0) 1 8 Try.underlying22 hi hz0 hz1 hz2 rfl (by decide) v n _ hs hown'.row
    ⟨W.heap.size, 0, none⟩ 1 1 [.int .u64 y] hx rfl ?_ (by simp [Value.oneCell']) (by unfold maxLen; omega) (by omega) (by simp; omega) ?_
  · intro j u hj
    cases j with
    | zero =>
      simp only [List.getElem?_cons_zero, Option.some.injEq] at hj
      subst hj
      exact (Arr.new W 40 [.int .u64 y]).cell (i := 0) (by simp)
    | succ j => simp at hj
  · intro v' w' h1 h2 _ h4
    have hb : Below base (W.alloc (.cells #[.int .u64 y] 40)) w' := (Below.refl _ _).grown h2 (by simp; omega) (fun k e => (hown'.row.lt k e).1)
    refine h v' w' ⟨by rw [List.length_append, hown.len]; rfl, by rw [List.map_append]; exact h1, ?_⟩ (hY'.far h2 hsep.far) ?_ ((hb0.mono hbase).trans hb)
    · intro z hz
      rcases List.mem_append.1 hz with hz | hz
      · exact hown.bd z hz
      · rw [List.mem_singleton] at hz; subst hz; exact hy
    · intro g hg hgy
      rcases h4 with h4 | h4
      · exact hsep g (h4.symm.trans hg) hgy
      · have := (hY.lt hgy).2
        rw [h4] at hg
        injection hg with hg
        simp at hg
        omega
end Go.Proofs.Ytelnhpcehmdffaa
