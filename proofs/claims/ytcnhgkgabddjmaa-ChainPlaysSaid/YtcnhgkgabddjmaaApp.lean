/-
  Lists of numbers that a call appends to one by one: what is owned, what an append makes of it.
-/
import Derived.Test.YtcnhgkgabddjmaaProg
import Derived.Test.YtcnhgkgabddjmaaMem
import Derived.Laws.OwnMore
import Derived.OwnWalk
import Derived.Deep.AppendLies
namespace Go.Proofs.Ytcnhgkgabddjmaa
open Go.RowKit

/-- A list of numbers of the call's own, in a block from base on. -/
structure Own (w : World) (base : Nat) (v : Value) (n : Nat) (xs : List Int) : Prop where
  len : xs.length = n
  row : w.ownsRow base 22 1 v n (xs.map (Value.int .u64))
  bd : ∀ x ∈ xs, 0 ≤ x ∧ x < 18446744073709551616
theorem Own.nil (w : World) (base : Nat) : Own w base (.slice none 0 0) 0 [] := ⟨rfl, World.ownsRow_nil w base _ 1, fun _ h => by cases h⟩
theorem Own.below {w w' : World} {base : Nat} {v : Value} {n : Nat} {xs : List Int} (h : Own w base v n xs) (hb : Below w.heap.size w w') : Own w' base v n xs :=
  ⟨h.len, h.row.kept (row := none) ⟨hb.os, hb.tape, hb.output, hb.size, fun i hi _ => hb.block i hi⟩ (by cases hv : v.ownBlock <;> simp), h.bd⟩
theorem Own.u {w : World} {base : Nat} {v : Value} {n : Nat} {xs : List Int} (h : Own w base v n xs) : ∃ p c, v = .slice p n c ∧ n ≤ c ∧ U w p n xs := by
  rcases h.row.2 with ⟨hv, hn⟩ | ⟨g, cap, cur, hv, _, hg, hnc, _, hcs, htake⟩
  · refine ⟨none, 0, by rw [hv, hn], by omega, ?_⟩
    have hx : xs = [] := List.eq_nil_of_length_eq_zero (by rw [h.len, hn])
    rw [hx, hn]; exact U.nil
  · refine ⟨some ⟨g, 0, none⟩, cap, hv, hnc, h.len, ?_, h.bd⟩
    refine .inr ⟨g, 0, rfl, fun i hi => ?_⟩
    have : (cur.toList.take (n * 1))[i]? = some (xs.map (Value.int .u64))[i] := by rw [htake]; exact List.getElem?_eq_getElem hi
    rw [List.getElem?_take] at this
    split at this
    · simp [World.cell?, hg]
      simpa using this
    · cases this

theorem Own.u' {w : World} {base : Nat} {v : Value} {n : Nat} {xs : List Int} (h : Own w base v n xs) : ∃ p c, v = .slice p n c ∧ n ≤ c ∧ U w p n xs ∧ (p = none → c = 0) := by
  obtain ⟨p, c, hv, hc, hU⟩ := h.u
  refine ⟨p, c, hv, hc, hU, fun hp => ?_⟩
  rcases h.row.2 with ⟨h1, _⟩ | ⟨g, cap, cur, h1, _⟩
  · rw [hv] at h1; injection h1
  · rw [hv, hp] at h1; injection h1 with h1; cases h1
theorem Own.base {w : World} {base base' : Nat} {v : Value} {n : Nat} {xs : List Int} (h : Own w base v n xs) (hb : base' ≤ base) : Own w base' v n xs := by
  refine ⟨h.len, ⟨h.row.1, ?_⟩, h.bd⟩
  rcases h.row.2 with h1 | ⟨g, cap, cur, h1, h2, h3⟩
  · exact .inl h1
  · exact .inr ⟨g, cap, cur, h1, Nat.le_trans hb h2, h3⟩
theorem u64_info : (Try.prog.info? 22).map (fun i => (i.zero, i.size, i.bytes)) = some (some (.int .u64 0), 1, 8) := by kernel_rfl

/-- append(out, y). -/
theorem app_one {ops : Array Oper} {rest : List Oper} {o : Oper} {a : Act} {Q : Exit → Act → World → Prop} (hgd : o.guard = none) (s x : Operand)
    (ho : o.op = .call { callee := .builtin .append, args := #[s, x], argTypes := #[27, 27] }) {base : Nat} {v : Value} {n : Nat} {xs : List Int} {W : World} {y : Int}
    (hown : Own W base v n xs) (hs : a.eval s = v) (hx : a.eval x = .slice (some ⟨W.heap.size, 0, none⟩) 1 1) (hy : 0 ≤ y ∧ y < 18446744073709551616) (hn : n ≤ 8796093022208) (hbase : base ≤ W.heap.size)
    (h : ∀ v' w', Own w' base v' (n + 1) (xs ++ [y]) → Below base W w' → wpList Try.prog ops Q rest (a.put o.dst v') w') :
    wpList Try.prog ops Q (o :: rest) a (W.alloc (.cells #[.int .u64 y] 22)) := by
  obtain ⟨i0, hi, hz0, hz1, hz2⟩ := info_parts u64_info
  have hb0 : Below W.heap.size W (W.alloc (.cells #[.int .u64 y] 22)) := (Below.refl _ _).alloc (Nat.le_refl _) _
  have hown' := hown.below hb0
  refine wpList_append_own _ hgd s x 27 ho base 22 i0 (.int .u64 0) 1 8 Try.underlying27 hi hz0 hz1 hz2 rfl (by decide) v n _ hs hown'.row
    ⟨W.heap.size, 0, none⟩ 1 1 [.int .u64 y] hx rfl ?_ (by simp [Value.oneCell']) (by unfold maxLen; omega) (by omega) (by simp; omega) ?_
  · intro j u hj
    cases j with
    | zero =>
      simp only [List.getElem?_cons_zero, Option.some.injEq] at hj
      subst hj
      exact (Arr.new W 22 [.int .u64 y]).cell (i := 0) (by simp)
    | succ j => simp at hj
  · intro v' w' h1 h2 _
    have hb : Below base (W.alloc (.cells #[.int .u64 y] 22)) w' := (Below.refl _ _).grown h2 (by simp; omega) (fun k e => (hown'.row.lt k e).1)
    refine h v' w' ⟨by rw [List.length_append, hown.len]; rfl, by rw [List.map_append]; exact h1, ?_⟩ ((hb0.mono hbase).trans hb)
    intro z hz
    rcases List.mem_append.1 hz with hz | hz
    · exact hown.bd z hz
    · rw [List.mem_singleton] at hz; subst hz; exact hy

/-- The other list is untouched by an append. -/
theorem Own.far {w w' : World} {base : Nat} {v : Value} {n : Nat} {xs : List Int} (h : Own w base v n xs) {row : Option Nat} (hg : w.grownBy w' row) (hne : v.ownBlock = none ∨ v.ownBlock ≠ row) : Own w' base v n xs :=
  ⟨h.len, h.row.kept hg hne, h.bd⟩

theorem cell_keep {W w' : World} {row : Option Nat} (hg : W.grownBy w' row) {a : Addr} {v : Value} (hc : W.cell? a = some v) (hne : some a.block ≠ row) : w'.cell? a = some v := (hg.cell_far a (cell_lt hc) hne).trans hc
theorem Own.lt {w : World} {base : Nat} {v : Value} {n : Nat} {xs : List Int} (h : Own w base v n xs) {g : Nat} (hg : v.ownBlock = some g) : base ≤ g ∧ g < w.heap.size := h.row.lt g hg
/-- Two lists of the call's own, in blocks of their own: each was appended to, one behind the other. -/
theorem two_step {wr W wA WB wB : World} {base : Nat} {xv yv : Value} {k : Nat} {X Y : List Int} {x y : Int} {g1 c1 g2 c2 : Nat} (hX : Own wr base xv k X) (hY : Own wr base yv k Y)
    (hsep : ∀ g, xv.ownBlock = some g → yv.ownBlock ≠ some g) (hbW : Below wr.heap.size wr W) (hA : Own wA base (.slice (some ⟨g1, 0, none⟩) (k + 1) c1) (k + 1) (X ++ [x])) (hgA : W.grownBy wA xv.ownBlock)
    (hatA : xv.ownBlock = some g1 ∨ g1 = W.heap.size) (hltA : g1 < wA.heap.size) (hbB : Below wA.heap.size wA WB) (_ : Own wB base (.slice (some ⟨g2, 0, none⟩) (k + 1) c2) (k + 1) (Y ++ [y])) (hgB : WB.grownBy wB yv.ownBlock)
    (hatB : yv.ownBlock = some g2 ∨ g2 = WB.heap.size) (hbase : base ≤ wr.heap.size) :
    Own wB base (.slice (some ⟨g1, 0, none⟩) (k + 1) c1) (k + 1) (X ++ [x]) ∧ g1 ≠ g2 ∧ Below base wr wB := by
  have h1 : yv.ownBlock ≠ some g1 := by
    rcases hatA with h | h
    · exact hsep g1 h
    · intro e
      have := (hY.lt e).2
      have := hbW.size
      omega
  refine ⟨(hA.below hbB).far hgB (.inr (by simp only [Value.ownBlock]; exact fun e => h1 e.symm)), ?_, ?_⟩
  · rintro rfl
    rcases hatB with h | h
    · exact h1 h
    · have := hbB.size; omega
  · have b1 : Below base wr W := hbW.mono hbase
    have b2 : Below base wr wA := b1.grown hgA (Nat.le_trans hbase b1.size) (fun k e => (hX.lt e).1)
    have b3 : Below base wr WB := b2.trans (hbB.mono (Nat.le_trans hbase b2.size))
    exact b3.grown hgB (Nat.le_trans hbase b3.size) (fun k e => (hY.lt e).1)

/-- append(out, y), as one step of a region that draws its order; where the new list lies is told. -/
theorem app_step {ops : Array Oper} {o : Oper} {a : Act} {K : Act → World → Prop} {Q : Exit → Act → World → Prop} {E : Prop} (hgd : o.guard = none) (s x : Operand)
    (ho : o.op = .call { callee := .builtin .append, args := #[s, x], argTypes := #[27, 27] }) {base : Nat} {v : Value} {n : Nat} {xs : List Int} {W : World} {y : Int} {B : Nat}
    (hown : Own W base v n xs) (hs : a.eval s = v) (hx : a.eval x = .slice (some ⟨B, 0, none⟩) 1 1) (hcell : W.cell? ⟨B, 0, none⟩ = some (.int .u64 y)) (hy : 0 ≤ y ∧ y < 18446744073709551616) (hn : n ≤ 8796093022208) (hbase : base ≤ W.heap.size)
    (h : ∀ g cap w', Own w' base (.slice (some ⟨g, 0, none⟩) (n + 1) cap) (n + 1) (xs ++ [y]) → W.grownBy w' v.ownBlock → (v.ownBlock = some g ∨ g = W.heap.size) → g < w'.heap.size → K (a.put o.dst (.slice (some ⟨g, 0, none⟩) (n + 1) cap)) w') :
    if Region.wanted o (yielded ops a.tmps) = true then Oper.wp Try.prog o a W K Q else E := by
  obtain ⟨i0, hi, hz0, hz1, hz2⟩ := info_parts u64_info
  refine step_append_lies W hgd s x 27 ho base 22 i0 (.int .u64 0) 1 8 Try.underlying27 hi hz0 hz1 hz2 rfl (by decide) v n _ hs hown.row
    ⟨B, 0, none⟩ 1 1 [.int .u64 y] hx rfl ?_ (by simp [Value.oneCell']) (by decide) (by unfold maxLen; omega) (by omega) hbase _ rfl ?_
  · intro j u hj
    cases j with
    | zero =>
      simp only [List.getElem?_cons_zero, Option.some.injEq] at hj
      subst hj
      exact hcell
    | succ j => simp at hj
  · intro g cap w' h1 h2 h3 h4
    refine h g cap w' ⟨by rw [List.length_append, hown.len]; rfl, by rw [List.map_append]; exact h1, ?_⟩ h2 h3 h4
    intro z hz
    rcases List.mem_append.1 hz with hz | hz
    · exact hown.bd z hz
    · rw [List.mem_singleton] at hz; subst hz; exact hy
end Go.Proofs.Ytcnhgkgabddjmaa
