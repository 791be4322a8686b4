/-
  The rows of equations in memory; a list of numbers with a sign that a call makes.
-/
import Derived.Test.YtelnhpcehmdffaaSkE
import Derived.Test.YtelnhpcehmdffaaUI
import Derived.Test.YtelnhpcehmdffaaGr
namespace Go.Proofs.Ytelnhpcehmdffaa
open Go.RowKit
attribute [local go_sem] T_V

/-- Rows of numbers: the slice of rows in block bo, row i in block β i. -/
structure Mat (w : World) (base top bo R n1 : Nat) (β κ : Nat → Nat) (M : Nat → Nat → F) : Prop where
  out : ∀ i, i < R → w.cell? ⟨bo, i, none⟩ = some (.slice (some ⟨β i, 0, none⟩) n1 (κ i))
  ofree : ∀ i, w.frozen? ⟨bo, i, none⟩ = false
  olt : bo < w.heap.size
  row : ∀ i, i < R → RowAt w (β i) n1 (M i)
  inj : ∀ i j, i < R → j < R → β i = β j → i = j
  apart : ∀ i, i < R → β i ≠ bo
  obase : base ≤ bo ∧ bo < top
  rbase : ∀ i, i < R → base ≤ β i ∧ β i < top
  kap : ∀ i, i < R → n1 ≤ κ i
theorem heap_frozen {w w' : World} {b : Nat} (h : w'.heap[b]? = w.heap[b]?) (j : Nat) : w'.frozen? ⟨b, j, none⟩ = w.frozen? ⟨b, j, none⟩ := by
  unfold World.frozen?; rw [h]
theorem RowAt.same {w w' : World} {b n : Nat} {f : Nat → F} (h : RowAt w b n f) (hbk : w'.heap[b]? = w.heap[b]?) (hs : w.heap.size ≤ w'.heap.size) : RowAt w' b n f :=
  ⟨fun j hj => by rw [World.cell?_of_block hbk]; exact h.cell j hj, fun j => by rw [heap_frozen hbk]; exact h.free j, Nat.lt_of_lt_of_le h.lt hs⟩
section
variable {w w' : World} {base top bo R n1 : Nat} {β κ : Nat → Nat} {M : Nat → Nat → F}
/-- All blocks of the rows stand as they stood. -/
theorem Mat.same (h : Mat w base top bo R n1 β κ M) (hb : ∀ b, base ≤ b → b < top → w'.heap[b]? = w.heap[b]?) (hs : w.heap.size ≤ w'.heap.size) : Mat w' base top bo R n1 β κ M where
  out := fun i hi => by rw [World.cell?_of_block (hb bo h.obase.1 h.obase.2)]; exact h.out i hi
  ofree := fun i => by rw [heap_frozen (hb bo h.obase.1 h.obase.2)]; exact h.ofree i
  olt := Nat.lt_of_lt_of_le h.olt hs
  row := fun i hi => (h.row i hi).same (hb _ (h.rbase i hi).1 (h.rbase i hi).2) hs
  inj := h.inj
  apart := h.apart
  obase := h.obase
  rbase := h.rbase
  kap := h.kap
theorem Mat.below (h : Mat w base top bo R n1 β κ M) (hb : Below top w w') : Mat w' base top bo R n1 β κ M := h.same (fun b _ h2 => hb.block b h2) hb.size
theorem Mat.drawn (h : Mat w base top bo R n1 β κ M) : Mat w.drew base top bo R n1 β κ M := h.same (fun _ _ _ => rfl) (Nat.le_refl _)
theorem Mat.congr {M' : Nat → Nat → F} (h : Mat w base top bo R n1 β κ M) (e : ∀ i j, i < R → j < n1 → M i j = M' i j) : Mat w base top bo R n1 β κ M' :=
  ⟨h.out, h.ofree, h.olt, fun i hi => (h.row i hi).congr fun j hj => e i j hi hj, h.inj, h.apart, h.obase, h.rbase, h.kap⟩
/-- One row is another one. -/
theorem Mat.change (h : Mat w base top bo R n1 β κ M) {t : Nat} (ht : t < R) {f : Nat → F} (hr : RowAt w' (β t) n1 f) (hg : w.grownBy w' (some (β t))) : Mat w' base top bo R n1 β κ (fun i => if i = t then f else M i) where
  out := fun i hi => by rw [World.cell?_of_block (hg.block bo h.olt (by intro e; injection e with e; exact h.apart t ht e.symm))]; exact h.out i hi
  ofree := fun i => by rw [heap_frozen (hg.block bo h.olt (by intro e; injection e with e; exact h.apart t ht e.symm))]; exact h.ofree i
  olt := Nat.lt_of_lt_of_le h.olt hg.size
  row := fun i hi => by
    by_cases e : i = t
    · rw [if_pos e, e]; exact hr
    · rw [if_neg e]; exact (h.row i hi).far hg fun e' => e (h.inj i t hi ht e')
  inj := h.inj
  apart := h.apart
  obase := h.obase
  rbase := h.rbase
  kap := h.kap
/-- Two places change. -/
def swp2 {α : Type} (β : Nat → α) (r t : Nat) : Nat → α := fun i => if i = t then β r else if i = r then β t else β i
theorem swp2_M (M : Nat → Nat → F) (r t : Nat) : swp2 M r t = swapM M r t := rfl
theorem swp2_mem {β : Nat → Nat} {r t i : Nat} (hr : r < R) (ht : t < R) (hi : i < R) : ∃ j, j < R ∧ swp2 β r t i = β j ∧ (j = if i = t then r else if i = r then t else i) := by
  unfold swp2
  by_cases e : i = t
  · exact ⟨r, hr, by rw [if_pos e], by rw [if_pos e]⟩
  · by_cases e2 : i = r
    · exact ⟨t, ht, by rw [if_neg e, if_pos e2], by rw [if_neg e, if_pos e2]⟩
    · exact ⟨i, hi, by rw [if_neg e, if_neg e2], by rw [if_neg e, if_neg e2]⟩
theorem Mat.swap (h : Mat w base top bo R n1 β κ M) {r t : Nat} (hr : r < R) (ht : t < R) :
    Mat ((w.setCell ⟨bo, r, none⟩ (.slice (some ⟨β t, 0, none⟩) n1 (κ t))).setCell ⟨bo, t, none⟩ (.slice (some ⟨β r, 0, none⟩) n1 (κ r))) base top bo R n1 (swp2 β r t) (swp2 κ r t) (swapM M r t) := by
  have hblk : ∀ b, b ≠ bo → ((w.setCell ⟨bo, r, none⟩ (.slice (some ⟨β t, 0, none⟩) n1 (κ t))).setCell ⟨bo, t, none⟩ (.slice (some ⟨β r, 0, none⟩) n1 (κ r))).heap[b]? = w.heap[b]? := fun b hb => by
    rw [Below.heap_setCell _ _ _ _ hb, Below.heap_setCell _ _ _ _ hb]
  have hsz : w.heap.size ≤ ((w.setCell ⟨bo, r, none⟩ (.slice (some ⟨β t, 0, none⟩) n1 (κ t))).setCell ⟨bo, t, none⟩ (.slice (some ⟨β r, 0, none⟩) n1 (κ r))).heap.size := by simp [World.setCell]
  refine ⟨fun i hi => ?_, fun i => by rw [World.frozen?_setCell, World.frozen?_setCell]; exact h.ofree i, Nat.lt_of_lt_of_le h.olt hsz, fun i hi => ?_, fun i j hi hj e => ?_, fun i hi => ?_, h.obase, fun i hi => ?_, fun i hi => ?_⟩
  · have ht1 : (w.setCell ⟨bo, r, none⟩ (.slice (some ⟨β t, 0, none⟩) n1 (κ t))).cell? ⟨bo, t, none⟩ = some (.slice (some ⟨β t, 0, none⟩) n1 (κ t)) := by
      by_cases e : t = r
      · subst e; exact World.cell?_setCell_same _ _ _ (h.out t ht)
      · rw [World.cell?_setCell_other _ _ _ _ (by intro e'; injection e' with _ e'; exact e e'.symm)]; exact h.out t ht
    unfold swp2
    by_cases e : i = t
    · subst e
      rw [if_pos rfl, if_pos rfl]
      exact World.cell?_setCell_same _ _ _ ht1
    · rw [if_neg e, if_neg e, World.cell?_setCell_other _ _ _ _ (by intro e'; injection e' with _ e'; exact e e'.symm)]
      by_cases e2 : i = r
      · subst e2
        rw [if_pos rfl, if_pos rfl]
        exact World.cell?_setCell_same _ _ _ (h.out i hi)
      · rw [if_neg e2, if_neg e2, World.cell?_setCell_other _ _ _ _ (by intro e'; injection e' with _ e'; exact e2 e'.symm)]; exact h.out i hi
  · have hm : RowAt w (swp2 β r t i) n1 (swapM M r t i) := by
      unfold swp2 swapM
      by_cases e : i = t
      · rw [if_pos e, if_pos e]; exact h.row r hr
      · rw [if_neg e, if_neg e]
        by_cases e2 : i = r
        · rw [if_pos e2, if_pos e2]; exact h.row t ht
        · rw [if_neg e2, if_neg e2]; exact h.row i hi
    obtain ⟨j, hj, ej, _⟩ := swp2_mem (β := β) hr ht hi
    refine hm.same (hblk _ ?_) hsz
    rw [ej]; exact h.apart j hj
  · obtain ⟨a, ha, ea, fa⟩ := swp2_mem (β := β) hr ht hi
    obtain ⟨b, hb, eb, fb⟩ := swp2_mem (β := β) hr ht hj
    rw [ea, eb] at e
    have := h.inj a b ha hb e
    rw [fa, fb] at this
    split at this <;> split at this <;> (try split at this) <;> (try split at this) <;> omega
  · obtain ⟨j, hj, ej, _⟩ := swp2_mem (β := β) hr ht hi
    rw [ej]; exact h.apart j hj
  · obtain ⟨j, hj, ej, _⟩ := swp2_mem (β := β) hr ht hi
    rw [ej]; exact h.rbase j hj
  · obtain ⟨j, hj, ej, _⟩ := swp2_mem (β := κ) hr ht hi
    rw [ej]; exact h.kap j hj
end

/-! ### Numbers with a sign -/
structure OwnI (w : World) (base : Nat) (v : Value) (n : Nat) (xs : List Int) : Prop where
  len : xs.length = n
  row : w.ownsRow base 3 1 v n (xs.map (Value.int .i64))
theorem OwnI.below {w w' : World} {base : Nat} {v : Value} {n : Nat} {xs : List Int} (h : OwnI w base v n xs) (hb : Below w.heap.size w w') : OwnI w' base v n xs :=
  ⟨h.len, h.row.kept (row := none) ⟨hb.os, hb.tape, hb.output, hb.size, fun i hi _ => hb.block i hi⟩ (by cases hv : v.ownBlock <;> simp)⟩
theorem OwnI.lt {w : World} {base : Nat} {v : Value} {n : Nat} {xs : List Int} (h : OwnI w base v n xs) {g : Nat} (hg : v.ownBlock = some g) : base ≤ g ∧ g < w.heap.size := h.row.lt g hg
theorem OwnI.far {w w' : World} {base : Nat} {v : Value} {n : Nat} {xs : List Int} (h : OwnI w base v n xs) {b : Nat} (hg : w.grownBy w' (some b)) (hne : b < base) : OwnI w' base v n xs :=
  ⟨h.len, h.row.kept hg (by
    cases e : v.ownBlock with
    | none => exact .inl rfl
    | some g => exact .inr fun e' => by injection e' with e'; have := (h.lt e).1; omega)⟩
theorem OwnI.drawn {w : World} {base : Nat} {v : Value} {n : Nat} {xs : List Int} (h : OwnI w base v n xs) : OwnI w.drew base v n xs := ⟨h.len, h.row⟩
theorem OwnI.cell {w : World} {base n c : Nat} {p : Option Addr} {xs : List Int} (h : OwnI w base (.slice p n c) n xs) {i : Nat} (hi : i < n) : ∃ g, p = some ⟨g, 0, none⟩ ∧ g < w.heap.size ∧ w.cell? ⟨g, i, none⟩ = some (.int .i64 (nth xs i)) := by
  rcases h.row.2 with ⟨hv, hn⟩ | ⟨g, cap, cur, hv, _, hg, hnc, _, hcs, htake⟩
  · omega
  · injection hv with e1 _ _
    refine ⟨g, e1, ?_, ?_⟩
    · rcases Nat.lt_or_ge g w.heap.size with h1 | h1
      · exact h1
      · rw [Array.getElem?_eq_none h1] at hg; cases hg
    · have hl := h.len
      have : (cur.toList.take (n * 1))[i]? = some (Value.int .i64 (nth xs i)) := by
        rw [htake, List.getElem?_map, List.getElem?_eq_getElem (by omega), nth_eq (by omega)]; rfl
      rw [List.getElem?_take] at this
      split at this
      · simp [World.cell?, hg]
        simpa using this
      · cases this
theorem OwnI.form {w : World} {base : Nat} {v : Value} {n : Nat} {xs : List Int} (h : OwnI w base v n xs) : ∃ p c, v = .slice p n c := by
  rcases h.row.2 with ⟨hv, hn⟩ | ⟨g, cap, cur, hv, _⟩
  · exact ⟨none, 0, by rw [hv, hn]⟩
  · exact ⟨_, _, hv⟩
theorem int_info : (Try.prog.info? 3).map (fun i => (i.zero, i.size, i.bytes)) = some (some (.int .i64 0), 1, 8) := by kernel_rfl
set_option maxRecDepth 100000 in
/-- append(had, y). -/
theorem app_i {ops : Array Oper} {rest : List Oper} {o : Oper} {a : Act} {Q : Exit → Act → World → Prop} (hgd : o.guard = none) (s x : Operand)
    (ho : o.op = .call { callee := .builtin .append, args := #[s, x], argTypes := #[48, 48] }) {base : Nat} {v : Value} {n : Nat} {xs : List Int} {W : World} {y : Int}
    (hown : OwnI W base v n xs) (hs : a.eval s = v) (hx : a.eval x = .slice (some ⟨W.heap.size, 0, none⟩) 1 1) (hn : n ≤ 8796093022208) (hbase : base ≤ W.heap.size)
    (h : ∀ v' w', OwnI w' base v' (n + 1) (xs ++ [y]) → Below base W w' → wpList Try.prog ops Q rest (a.put o.dst v') w') :
    wpList Try.prog ops Q (o :: rest) a (W.alloc (.cells #[.int .i64 y] 3)) := by
  obtain ⟨i0, hi, hz0, hz1, hz2⟩ := info_parts int_info
  have hb0 : Below W.heap.size W (W.alloc (.cells #[.int .i64 y] 3)) := (Below.refl _ _).alloc (Nat.le_refl _) _
  have hown' := hown.below hb0
  refine wpList_append_own _ hgd s x 48 ho base 3 i0 (.int .i64 0) 1 8 Try.underlying48 hi hz0 hz1 hz2 rfl (by decide) v n _ hs hown'.row
    ⟨W.heap.size, 0, none⟩ 1 1 [.int .i64 y] hx rfl ?_ (by simp [Value.oneCell']) (by unfold maxLen; omega) (by omega) (by simp; omega) ?_
  · intro j u hj
    cases j with
    | zero =>
      simp only [List.getElem?_cons_zero, Option.some.injEq] at hj
      subst hj
      exact (Arr.new W 3 [.int .i64 y]).cell (i := 0) (by simp)
    | succ j => simp at hj
  · intro v' w' h1 h2 _
    have hb : Below base (W.alloc (.cells #[.int .i64 y] 3)) w' := (Below.refl _ _).grown h2 (by simp; omega) (fun k e => (hown'.row.lt k e).1)
    exact h v' w' ⟨by rw [List.length_append, hown.len]; rfl, by rw [List.map_append]; exact h1⟩ ((hb0.mono hbase).trans hb)
set_option maxRecDepth 100000 in
theorem make_ints (n : Nat) (hn : n ≤ 1000000) (w : World) :
    (Instr.makeSlice 48 (.int .i64 0) (.int .i64 (n : Int))).run Try.prog w = .ok (.slice (some ⟨w.heap.size, 0, none⟩) 0 n) (w.alloc (.cells (Array.replicate n (.int .i64 0)) 3)) := by
  obtain ⟨i0, hi, hz0, hz1, hz2⟩ := info_parts int_info
  have h := run_make (P := Try.prog) w 48 3 i0 (.int .i64 0) Try.underlying48 hi hz0 .i64 .i64 0 (n : Int) (Int.le_refl _) (by omega) (by rw [hz2]; omega) (by omega)
  rw [h, hz1, Nat.mul_one]
  have e : madeCells (Value.int .i64 0).cells (n : Int).toNat = Array.replicate n (.int .i64 0) := by
    have e0 : (Value.int .i64 0).cells = #[.int .i64 0] := rfl
    rw [e0]
    apply Array.ext
    · simp [madeCells]
    · intro k h1 h2
      simp [madeCells, Nat.mod_one]
  rw [e]
  rfl
theorem OwnI.made (w : World) (n : Nat) (hn : n ≤ 1000000) : OwnI (w.alloc (.cells (Array.replicate n (.int .i64 0)) 3)) w.heap.size (.slice (some ⟨w.heap.size, 0, none⟩) 0 n) 0 [] := by
  refine ⟨rfl, rfl, .inr ⟨w.heap.size, n, Array.replicate n (.int .i64 0), rfl, Nat.le_refl _, ?_, Nat.zero_le _, by unfold maxLen; omega, by simp, by simp⟩⟩
  have := Arr.new w 3 (List.replicate n (.int .i64 0))
  rw [List.toArray_replicate] at this
  exact this
end Go.Proofs.Ytelnhpcehmdffaa
