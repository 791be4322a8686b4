/-
  A list of rows that a call appends to one by one.
-/
import Derived.Test.YtelnhpcehmdffaaSkI
namespace Go.Proofs.Ytelnhpcehmdffaa
open Go.RowKit

/-- How a row's slice lies. -/
def rowV (n1 : Nat) (β κ : Nat → Nat) (i : Nat) : Value := .slice (some ⟨β i, 0, none⟩) n1 (κ i)
/-- Rows of numbers, in a list of the call's own. -/
structure RowsIs (w : World) (base : Nat) (v : Value) (k n1 : Nat) (β κ : Nat → Nat) (M : Nat → Nat → F) : Prop where
  tab : w.ownsRow base 22 1 v k ((List.range k).map (rowV n1 β κ))
  row : ∀ i, i < k → RowAt w (β i) n1 (M i)
  lt : ∀ i, i < k → base ≤ β i
  kap : ∀ i, i < k → n1 ≤ κ i
  inj : ∀ i j, i < k → j < k → β i = β j → i = j
  zero : k = 0 → v = .slice none 0 0
theorem RowsIs.nil (w : World) (base n1 : Nat) (β κ : Nat → Nat) (M : Nat → Nat → F) : RowsIs w base (.slice none 0 0) 0 n1 β κ M :=
  ⟨World.ownsRow_nil w base _ 1, fun i h => by omega, fun i h => by omega, fun i h => by omega, fun i j h => by omega, fun _ => rfl⟩
section
variable {w w' : World} {base k n1 : Nat} {v : Value} {β κ : Nat → Nat} {M : Nat → Nat → F}
theorem tab_cell {g n c : Nat} {xs : List Value} (h : w.ownsRow base 22 1 (.slice (some ⟨g, 0, none⟩) n c) k xs) {i : Nat} (hi : i < xs.length) (_ : xs.length = k) : w.cell? ⟨g, i, none⟩ = some xs[i] := by
  rcases h.2 with ⟨hv, hn⟩ | ⟨g', cap, cur, hv, _, hg, hnc, _, hcs, htake⟩
  · injection hv with e1; cases e1
  · injection hv with e1 _ _
    injection e1 with e1
    injection e1 with e1 _ _
    subst e1
    have : (cur.toList.take (k * 1))[i]? = some xs[i] := by rw [htake, List.getElem?_eq_getElem hi]
    rw [List.getElem?_take] at this
    split at this
    · simp [World.cell?, hg]
      simpa using this
    · cases this
theorem tab_free {g n c : Nat} {xs : List Value} (h : w.ownsRow base 22 1 (.slice (some ⟨g, 0, none⟩) n c) k xs) (i : Nat) : w.frozen? ⟨g, i, none⟩ = false := by
  rcases h.2 with ⟨hv, hn⟩ | ⟨g', cap, cur, hv, _, hg, hnc, _, hcs, htake⟩
  · injection hv with e1; cases e1
  · injection hv with e1 _ _
    injection e1 with e1
    injection e1 with e1 _ _
    subst e1
    simp [World.frozen?, hg]
theorem tab_form {xs : List Value} (h : w.ownsRow base 22 1 v k xs) (h0 : 0 < k) : ∃ g c, v = .slice (some ⟨g, 0, none⟩) k c ∧ k ≤ c := by
  rcases h.2 with ⟨hv, hn⟩ | ⟨g', cap, cur, hv, _, hg, hnc, _⟩
  · omega
  · exact ⟨_, _, hv, hnc⟩
theorem RowsIs.apart (h : RowsIs w base v k n1 β κ M) (hn : 0 < n1) {i : Nat} (hi : i < k) : v.ownBlock ≠ some (β i) := fun e => by
  obtain ⟨g, c, rfl, _⟩ := tab_form h.tab (by omega)
  have e2 : g = β i := by simpa [Value.ownBlock] using e
  have h1 := tab_cell h.tab (i := 0) (by simp; omega) (by simp)
  have h2 := (h.row i hi).cell 0 hn
  rw [e2, h2] at h1
  simp [rowV] at h1
theorem RowsIs.below (h : RowsIs w base v k n1 β κ M) (hb : Below w.heap.size w w') : RowsIs w' base v k n1 β κ M :=
  ⟨h.tab.kept (row := none) ⟨hb.os, hb.tape, hb.output, hb.size, fun i hi _ => hb.block i hi⟩ (by cases hv : v.ownBlock <;> simp), fun i hi => (h.row i hi).same (hb.block _ (h.row i hi).lt) hb.size, h.lt, h.kap, h.inj, h.zero⟩
theorem RowsIs.form (h : RowsIs w base v k n1 β κ M) (h0 : 0 < k) : ∃ g c, v = .slice (some ⟨g, 0, none⟩) k c ∧ k ≤ c := tab_form h.tab h0
theorem RowsIs.mat (h : RowsIs w base v k n1 β κ M) (h0 : 0 < k) (hn : 0 < n1) : ∃ g c, v = .slice (some ⟨g, 0, none⟩) k c ∧ k ≤ c ∧ Mat w base w.heap.size g k n1 β κ M := by
  obtain ⟨g, c, rfl, hc⟩ := tab_form h.tab h0
  refine ⟨g, c, rfl, hc, ⟨fun i hi => ?_, fun i => tab_free h.tab i, (h.tab.lt g rfl).2, h.row, h.inj, fun i hi e => h.apart hn hi (by rw [e]; rfl), h.tab.lt g rfl, fun i hi => ⟨h.lt i hi, (h.row i hi).lt⟩, h.kap⟩⟩
  have := tab_cell h.tab (i := i) (by simpa using hi) (by simp)
  rw [this, List.getElem_map, List.getElem_range]; rfl
/-- One row more. -/
theorem RowsIs.step {w1 w3 : World} {v' : Value} {g c : Nat} (h : RowsIs w base v k n1 β κ M) (hn : 0 < n1) (hbase : base ≤ w.heap.size) (hb : Below w.heap.size w w1) (ho : Own w1 w.heap.size (.slice (some ⟨g, 0, none⟩) n1 c) n1 (((List.range n1).map (M k)).map V)) (hc : n1 ≤ c)
    (ht : w3.ownsRow base 22 1 v' (k + 1) ((List.range k).map (rowV n1 β κ) ++ [.slice (some ⟨g, 0, none⟩) n1 c])) (hg : (w1.alloc (.cells #[.slice (some ⟨g, 0, none⟩) n1 c] 22)).grownBy w3 v.ownBlock) :
    RowsIs w3 base v' (k + 1) n1 (fun i => if i = k then g else β i) (fun i => if i = k then c else κ i) M := by
  have hlt := ho.lt (g := g) rfl
  have hb2 : Below w1.heap.size w1 (w1.alloc (.cells #[.slice (some ⟨g, 0, none⟩) n1 c] 22)) := Below.lit w1 _
  have hr : RowAt w1 g n1 (M k) := RowAt.of_own ho
  have hne : v.ownBlock ≠ some g := fun e => by have := (h.tab.lt g e).2; omega
  have h1 := (h.below hb).below hb2
  have hr1 : RowAt (w1.alloc (.cells #[.slice (some ⟨g, 0, none⟩) n1 c] 22)) g n1 (M k) := hr.same (hb2.block _ hr.lt) hb2.size
  have keep : ∀ {b : Nat} {f : Nat → F}, RowAt (w1.alloc (.cells #[.slice (some ⟨g, 0, none⟩) n1 c] 22)) b n1 f → v.ownBlock ≠ some b → RowAt w3 b n1 f := fun hrow hne => hrow.same (hg.block _ hrow.lt (fun e => hne e.symm)) hg.size
  refine ⟨?_, fun i hi => ?_, fun i hi => ?_, fun i hi => ?_, fun i j hi hj e => ?_, fun h => by omega⟩
  · have : (List.range (k + 1)).map (rowV n1 (fun i => if i = k then g else β i) (fun i => if i = k then c else κ i)) = (List.range k).map (rowV n1 β κ) ++ [.slice (some ⟨g, 0, none⟩) n1 c] := by
      rw [List.range_succ, List.map_append, List.map_cons, List.map_nil]
      congr 1
      · refine List.map_congr_left fun i hi => ?_
        have := List.mem_range.1 hi
        unfold rowV
        dsimp only
        rw [if_neg (by omega), if_neg (by omega)]
      · unfold rowV
        dsimp only
        rw [if_pos rfl, if_pos rfl]
    rw [this]; exact ht
  · by_cases e : i = k
    · subst e
      show RowAt w3 (if i = i then g else β i) n1 (M i)
      rw [if_pos rfl]; exact keep hr1 hne
    · show RowAt w3 (if i = k then g else β i) n1 (M i)
      rw [if_neg e]; exact keep (h1.row i (by omega)) (h1.apart hn (by omega))
  · show base ≤ (if i = k then g else β i)
    by_cases e : i = k
    · rw [if_pos e]; omega
    · rw [if_neg e]; exact h.lt i (by omega)
  · show n1 ≤ (if i = k then c else κ i)
    by_cases e : i = k
    · rw [if_pos e]; exact hc
    · rw [if_neg e]; exact h.kap i (by omega)
  · have hlo : ∀ i, i < k → β i < g := fun i hi => by have := (h.row i hi).lt; omega
    replace e : (if i = k then g else β i) = (if j = k then g else β j) := e
    by_cases e1 : i = k
    · by_cases e2 : j = k
      · omega
      · rw [if_pos e1, if_neg e2] at e
        have := hlo j (by omega); omega
    · by_cases e2 : j = k
      · rw [if_neg e1, if_pos e2] at e
        have := hlo i (by omega); omega
      · rw [if_neg e1, if_neg e2] at e
        exact h.inj i j (by omega) (by omega) e
end
theorem slice_info : (Try.prog.info? 22).map (fun i => (i.zero, i.size, i.bytes)) = some (some (.slice none 0 0), 1, 24) := by kernel_rfl
theorem info_parts24 {t : TypeId} {z : Value} (h : (Try.prog.info? t).map (fun i => (i.zero, i.size, i.bytes)) = some (some z, 1, 24)) : ∃ i0, Try.prog.info? t = some i0 ∧ i0.zero = some z ∧ i0.size = 1 ∧ i0.bytes = 24 := by
  cases hi : Try.prog.info? t with
  | none => rw [hi] at h; cases h
  | some i0 =>
    rw [hi] at h
    simp only [Option.map_some, Option.some.injEq, Prod.mk.injEq] at h
    exact ⟨i0, rfl, h.1, h.2.1, h.2.2⟩
set_option maxRecDepth 100000 in
/-- append(rows, y). -/
theorem app_t {ops : Array Oper} {rest : List Oper} {o : Oper} {a : Act} {Q : Exit → Act → World → Prop} (hgd : o.guard = none) (s x : Operand)
    (ho : o.op = .call { callee := .builtin .append, args := #[s, x], argTypes := #[51, 51] }) {base : Nat} {v : Value} {n : Nat} {xs : List Value} {W : World} {p : Option Addr} {n1 c : Nat}
    (hown : W.ownsRow base 22 1 v n xs) (hs : a.eval s = v) (hx : a.eval x = .slice (some ⟨W.heap.size, 0, none⟩) 1 1) (hn : n ≤ 1000) (hbase : base ≤ W.heap.size)
    (h : ∀ v' w', w'.ownsRow base 22 1 v' (n + 1) (xs ++ [.slice p n1 c]) → (W.alloc (.cells #[.slice p n1 c] 22)).grownBy w' v.ownBlock → wpList Try.prog ops Q rest (a.put o.dst v') w') :
    wpList Try.prog ops Q (o :: rest) a (W.alloc (.cells #[.slice p n1 c] 22)) := by
  obtain ⟨i0, hi, hz0, hz1, hz2⟩ := info_parts24 slice_info
  have hb0 : Below W.heap.size W (W.alloc (.cells #[.slice p n1 c] 22)) := (Below.refl _ _).alloc (Nat.le_refl _) _
  have hown' : (W.alloc (.cells #[.slice p n1 c] 22)).ownsRow base 22 1 v n xs := hown.kept (row := none) ⟨hb0.os, hb0.tape, hb0.output, hb0.size, fun i hi _ => hb0.block i hi⟩ (by cases hv : v.ownBlock <;> simp)
  refine wpList_append_own _ hgd s x 51 ho base 22 i0 (.slice none 0 0) 1 24 Try.underlying51 hi hz0 hz1 hz2 rfl (by decide) v n _ hs hown'
    ⟨W.heap.size, 0, none⟩ 1 1 [.slice p n1 c] hx rfl ?_ (by simp [Value.oneCell']) (by unfold maxLen; omega) (by omega) (by simp; omega) ?_
  · intro j u hj
    cases j with
    | zero =>
      simp only [List.getElem?_cons_zero, Option.some.injEq] at hj
      subst hj
      exact (Arr.new W 22 [.slice p n1 c]).cell (i := 0) (by simp)
    | succ j => simp at hj
  · intro v' w' h1 h2 _
    exact h v' w' h1 h2
/-- append(rows, y), as one step of a region that draws its order. -/
theorem app_t_step {ops : Array Oper} {o : Oper} {a : Act} {K : Act → World → Prop} {Q : Exit → Act → World → Prop} {E : Prop} (hgd : o.guard = none) (s x : Operand)
    (ho : o.op = .call { callee := .builtin .append, args := #[s, x], argTypes := #[51, 51] }) {base : Nat} {v : Value} {n : Nat} {xs : List Value} {W : World} {p : Option Addr} {n1 c B : Nat}
    (hown : W.ownsRow base 22 1 v n xs) (hs : a.eval s = v) (hx : a.eval x = .slice (some ⟨B, 0, none⟩) 1 1) (hcell : W.cell? ⟨B, 0, none⟩ = some (.slice p n1 c)) (hn : n ≤ 1000) (hbase : base ≤ W.heap.size)
    (h : ∀ g cap w', w'.ownsRow base 22 1 (.slice (some ⟨g, 0, none⟩) (n + 1) cap) (n + 1) (xs ++ [.slice p n1 c]) → W.grownBy w' v.ownBlock → K (a.put o.dst (.slice (some ⟨g, 0, none⟩) (n + 1) cap)) w') :
    if Region.wanted o (yielded ops a.tmps) = true then Oper.wp Try.prog o a W K Q else E := by
  obtain ⟨i0, hi, hz0, hz1, hz2⟩ := info_parts24 slice_info
  refine step_append_lies W hgd s x 51 ho base 22 i0 (.slice none 0 0) 1 24 Try.underlying51 hi hz0 hz1 hz2 rfl (by decide) v n _ hs hown
    ⟨B, 0, none⟩ 1 1 [.slice p n1 c] hx rfl ?_ (by simp [Value.oneCell']) (by decide) (by unfold maxLen; omega) (by omega) hbase _ rfl ?_
  · intro j u hj
    cases j with
    | zero =>
      simp only [List.getElem?_cons_zero, Option.some.injEq] at hj
      subst hj
      exact hcell
    | succ j => simp at hj
  · intro g cap w' h1 h2 _ _
    exact h g cap w' h1 h2
theorem keep4 {wl W : World} {b1 o1 b2 o2 b3 o3 b4 o4 : Nat} {v1 v2 v3 v4 : Value} (h : Below wl.heap.size wl W) (h1 : wl.cell? ⟨b1, o1, none⟩ = some v1) (h2 : wl.cell? ⟨b2, o2, none⟩ = some v2) (h3 : wl.cell? ⟨b3, o3, none⟩ = some v3) (h4 : wl.cell? ⟨b4, o4, none⟩ = some v4) :
    ((W.cell? ⟨b1, o1, none⟩ = some v1 ∧ W.cell? ⟨b2, o2, none⟩ = some v2) ∧ (W.cell? ⟨b3, o3, none⟩ = some v3 ∧ W.cell? ⟨b4, o4, none⟩ = some v4)) ∧ Below wl.heap.size wl W :=
  ⟨⟨⟨(keep1 h h1).1, (keep1 h h2).1⟩, (keep1 h h3).1, (keep1 h h4).1⟩, h⟩
/-- What is behind a place of a list. -/
theorem cut_from (g one two k : Nat) (hk : one + two = k) : ∃ q, (∀ W, (Instr.slice 22 (.slice (some ⟨g, 0, none⟩) k k) (some (.int .i64 (one : Int))) none none).run Try.prog W = .ok (.slice (some q) two two) W) ∧ ∀ {W xs}, U W (some ⟨g, 0, none⟩) k xs → U W (some q) two (xs.drop one) := by
  have run : ∀ W, (Instr.slice 22 (.slice (some ⟨g, 0, none⟩) k k) (some (.int .i64 (one : Int))) none none).run Try.prog W = .ok (.slice (if k = one then some ⟨g, 0, none⟩ else some ((⟨g, 0, none⟩ : Addr).add one)) two two) W := fun W => by
    have hs : (sizeOf (Try.prog.elem 22)).run Try.prog W = .ok 1 W := by kernel_rfl
    rw [run_slice_l W 22 (some ⟨g, 0, none⟩) k k (by kernel_rfl) .i64 (one : Int) (by omega) (by omega), hs]
    show Result.ok (Value.slice (if k = (one : Int).toNat then some ⟨g, 0, none⟩ else some ((⟨g, 0, none⟩ : Addr).add ((one : Int).toNat * 1))) (k - (one : Int).toNat) (k - (one : Int).toNat)) W = _
    rw [Int.toNat_natCast, Nat.mul_one, show k - one = two by omega]
  by_cases e : k = one
  · refine ⟨⟨g, 0, none⟩, fun W => by rw [run W, if_pos e], fun {W xs} h => ?_⟩
    have h2 : two = 0 := by omega
    have h3 : xs.drop one = [] := by rw [List.drop_eq_nil_of_le (by rw [h.len]; omega)]
    rw [h2, h3]
    exact ⟨rfl, .inr ⟨_, 0, rfl, fun i h => by simp at h⟩, fun _ h => by cases h⟩
  · refine ⟨(⟨g, 0, none⟩ : Addr).add one, fun W => by rw [run W, if_neg e], fun {W xs} h => ?_⟩
    have := h.drop one
    rw [show k - one = two by omega] at this
    have e2 : (⟨g, 0, none⟩ : Addr).add one = ⟨g, 0 + one, none⟩ := by
      unfold Addr.add
      by_cases h0 : one = 0
      · rw [if_pos h0, h0]
      · rw [if_neg h0]
    rw [e2]; exact this
theorem own_some {w : World} {base n c m : Nat} {p : Option Addr} {xs : List Int} (h : Own w base (.slice p m c) n xs) (h0 : 0 < n) : ∃ g, p = some ⟨g, 0, none⟩ := by
  rcases h.row.2 with ⟨hv, hn⟩ | ⟨g', cap, cur, hv, _⟩
  · omega
  · injection hv with e1 _ _
    exact ⟨_, e1⟩
/-- solve, of the rows of such a list. -/
theorem solve_rows {w : World} {base k : Nat} {v : Value} {β κ : Nat → Nat} {M : Nat → Nat → F} (h : RowsIs w base v k (k + 1) β κ M) (hk : k ≤ 1000) (hbase : base ≤ w.heap.size) :
    Calls Try.prog 28 #[v, .int .i64 k] w (SolveTo base k k M w) := by
  rcases Nat.eq_zero_or_pos k with h0 | h0
  · subst h0
    have hv : v = .slice none 0 0 := h.zero rfl
    rw [hv]
    exact (solve_nil M w).mono fun _ _ ⟨h1, h2⟩ => ⟨h1.mono hbase, h2⟩
  · obtain ⟨g, c, rfl, hc, hm⟩ := h.mat h0 (by omega)
    exact solve_any base g c k k β κ M w hm hc hk hk
end Go.Proofs.Ytelnhpcehmdffaa
