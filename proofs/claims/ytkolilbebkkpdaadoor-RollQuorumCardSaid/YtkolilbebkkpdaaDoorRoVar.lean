/-
  A variable that holds an operation: three operations (build, alloc, store), each by a law.
-/
import Derived.Test.YtkolilbebkkpdaaDoorRoNm
import Derived.Deep.WholeRow
import Derived.Laws.Tables
namespace Go.Proofs.YtkolilbebkkpdaaDoor
open Go.RowKit Go.Maps

def eZ : OpI := ⟨0, 0, 0, 0, 0, 0, 0, 0, ⟨0, 0, 0⟩, [], 0, 0⟩
theorem zero_op (w : World) : (zeroValue 42).run Tryd.prog w = .ok (.agg (opC eZ none 0)) w := by kernel_rfl
theorem opC_one (o : OpI) (gp : Option Addr) (gc : Nat) : (opC o gp gc).all (·.oneCell') = true := by simp [opC, Value.oneCell']
theorem opC_info (o : OpI) (gp : Option Addr) (gc : Nat) : (Tryd.prog.info? 42).map (·.size) = some (opC o gp gc).size := by
  show _ = some 27
  kernel_rfl
section
variable {ops : Array Oper} {rest : List Oper} {o : Oper} {a : Act} {Q : Exit → Act → World → Prop} {w : World}
theorem wpL_build (hg : o.guard = none) (t : TypeId) (parts : Array (Nat × Operand)) (hop : o.op = .build t parts) (cells : Array Value) (hb : Tryd.prog.built t (parts.map fun (i, x) => (i, a.eval x)).toList = some cells)
    (h : wpList Tryd.prog ops Q rest (a.put o.dst (.agg cells)) w) : wpList Tryd.prog ops Q (o :: rest) a w :=
  wpList_plain hg fun K hK => wp_build t parts hop (by rw [hb]; rfl) (by rw [hb]; exact hK _ _ h)
theorem run_allocOp (w : World) : (Instr.alloc 42 true (.tuple #[])).run Tryd.prog w = .ok (.pointer (some ⟨w.heap.size, 0, none⟩)) (w.alloc (.cells (opC eZ none 0) 42)) := by
  unfold Instr.alloc
  rw [Sem.run_bind, zero_op]
  rfl
theorem wpL_alloc (hg : o.guard = none) (hop : o.op = .alloc 42) (h : wpList Tryd.prog ops Q rest (a.put o.dst (.pointer (some ⟨w.heap.size, 0, none⟩))) (w.alloc (.cells (opC eZ none 0) 42))) : wpList Tryd.prog ops Q (o :: rest) a w :=
  wpList_plain hg fun K hK => by
    unfold Oper.wp
    have e : (execOp a.eval o).run Tryd.prog w = .ok (.value (.pointer (some ⟨w.heap.size, 0, none⟩))) (w.alloc (.cells (opC eZ none 0) 42)) := by
      unfold execOp
      simp only [hop, Sem.run_bind, run_allocOp, Result.andThen_ok, Sem.run_pure]
    rw [e]
    exact hK _ _ h
theorem wpL_store (hg : o.guard = none) (x y : Operand) (hop : o.op = .store 42 x y) {n : OpI} {gp : Option Addr} {gc : Nat} (hx : a.eval x = .pointer (some ⟨w.heap.size, 0, none⟩)) (hy : a.eval y = .agg (opC n gp gc))
    (h : wpList Tryd.prog ops Q rest (a.put o.dst undef) (w.alloc (.cells (opC n gp gc) 42))) : wpList Tryd.prog ops Q (o :: rest) a (w.alloc (.cells (opC eZ none 0) 42)) :=
  wpList_plain hg fun K hK => by
    unfold Oper.wp
    have e : (execOp a.eval o).run Tryd.prog (w.alloc (.cells (opC eZ none 0) 42)) = .ok .skip (w.alloc (.cells (opC n gp gc) 42)) := by
      unfold execOp
      have := run_storeVar_new (P := Tryd.prog) w 42 (opC eZ none 0) (opC n gp gc) (opC_info n gp gc) rfl (opC_one n gp gc)
      simp only [hop, hx, hy, Instr.storeAt, Instr.sureAddr, Sem.run_bind, Sem.run_pure, Result.andThen_ok, this]
    rw [e]
    exact hK _ _ h
end
section
variable {P : Program} {md : Region.Mode} {ops : Array Oper} {Q : Exit → Act → World → Prop} {D : World → Prop}
theorem wpAnyD_takeG {i : Nat} {oi : Oper} {v : Value} {fuel : Nat} {listed : Array Bool} {a : Act} {w : World} (hD : D w) (hi : ops[i]? = some oi)
    (hs : Region.noSelect ops = true) (hf : Region.free md ops listed i = true) (hr : (Region.ready md ops listed).contains i = true)
    (hQ : ∀ c a w, Q (.panic c) (a.put oi.dst v) w → Q (.panic c) a w) (hg : Region.wanted oi (yielded ops a.tmps) = true) (hy : ∀ w, D w → (execOp a.eval oi).run P w = .ok (.value v) w)
    (h : wpAnyD P md ops Q D fuel (listed.setIfInBounds i true) (a.put oi.dst v) w) : wpAnyD P md ops Q D (fuel + 1) listed a w :=
  wpAnyD_first hi (Region.noSelect_spec hs) hQ fuel listed a w hD (Region.free_spec hi hf) (by simpa using hr) (.inl ⟨hg, hy⟩) h
theorem wpAnyD_oneG {i : Nat} {fuel : Nat} {listed : Array Bool} {a : Act} {w : World} {o : Oper} (hr : Region.ready md ops listed = [i]) (ho : ops[i]? = some o) (hg : Region.wanted o (yielded ops a.tmps) = true)
    (h : ∀ K : Act → World → Prop, (∀ a' w', D w' ∧ wpAnyD P md ops Q D fuel (listed.setIfInBounds i true) a' w' → K a' w') → o.wp P a w K Q) : wpAnyD P md ops Q D (fuel + 1) listed a w := by
  refine ⟨fun h0 => (by rw [h0] at hr; cases hr), fun j hj => ?_⟩
  rw [hr, List.mem_singleton] at hj
  subst hj
  unfold wpOp
  simp only [ho, hg, if_true]
  exact .inl (h _ fun _ _ h => h)
theorem wpAnyD_twoG {i j : Nat} {fuel : Nat} {listed : Array Bool} {a : Act} {w : World} {o p : Oper} (hr : Region.ready md ops listed = [i, j]) (ho : ops[i]? = some o) (hp : ops[j]? = some p) (hg : Region.wanted o (yielded ops a.tmps) = true) (hg2 : Region.wanted p (yielded ops a.tmps) = true)
    (h : ∀ K : Act → World → Prop, (∀ a' w', D w' ∧ wpAnyD P md ops Q D fuel (listed.setIfInBounds i true) a' w' → K a' w') → o.wp P a w K Q)
    (h2 : ∀ K : Act → World → Prop, (∀ a' w', D w' ∧ wpAnyD P md ops Q D fuel (listed.setIfInBounds j true) a' w' → K a' w') → p.wp P a w K Q) : wpAnyD P md ops Q D (fuel + 1) listed a w := by
  refine ⟨fun h0 => (by rw [h0] at hr; cases hr), fun k hk => ?_⟩
  rw [hr] at hk
  rcases List.mem_cons.1 hk with rfl | hk
  · unfold wpOp
    simp only [ho, hg, if_true]
    exact .inl (h _ fun _ _ h => h)
  · rw [List.mem_singleton] at hk
    subst hk
    unfold wpOp
    simp only [hp, hg2, if_true]
    exact .inl (h2 _ fun _ _ h => h)
end
end Go.Proofs.YtkolilbebkkpdaaDoor
