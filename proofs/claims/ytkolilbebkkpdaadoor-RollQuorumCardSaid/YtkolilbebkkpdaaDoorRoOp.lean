/-
  Lists of operations, of names.
-/
import Derived.Test.YtkolilbebkkpdaaDoorRoVar
import Derived.Deep.MidRow
namespace Go.Proofs.YtkolilbebkkpdaaDoor
open Go.RowKit Go.Maps

/-- An operation with where its guards lie. -/
def opE : El (OpI × Option Addr × Nat) where
  t := 42
  st := 27
  sz := 27
  bt := 328
  z := .agg (opC eZ none 0)
  c := fun x => (opC x.1 x.2.1 x.2.2).toList
  hlen := fun _ => rfl
  hone := fun x u hu => (Array.all_eq_true_iff_forall_mem.1 (opC_one x.1 x.2.1 x.2.2)) u (by simpa using hu)
  hund := Tryd.underlying27
  hinf := by kernel_rfl
  hz := rfl
  hp := by decide
  hb := by decide
def idE : El Idn where
  t := 34
  st := 30
  sz := 3
  bt := 24
  z := .agg #[.int .i64 0, .int .i64 0, .int .u64 0]
  c := fun i => [.int .i64 i.b, .int .i64 i.s, .int .u64 i.u]
  hlen := fun _ => rfl
  hone := fun x u hu => by
    simp only [List.mem_cons, List.not_mem_nil, or_false] at hu
    rcases hu with rfl | rfl | rfl <;> rfl
  hund := Tryd.underlying30
  hinf := by kernel_rfl
  hz := rfl
  hp := by decide
  hb := by decide
/-- An operation of a list, loaded whole. -/
theorem wpL_loadO {ops : Array Oper} {rest : List Oper} {o : Oper} {a : Act} {w : World} {Q : Exit → Act → World → Prop} (hgd : o.guard = none) (x : Operand) (ho : o.op = .load 42 x) (b k : Nat) (hx : a.eval x = .pointer (some ⟨b, k, none⟩))
    (n : OpI) (gp : Option Addr) (gc : Nat) (hc : ∀ j u, (opC n gp gc)[j]? = some u → w.cell? ⟨b, k + j, none⟩ = some u) (h : wpList Tryd.prog ops Q rest (a.put o.dst (.agg (opC n gp gc))) w) : wpList Tryd.prog ops Q (o :: rest) a w :=
  wpList_load_mid hgd 42 x ho b k hx (opC n gp gc).toList _ (fun j u hu => hc j u (by simpa using hu)) Tryd.underlying42 rfl (by rw [opC_info n gp gc]; rfl) (by simpa using h)
/-- In a region: the same value wherever the cells stand. -/
theorem run_loadO {W : World} {b k : Nat} {n : OpI} {gp : Option Addr} {gc : Nat} {ρ : Operand → Value} {o : Oper} {x : Operand} (hc : ∀ j u, (opC n gp gc)[j]? = some u → W.cell? ⟨b, k + j, none⟩ = some u) (hop : o.op = .load 42 x) (hx : ρ x = .pointer (some ⟨b, k, none⟩)) : (execOp ρ o).run Tryd.prog W = .ok (.value (.agg (opC n gp gc))) W := by
  have := run_loadVar_mid (P := Tryd.prog) W b k 42 (opC n gp gc).toList _ (fun j u hu => hc j u (by simpa using hu)) Tryd.underlying42 rfl (by rw [opC_info n gp gc]; rfl)
  unfold execOp
  simp only [hop, hx, Instr.loadAt, Instr.sureAddr, Sem.run_bind, Sem.run_pure, Result.andThen_ok, this, Array.toArray_toList]
theorem RdE.op {w : World} {p : Option Addr} {l : List (OpI × Option Addr × Nat)} (h : RdE opE w p l) {i : Nat} (hi : i < l.length) : ∃ b off, p = some ⟨b, off, none⟩ ∧ b < w.heap.size ∧ ∀ j u, (opC l[i].1 l[i].2.1 l[i].2.2)[j]? = some u → w.cell? ⟨b, off + i * 27 + j, none⟩ = some u := by
  obtain ⟨b, off, hp, hb, hc⟩ := h i hi
  exact ⟨b, off, hp, hb, fun j u hu => hc j u (by show (opC l[i].1 l[i].2.1 l[i].2.2).toList[j]? = some u; simpa using hu)⟩
end Go.Proofs.YtkolilbebkkpdaaDoor
