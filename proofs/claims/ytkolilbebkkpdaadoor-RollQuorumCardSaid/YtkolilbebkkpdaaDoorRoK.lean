/-
  Keys that are pairs of numbers.
-/
import Derived.Test.YtkolilbebkkpdaaDoorRoM
import Derived.Test.YtkolilbebkkpdaaDoorOpen
namespace Go.Proofs.YtkolilbebkkpdaaDoor
open Go.RowKit Go.Maps Go.WideElems Go.MapKept Go.ChangeMaps

theorem row_v : (93 : TypeId) < Tryd.prog.types.size := of_decide_eq_true (by kernel_rfl)
theorem wide_v : (match Tryd.prog.underlying 93 with | some (.array _ _) | some (.struct _) => true | _ => false) = true := by rw [Tryd.underlying93]
set_option maxRecDepth 100000 in
theorem law_v : Keyed Tryd.prog 93 := Keyed.of_law (deep_law_laid laidOut (m := 2) (by omega) row_v (by kernel_rfl) wide_v)
section
variable {P : Program} {k i : TypeId} {fs : Array Field} {f1 f2 : Field}
theorem lit_int (hi : P.underlying i = some (.int .i64)) {d : Nat} {cs : List Value} {l : List Lit} (h : P.keyLits (d + 1) i cs = some l) : ∃ x, cs = [.int .i64 x] ∧ i64ok x := by
  obtain ⟨n, rfl, rfl⟩ := keyLits_int' hi h
  refine ⟨n, rfl, ?_⟩
  unfold Program.keyLits at h
  rw [hi] at h
  simp only [Option.ite_none_right_eq_some] at h
  exact i64wf.1 h.1.2
theorem lits_pair (hu : P.underlying k = some (.struct fs)) (hi : P.underlying i = some (.int .i64)) (hc : P.cellsOf k = 2) (hci : P.cellsOf i = 1) (hfs : fs.toList = [f1, f2]) (h1 : f1.type = i) (h2 : f2.type = i) (o1 : f1.offset = 0) (o2 : f2.offset = 1)
    {d : Nat} {cs : List Value} {l : List Lit} (h : P.keyLits (d + 2) k cs = some l) : ∃ x y, cs = [.int .i64 x, .int .i64 y] ∧ i64ok x ∧ i64ok y := by
  unfold Program.keyLits at h
  rw [hu] at h
  simp only [hc, hfs] at h
  split at h
  · rename_i h0
    obtain ⟨h0, _⟩ := h0
    match cs, h0 with
    | [u, v], _ =>
      simp only [List.mapM_cons, List.mapM_nil, h1, h2, o1, o2, hci, List.drop_zero, List.take_succ_cons, List.take_zero, List.drop_succ_cons] at h
      cases e1 : P.keyLits (d + 1) i [u] with
      | none => rw [e1] at h; cases h
      | some l1 =>
        cases e2 : P.keyLits (d + 1) i [v] with
        | none => rw [e1, e2] at h; cases h
        | some l2 =>
          obtain ⟨x, hx, kx⟩ := lit_int hi e1
          obtain ⟨y, hy, ky⟩ := lit_int hi e2
          injection hx with hx _
          injection hy with hy _
          exact ⟨x, y, by rw [hx, hy], kx, ky⟩
  · cases h
theorem lit_int_mk (hi : P.underlying i = some (.int .i64)) {d : Nat} {x : Int} (hx : i64ok x) : P.keyLits (d + 1) i [.int .i64 x] = some [.int .i64 x] := by
  unfold Program.keyLits
  rw [hi]
  exact if_pos ⟨rfl, i64wf.2 hx⟩
theorem key_pair (hu : P.underlying k = some (.struct fs)) (hi : P.underlying i = some (.int .i64)) (hc : P.cellsOf k = 2) (hci : P.cellsOf i = 1) (hfs : fs.toList = [f1, f2]) (h1 : f1.type = i) (h2 : f2.type = i) (o1 : f1.offset = 0) (o2 : f2.offset = 1)
    (hk : P.keyType k = true) (hb : fs.all (fun f => f.name != "_") = true) (h0 : 0 < P.types.size) {x y : Int} (hx : i64ok x) (hy : i64ok y) : ∃ l, keyOf P k (.agg #[.int .i64 x, .int .i64 y]) = some l := by
  obtain ⟨d, hd⟩ : ∃ d, P.types.size + 1 = d + 2 := ⟨P.types.size - 1, by omega⟩
  have hl : P.keyLits (d + 2) k [.int .i64 x, .int .i64 y] = some [.int .i64 x, .int .i64 y] := by
    unfold Program.keyLits
    rw [hu]
    simp only [hc, hfs]
    rw [if_pos ⟨rfl, hb⟩]
    simp only [List.mapM_cons, List.mapM_nil, h1, h2, o1, o2, hci, List.drop_zero, List.take_succ_cons, List.take_zero, List.drop_succ_cons, lit_int_mk hi hx, lit_int_mk hi hy]
    rfl
  refine ⟨.string (keyBytes [.int .i64 x, .int .i64 y]), ?_⟩
  unfold keyOf
  rw [hu]
  simp only [hk, Value.formed, hu, hc, hd]
  show (if (true && (#[Value.int .i64 x, Value.int .i64 y].size == 2)) = true then (P.keyLits (d + 2) k [.int .i64 x, .int .i64 y]).map (fun ls => Lit.string (keyBytes ls)) else none) = _
  rw [hl]
  rfl
end
set_option maxRecDepth 100000 in
def KV : KeyT (Int × Int) where
  kt := 93
  val := fun a => .agg #[.int .i64 a.1, .int .i64 a.2]
  ok := fun a => i64ok a.1 ∧ i64ok a.2
  keyed := law_v
  key := fun h => key_pair Tryd.underlying93 Tryd.underlying3 (by kernel_rfl) (by kernel_rfl) rfl rfl rfl rfl rfl (by kernel_rfl) (by kernel_rfl) (of_decide_eq_true (by kernel_rfl)) h.1 h.2
  inj := fun {a b} h => by
    injection h with h
    have h1 := congrArg (fun l => l.toList) h
    simp only [List.cons.injEq, Value.int.injEq, true_and, and_true] at h1
    exact Prod.ext h1.1 h1.2
  all := fun {v l} h => by
    obtain ⟨xs, L, rfl, hL, _⟩ := keyOf_top wide_v h
    have h0 : 0 < Tryd.prog.types.size := of_decide_eq_true (by kernel_rfl)
    obtain ⟨d, hd⟩ : ∃ d, Tryd.prog.types.size + 1 = d + 2 := ⟨Tryd.prog.types.size - 1, by omega⟩
    rw [hd] at hL
    obtain ⟨x, y, hc, hx, hy⟩ := lits_pair Tryd.underlying93 Tryd.underlying3 (by kernel_rfl) (by kernel_rfl) rfl rfl rfl rfl rfl hL
    exact ⟨(x, y), by rw [show xs = xs.toList.toArray by simp, hc], hx, hy⟩
end Go.Proofs.YtkolilbebkkpdaaDoor
