/-
  The contracts of the program's polynomials (3): values, by a range over a slice from its end.
-/
import Derived.Test.YtelnhpcehmdffaaPolyB
import Derived.Test.YtelnhpcehmdffaaRange
import Derived.Shelf.Abstract
import Derived.Shelf.RegionOpen
import Derived.OwnWalkIn
import Derived.TacticsInMore
import Derived.LoopNIn
import Derived.LoopIn
import Derived.OneCell
namespace Go.Proofs.Ytelnhpcehmdffaa
open Go.RowKit Go.Shelf
attribute [local go_sem] T_V Oper.semAt_some



/-- Where Eval stands between two rounds. -/
structure EvalJ (w : World) (p : Option Addr) (n c : Nat) (x : Int) (r : LoopState → Option Code → Loop) (st : LoopState) (o : F) (W : World) : Prop where
  cx : W.heap[w.heap.size]? = some (.cells #[.int .u64 x] 40 (0, 0))
  co : W.heap[w.heap.size + 1]? = some (.cells #[.int .u64 (V o)] 40 (0, 0))
  cs : W.heap[w.heap.size + 2]? = some (.cells #[.slice p n c] 22 (0, 0))
  lp : W.heap[w.heap.size + 4]? = some (.loop (r st none))
  df : W.heap[w.heap.size + 3]? = some (.deferred (some []))
  bl : Below w.heap.size w W
theorem EvalJ.store {w : World} {p : Option Addr} {n c : Nat} {x : Int} {r : LoopState → Option Code → Loop} {st : LoopState} {o : F} {W : World} (h : EvalJ w p n c x r st o W) (o' : F) :
    EvalJ w p n c x r st o' (W.setCell ⟨w.heap.size + 1, 0, none⟩ (.int .u64 (V o'))) where
  cx := (Below.heap_setCell _ _ _ _ (by simp)).trans h.cx
  co := one_setCell h.co
  cs := (Below.heap_setCell _ _ _ _ (by simp)).trans h.cs
  lp := (Below.heap_setCell _ _ _ _ (by simp)).trans h.lp
  df := (Below.heap_setCell _ _ _ _ (by simp)).trans h.df
  bl := h.bl.setCell (by simp) _
theorem EvalJ.turn {w : World} {p : Option Addr} {n c : Nat} {x : Int} {r : LoopState → Option Code → Loop} {st : LoopState} {o : F} {W : World} (h : EvalJ w p n c x r st o W) (st' : LoopState) :
    EvalJ w p n c x r st' o (W.putObj (w.heap.size + 4) (.loop (r st' none))) where
  cx := (World.putObj_heap_other (by omega)).trans h.cx
  co := (World.putObj_heap_other (by omega)).trans h.co
  cs := (World.putObj_heap_other (by omega)).trans h.cs
  lp := World.putObj_heap_same (Array.getElem?_eq_some_iff.1 h.lp).1
  df := (World.putObj_heap_other (by omega)).trans h.df
  bl := h.bl.grown (grownBy_putObj' W _ _) h.bl.size (fun k e => by cases e; omega)

theorem ev_step (xs : List Int) (x : F) (k : Nat) (h : k < xs.length) : ev ((xs.map T).drop k) x = ev ((xs.map T).drop (k + 1)) x * x + T (nth xs k) := by
  rw [ev_drop _ _ _ (by simpa using h), coef_lt (by simpa using h), List.getElem_map, nth_eq h]


end Go.Proofs.Ytelnhpcehmdffaa
