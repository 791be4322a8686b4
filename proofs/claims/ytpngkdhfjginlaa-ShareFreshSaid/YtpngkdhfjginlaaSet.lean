/-
  A map of unsigned numbers to bools that a call makes: which numbers stand in it.
-/
import Derived.Test.YtpngkdhfjginlaaProg
import Derived.Test.YtpngkdhfjginlaaMem
import Derived.Maps.OwnOps
import Derived.Maps.Views
import Derived.Maps.OwnSet
import Derived.OwnWalk
namespace Go.Proofs.Ytpngkdhfjginlaa
open Go.RowKit Go.Maps

theorem key_law : Keyed Try.prog 22 := int_keyed Try.underlying22
theorem zero_bool (w : World) : (zeroValue 4).run Try.prog w = .ok (.bool false) w := by kernel_rfl

/-- Block b is a map of at most n entries in which just the numbers S stand (as true). -/
def Had (w : World) (b n : Nat) (S : List Int) : Prop :=
  ∃ D : DataW Unit, w.ownsMap Try.prog 22 (plainElem Try.prog 4) b n D ∧ IsMap D ∧
    ∀ k : Int, (Lit.int .u64 k).wf = true → D.atKey (.int .u64 k) (.lit (.bool false)) = .lit (.bool (decide (k ∈ S)))
theorem Had.made (w : World) : Had (w.alloc (.map #[] 0)) w.heap.size 0 [] :=
  ⟨.map [], World.ownsMap_made _ _ _ _, ⟨_, rfl⟩, fun k _ => by simp; rfl⟩
theorem Had.kept {w w' : World} {b n : Nat} {S : List Int} (h : Had w b n S) (hb : Below w.heap.size w w') : Had w' b n S := by
  obtain ⟨D, h1, h2, h3⟩ := h
  exact ⟨D, h1.kept (row := none) ⟨hb.os, hb.tape, hb.output, hb.size, fun i hi _ => hb.block i hi⟩ (by simp), h2, h3⟩
theorem Had.lt {w : World} {b n : Nat} {S : List Int} (h : Had w b n S) : b < w.heap.size := by
  obtain ⟨D, h1, _⟩ := h
  exact h1.lt
theorem Had.look {w : World} {b n : Nat} {S : List Int} (h : Had w b n S) (k : Int) (hk : (Lit.int .u64 k).wf = true) :
    (Instr.lookup 59 (.map (some b)) (.int .u64 k) false).run Try.prog w = .ok (.bool (decide (k ∈ S))) w := by
  obtain ⟨D, h1, _, h3⟩ := h
  obtain ⟨v, ps, hrun, hv⟩ := h1.lookup key_law Try.underlying59 (zero_bool w) (plainElem_bool Try.underlying4 false) (key := .int .u64 k) (keyOf_int_mk Try.underlying22 hk)
  rw [h3 k hk] at hv
  cases v with
  | bool x =>
    rw [plainElem_bool Try.underlying4] at hv
    simp only [Option.some.injEq, Prod.mk.injEq, DataW.lit.injEq, Lit.bool.injEq] at hv
    rw [hrun, hv.1]
  | _ => simp [plainElem, Try.underlying4] at hv
theorem Had.put {w : World} {b n : Nat} {S : List Int} (h : Had w b n S) (k : Int) (hk : (Lit.int .u64 k).wf = true) (hn : n < maxLen) :
    ∃ w', (Instr.mapUpdate 59 (.map (some b)) (.int .u64 k) (.bool true)).run Try.prog w = .ok () w' ∧ Had w' b (n + 1) (k :: S) ∧ w.grownBy w' (some b) := by
  obtain ⟨D, h1, h2, h3⟩ := h
  obtain ⟨w', hrun, h4, h5⟩ := h1.update key_law Try.underlying59 hn (key := .int .u64 k) (keyOf_int_mk Try.underlying22 hk) (plainElem_bool Try.underlying4 true)
  refine ⟨w', hrun, ⟨_, h4, h4.isMap, fun j hj => ?_⟩, h5⟩
  by_cases hjk : j = k
  · subst hjk
    rw [atKey_put_same h2 (k := .int .u64 j) trivial]; simp
  · rw [atKey_put_other (by intro e; injection e; contradiction), h3 j hj]
    simp [hjk]

/-- m[k] = true, at either spelling of the operation. -/
theorem wp_put {ops : Array Oper} {rest : List Oper} {o : Oper} {a : Act} {Q : Exit → Act → World → Prop} {w : World} (hg : o.guard = none) (m x v : Operand)
    (hop : o.op = Op.mapUpdate 59 m x v ∨ o.op = Op.insert 59 m x v) {b n : Nat} {S : List Int} {k : Int} (h : Had w b n S) (hm : a.eval m = .map (some b)) (hx : a.eval x = .int .u64 k) (hv : a.eval v = .bool true)
    (hk : (Lit.int .u64 k).wf = true) (hn : n < maxLen)
    (hK : ∀ w', Had w' b (n + 1) (k :: S) → w.grownBy w' (some b) → wpList Try.prog ops Q rest (a.put o.dst undef) w') : wpList Try.prog ops Q (o :: rest) a w := by
  refine wpList_plain hg fun K' hK' => ?_
  obtain ⟨w', hrun, r1, r2⟩ := h.put k hk hn
  unfold Oper.wp
  rcases hop with hop | hop
  · simp [execOp, hop, hm, hx, hv, hrun, Result.andThen]
    exact hK' _ _ (hK w' r1 r2)
  · simp [execOp, hop, hm, hx, hv, hrun, Result.andThen]
    exact hK' _ _ (hK w' r1 r2)

/-- m[k]. -/
theorem wp_look {ops : Array Oper} {rest : List Oper} {o : Oper} {a : Act} {Q : Exit → Act → World → Prop} {w : World} (hg : o.guard = none) (m x : Operand)
    (hop : o.op = Op.lookup 59 m x false) {b n : Nat} {S : List Int} {k : Int} (h : Had w b n S) (hm : a.eval m = .map (some b)) (hx : a.eval x = .int .u64 k)
    (hk : (Lit.int .u64 k).wf = true) (hK : wpList Try.prog ops Q rest (a.put o.dst (.bool (decide (k ∈ S)))) w) : wpList Try.prog ops Q (o :: rest) a w := by
  refine wpList_plain hg fun K' hK' => ?_
  have hrun := h.look k hk
  unfold Oper.wp
  simp [execOp, hop, hm, hx, hrun, Result.andThen]
  exact hK' _ _ (by simpa using hK)
end Go.Proofs.Ytpngkdhfjginlaa
