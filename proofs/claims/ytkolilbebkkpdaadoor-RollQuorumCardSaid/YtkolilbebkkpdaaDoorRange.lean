/-
  A range over a function whose iterator keeps state of its own in cells: two laws for any program. (1) entering the statement: the iterator is called with yield in the world with the loop's record laid. (2) a call of yield is one round of the body.
-/
import Derived.RangeFuncNested
import Derived.RangeFuncBound
import Derived.RangeFuncCalls
import Derived.RangeFuncLeaves
import Derived.WalkKit
namespace Go.Proofs.YtkolilbebkkpdaaDoor
open Go.RowKit

/-- The record of a loop over a function. -/
def lrec (fn : FuncId) (tmps : Array Value) (ps : Array Tmp) (assign body : Code) (D : Nat) (st : LoopState) (pe : Option Code) : Loop :=
  { state := st, pending := pe, fn, tmps, params := ps, assign, body, defers := D }

variable {F : Fence} {n : Nat} {P : Program}

/-- How a round's body may be left: off its end, by a return, by a break or continue of an outer loop. -/
def lpost (l : Nat) (r : LoopState → Option Code → Loop) (R : Ending → World → Prop) : Exit → Act → World → Prop
  | .normal, _, W => W.heap[l]? = some (.loop (r .busy none)) ∧ R (.returned (.bool true)) (W.putObj l (.loop (r .ready none)))
  | .ret, _, W => W.heap[l]? = some (.loop (r .busy none)) ∧ R (.returned (.bool false)) (W.putObj l (.loop (r .done (some .ret))))
  | .exit id, _, W => W.heap[l]? = some (.loop (r .busy none)) ∧ R (.returned (.bool false)) (W.putObj l (.loop (r .done (some (.exit id)))))
  | _, _, _ => False

/-- One round. -/
theorem yield_round {l : Nat} {fn : FuncId} {tmps : Array Value} {ps : Array Tmp} {assign body : Code} {D : Nat} {args : Array Value} {W : World} {R : Ending → World → Prop} (hF : F.fn fn)
    (hl : W.heap[l]? = some (.loop (lrec fn tmps ps assign body D .ready none))) (hs : args.size = ps.size) (a₁ : Act)
    (hassign : ∀ K : Act → World → Prop, K a₁ W → assign.wpIn (F.inRound l) n P (Exit.then K (fun _ _ _ => False)) { tmps := (ps.zip args).foldl (fun t (p, v) => t.setIfInBounds p v) tmps, defers := [] } W)
    (hbody : body.wpIn (F.inRound l) n P (lpost l (lrec fn tmps ps assign body D) R) a₁ (W.putObj l (.loop (lrec fn tmps ps assign body D .busy none)))) :
    YieldAt F n P l args W R := by
  have hy := run_yield (P := P) (args := args) hl hs
  refine ⟨fn, _, assign, body, hy, roundIn_of_wpIn hF (hassign _ ⟨_, run_beginRound hl rfl, ?_⟩)⟩
  refine wpIn_mono hbody ?_
  rintro e a3 W3 hp
  cases e with
  | normal => exact ⟨_, _, run_endRound none hp.1, hp.2⟩
  | ret => exact ⟨_, _, run_endRound (some .ret) hp.1, hp.2⟩
  | exit id => exact ⟨_, _, run_endRound (some (.exit id)) hp.1, hp.2⟩
  | goto t => exact hp.elim
  | panic ch => exact hp.elim
  | outgrown => exact hp.elim

/-- Where the iterator has returned. -/
def lend (F : Fence) (n : Nat) (P : Program) (l : Nat) (r : LoopState → Option Code → Loop) (Q : Exit → Act → World → Prop) (a : Act) (W : World) : Prop :=
  (W.heap[l]? = some (.loop (r .ready none)) ∧ Q .normal a (W.putObj l (.loop (r .exhausted none)))) ∨
  (∃ c : Code, W.heap[l]? = some (.loop (r .done (some c))) ∧ c.wpIn F n P Q a (W.putObj l (.loop (r .exhausted (some c)))))

/-- The statement. -/
theorem range_enter {g : Operand} {ps : Array Tmp} {assign body : Code} {Q : Exit → Act → World → Prop} {a : Act} {w : World}
    (hro : F.round = none) (h1 : 1 ≤ n) (gf : Nat) (lb : Array Value) (hg : a.eval g = .func (.func gf) #[] lb) (hFg : F.fn gf) (eg : ∀ args w, (callFunc gf args).run P w = .ok (.enter gf args) w)
    (hcall : ∀ fn, F.fn fn → CallsIn F (n - 1) P gf (#[.func (.yield (w.heap.size + 1)) #[] #[]] ++ lb) ((w.alloc (.deferred (some []))).alloc (.loop (lrec fn a.tmps ps assign body w.heap.size .ready none))) fun e W =>
      (∃ v, e = .returned v) ∧ lend F n P (w.heap.size + 1) (lrec fn a.tmps ps assign body w.heap.size) Q { a with defers := { target := .collected w.heap.size, args := #[] } :: a.defers } W) :
    (Code.rangeFunc g ps assign body).wpIn F n P Q a w := by
  refine wpIn_rangeFunc ?_
  intro fn hfn
  rw [hro]
  have hrun : (Instr.enterLoop fn a.tmps ps assign body none).run P w = .ok (w.heap.size + 1, [{ target := .collected w.heap.size, args := #[] }]) ((w.alloc (.deferred (some []))).alloc (.loop (lrec fn a.tmps ps assign body w.heap.size .ready none))) := run_enterLoop_outer _ _ _ _ _
  have hc := hcall fn hfn
  generalize (w.alloc (.deferred (some []))).alloc (.loop (lrec fn a.tmps ps assign body w.heap.size .ready none)) = W1 at hrun hc
  refine ⟨w.heap.size + 1, [{ target := .collected w.heap.size, args := #[] }], W1, { target := .fn (.func gf) lb, args := #[.func (.yield (w.heap.size + 1)) #[] #[]] }, W1, gf,
    #[.func (.yield (w.heap.size + 1)) #[] #[]] ++ lb, W1, hrun, ?_, ?_, ?_, fun _ => h1, ?_⟩
  · simp only [resolve, hg]
    simp [go_sem]
  · intro f' hf'; simp [Target.leads] at hf'; subst hf'; exact hFg
  · simp [invoke, go_sem, eg]
  · refine hc.mono ?_
    rintro e W ⟨⟨v, rfl⟩, (⟨hl, hq⟩ | ⟨c, hl, hq⟩)⟩
    · exact ⟨none, _, run_endLoop hl (by intro h; cases h), hq⟩
    · exact ⟨some c, _, run_endLoop hl (by intro h; cases h), hq⟩
end Go.Proofs.YtkolilbebkkpdaaDoor
