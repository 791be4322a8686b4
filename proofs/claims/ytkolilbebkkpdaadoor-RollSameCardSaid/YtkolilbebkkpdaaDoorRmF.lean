/-
  The closing of a law on rolls: what the listed table holds; a row of numbers opened.
  Lists of operations, of names.
  The first operations.
  A region that draws its order, of reads and calls that make memory, with a tail that waits for all of them: one walk in the text's order.
  A roll of one's own among other memory; numbers' lists that grow beside it; operations in variables.
  Numbers sorted by putting each in where it belongs; plain Lean.
  Numbers sorted: the document's.
-/
import Derived.Test.YtkolilbebkkpdaaDoorRmA
import Derived.Test.YtkolilbebkkpdaaDoorRmC
import Derived.Test.YtkolilbebkkpdaaDoorTie
import Derived.LaidMore
import Derived.Stop.Joined
import Derived.SevenTiedAt
import Derived.Test.YtkolilbebkkpdaaDoorRmE
import Derived.Deep.MidRow
import Derived.Great.Walk
import Derived.StillTail
import Derived.Test.YtkolilbebkkpdaaDoorRmD
namespace Go.Proofs.YtkolilbebkkpdaaDoor
open Go.ChangeShapes Go.WideShapes Go.ChangeAt Go.RowKit

theorem gAsks : Tryd.prog.globalNamed "huddle/roll.asks" = some 0 := by kernel_rfl
theorem tAsks : (Tryd.prog.globals[0]?).map (·.type) = some 97 := by kernel_rfl
theorem cellsFn : Tryd.prog.cellsOf 96 = 1 := by kernel_rfl
theorem cellsAsks : Tryd.prog.cellsOf 97 = 14 := by kernel_rfl
theorem nil_of_trod {H : Type} {enc : TypeId × Value → H} {P : Program} {w : World} {base : Nat} {sp : Nat → Bool} {held : Bool} {fuel : Nat} {t : TypeId} {ps rs : Array TypeId} {va : Bool} {v : Value} {q : List MemPlace}
  (ht : P.underlying t = some (.func ps rs va)) (h : DataW.trod enc P w base sp held fuel t [v] = some (.nil, q)) : v = .nilFunc := by
 cases fuel with
 | zero => simp [DataW.trod] at h
 | succ n =>
  cases v <;> simp [DataW.trod, ht] at h
  rfl
set_option maxRecDepth 100000 in
theorem asks_of_laid {W : World} {l : List (String × DataW Unit)} (hm : ("huddle/roll.asks", Rows.laid_huddle_roll_asks) ∈ l) (h : laidMetH Tryd.prog l W) : Asks W := by
 obtain ⟨g, t, cs, fuel, p, hg, ht, hv, hd⟩ := h.funcs hm
 obtain rfl := Option.some.inj (gAsks.symm.trans hg)
 obtain rfl := Option.some.inj (tAsks.symm.trans ht)
 obtain ⟨xs, m, _, ex, hlen, hl, hel⟩ := DataW.trod_array Tryd.underlying97 hd
 rw [cellsAsks] at hlen
 have ex1 := (Prod.mk.inj ex).1
 have hat : ∀ (i : Nat) (d : DataW (List UInt8)), i < 14 → (xs.map (·.1))[i]? = some d → ∃ v q, W.cell? ⟨0, i, none⟩ = some v ∧ DataW.trod (funcToken Tryd.prog) Tryd.prog W 0 (fun _ => true) true m 96 [v] = some (d, q) := by
  intro i d hi hd
  have h1 := hel i hi
  rw [cellsFn, Nat.mul_one] at h1
  have hi2 : i < xs.length := by omega
  rw [List.getElem?_map, List.getElem?_eq_getElem hi2] at hd
  have hd2 : xs[i].1 = d := by simpa using hd
  rw [List.getElem?_eq_getElem hi2] at h1
  have hic : i < cs.toList.length := by omega
  have h2 : (cs.toList.drop i).take 1 = [cs.toList[i]] := by
   rw [List.drop_eq_getElem_cons hic]; rfl
  rw [h2] at h1
  refine ⟨cs.toList[i], xs[i].2, ?_, ?_⟩
  ·rw [World.var?_cell hg hv i, ← Array.getElem?_toList, List.getElem?_eq_getElem hic]
  ·rw [h1, ← hd2]
 have ex2 := DataW.agg.inj ex1
 obtain ⟨v0, q0, c0, r0⟩ := hat 0 _ (by decide) (by rw [← ex2]; rfl)
 obtain rfl := nil_of_trod Tryd.underlying96 r0
 obtain ⟨v1, q1, c1, r1⟩ := hat 1 _ (by decide) (by rw [← ex2]; rfl)
 obtain rfl := nil_of_trod Tryd.underlying96 r1
 obtain ⟨v2, q2, c2, r2⟩ := hat 2 _ (by decide) (by rw [← ex2]; rfl)
 obtain rfl := func_of_trod (f0 := 121) Tryd.underlying96 (by kernel_rfl) r2
 obtain ⟨v3, q3, c3, r3⟩ := hat 3 _ (by decide) (by rw [← ex2]; rfl)
 obtain rfl := func_of_trod (f0 := 123) Tryd.underlying96 (by kernel_rfl) r3
 obtain ⟨v4, q4, c4, r4⟩ := hat 4 _ (by decide) (by rw [← ex2]; rfl)
 obtain rfl := nil_of_trod Tryd.underlying96 r4
 obtain ⟨v5, q5, c5, r5⟩ := hat 5 _ (by decide) (by rw [← ex2]; rfl)
 obtain rfl := func_of_trod (f0 := 124) Tryd.underlying96 (by kernel_rfl) r5
 obtain ⟨v6, q6, c6, r6⟩ := hat 6 _ (by decide) (by rw [← ex2]; rfl)
 obtain rfl := func_of_trod (f0 := 125) Tryd.underlying96 (by kernel_rfl) r6
 obtain ⟨v7, q7, c7, r7⟩ := hat 7 _ (by decide) (by rw [← ex2]; rfl)
 obtain rfl := nil_of_trod Tryd.underlying96 r7
 obtain ⟨v8, q8, c8, r8⟩ := hat 8 _ (by decide) (by rw [← ex2]; rfl)
 obtain rfl := func_of_trod (f0 := 126) Tryd.underlying96 (by kernel_rfl) r8
 obtain ⟨v9, q9, c9, r9⟩ := hat 9 _ (by decide) (by rw [← ex2]; rfl)
 obtain rfl := func_of_trod (f0 := 127) Tryd.underlying96 (by kernel_rfl) r9
 obtain ⟨v10, q10, c10, r10⟩ := hat 10 _ (by decide) (by rw [← ex2]; rfl)
 obtain rfl := func_of_trod (f0 := 130) Tryd.underlying96 (by kernel_rfl) r10
 obtain ⟨v11, q11, c11, r11⟩ := hat 11 _ (by decide) (by rw [← ex2]; rfl)
 obtain rfl := func_of_trod (f0 := 131) Tryd.underlying96 (by kernel_rfl) r11
 obtain ⟨v12, q12, c12, r12⟩ := hat 12 _ (by decide) (by rw [← ex2]; rfl)
 obtain rfl := func_of_trod (f0 := 130) Tryd.underlying96 (by kernel_rfl) r12
 obtain ⟨v13, q13, c13, r13⟩ := hat 13 _ (by decide) (by rw [← ex2]; rfl)
 obtain rfl := func_of_trod (f0 := 132) Tryd.underlying96 (by kernel_rfl) r13
 exact ⟨c0, c1, c2, c3, c4, c5, c6, c7, c8, c9, c10, c11, c12, c13⟩
/-- The door's own heap meets the condition. -/
theorem door_asks (os : Os) (args : Array Value) : laidMetH Tryd.prog [("huddle/roll.asks", Rows.laid_huddle_roll_asks)] ((World.doorLaid Tryd.prog 900 os).forCall (fun _ _ => 0) ⟨#[], args, []⟩).memory :=
 laidMetH_of_parts3 (fuel := 8) (laidMet_of_run' 8 (by kernel_rfl) (by kernel_rfl)) (by kernel_rfl) (by kernel_rfl)
end Go.Proofs.YtkolilbebkkpdaaDoor

namespace Go.Proofs.YtkolilbebkkpdaaDoor
open Go.RowKit Go.Maps

/-- An operation with where its guards lie. -/
def opE : El (OpI × Option Addr × Nat) where
 t := 42
 st := 27
 sz := 27
 bt := 328
 z := .agg (opC eZ none 0)
 c := fun x => (opC x.1 x.2.1 x.2.2).toList
 hlen := fun _ => rfl
 hone := fun x u hu => (Array.all_eq_true_iff_forall_mem.1 (opC_one x.1 x.2.1 x.2.2)) u (by simpa using hu)
 hund := Tryd.underlying27
 hinf := by kernel_rfl
 hz := rfl
 hp := by decide
 hb := by decide
def idE : El Idn where
 t := 34
 st := 30
 sz := 3
 bt := 24
 z := .agg #[.int .i64 0, .int .i64 0, .int .u64 0]
 c := fun i => [.int .i64 i.b, .int .i64 i.s, .int .u64 i.u]
 hlen := fun _ => rfl
 hone := fun x u hu => by
  simp only [List.mem_cons, List.not_mem_nil, or_false] at hu
  rcases hu with rfl | rfl | rfl <;> rfl
 hund := Tryd.underlying30
 hinf := by kernel_rfl
 hz := rfl
 hp := by decide
 hb := by decide
/-- An operation of a list, loaded whole. -/
theorem wpL_loadO {ops : Array Oper} {rest : List Oper} {o : Oper} {a : Act} {w : World} {Q : Exit → Act → World → Prop} (hgd : o.guard = none) (x : Operand) (ho : o.op = .load 42 x) (b k : Nat) (hx : a.eval x = .pointer (some ⟨b, k, none⟩))
  (n : OpI) (gp : Option Addr) (gc : Nat) (hc : ∀ j u, (opC n gp gc)[j]? = some u → w.cell? ⟨b, k + j, none⟩ = some u) (h : wpList Tryd.prog ops Q rest (a.put o.dst (.agg (opC n gp gc))) w) : wpList Tryd.prog ops Q (o :: rest) a w :=
 wpList_load_mid hgd 42 x ho b k hx (opC n gp gc).toList _ (fun j u hu => hc j u (by simpa using hu)) Tryd.underlying42 rfl (by rw [opC_info n gp gc]; rfl) (by simpa using h)
/-- In a region: the same value wherever the cells stand. -/
theorem run_loadO {W : World} {b k : Nat} {n : OpI} {gp : Option Addr} {gc : Nat} {ρ : Operand → Value} {o : Oper} {x : Operand} (hc : ∀ j u, (opC n gp gc)[j]? = some u → W.cell? ⟨b, k + j, none⟩ = some u) (hop : o.op = .load 42 x) (hx : ρ x = .pointer (some ⟨b, k, none⟩)) : (execOp ρ o).run Tryd.prog W = .ok (.value (.agg (opC n gp gc))) W := by
 have := run_loadVar_mid (P := Tryd.prog) W b k 42 (opC n gp gc).toList _ (fun j u hu => hc j u (by simpa using hu)) Tryd.underlying42 rfl (by rw [opC_info n gp gc]; rfl)
 unfold execOp
 simp only [hop, hx, Instr.loadAt, Instr.sureAddr, Sem.run_bind, Sem.run_pure, Result.andThen_ok, this, Array.toArray_toList]
theorem RdE.op {w : World} {p : Option Addr} {l : List (OpI × Option Addr × Nat)} (h : RdE opE w p l) {i : Nat} (hi : i < l.length) : ∃ b off, p = some ⟨b, off, none⟩ ∧ b < w.heap.size ∧ ∀ j u, (opC l[i].1 l[i].2.1 l[i].2.2)[j]? = some u → w.cell? ⟨b, off + i * 27 + j, none⟩ = some u := by
 obtain ⟨b, off, hp, hb, hc⟩ := h i hi
 exact ⟨b, off, hp, hb, fun j u hu => hc j u (by show (opC l[i].1 l[i].2.1 l[i].2.2).toList[j]? = some u; simpa using hu)⟩
end Go.Proofs.YtkolilbebkkpdaaDoor

namespace Go.Proofs.YtkolilbebkkpdaaDoor
open Go.RowKit Go.Maps

def f1 : OpI := ⟨1, 2, 2, 0, 2, 0, 0, 3, ⟨0, 0, 0⟩, [], 0, 0⟩
def f2 : OpI := ⟨1, 3, 2, 0, 3, 0, 0, 2, ⟨0, 0, 0⟩, [], 0, 0⟩
def f0 : OpI := ⟨1, 1, 1, 0, 0, 0, 0, 0, ⟨0, 0, 0⟩, [], 3, 0⟩
def firstL : List (OpI × Option Addr × Nat) := [(f0, none, 0), (f1, none, 0), (f2, none, 0)]
theorem OwnE.fresh {α : Type} (E : El α) (w : World) (l : List α) (_h0 : l ≠ []) (hl : l.length ≤ 1000) : OwnE E (w.alloc (.cells (l.flatMap E.c).toArray E.t)) w.heap.size (.slice (some ⟨w.heap.size, 0, none⟩) l.length l.length) l := by
 refine ⟨by rw [flat_len], .inr ⟨w.heap.size, l.length, (l.flatMap E.c).toArray, rfl, Nat.le_refl _, World.alloc_heap_new w _, Nat.le_refl _, by unfold maxLen; omega, by show (l.flatMap E.c).toArray.size = _; rw [List.size_toArray, flat_len], ?_⟩⟩
 show (l.flatMap E.c).take _ = _
 exact List.take_of_length_le (by rw [flat_len]; exact Nat.le_refl _)
end Go.Proofs.YtkolilbebkkpdaaDoor

namespace Go.Proofs.YtkolilbebkkpdaaDoor
open Go.RowKit Go.Maps Go.BigFrame

section
variable {P : Program} {md : Region.Mode} {ops : Array Oper} {C : World → Prop}
def wpAnyLQ (P : Program) (md : Region.Mode) (ops : Array Oper) (C : World → Prop) (n : Nat) (L : Array Bool → Act → Prop) : Nat → Array Bool → Act → Prop
 | 0, listed, a => L listed a
 | f + 1, listed, a =>
  Region.ready md ops listed ≠ [] ∧ ∀ i ∈ Region.ready md ops listed, i < n ∧ qOp P ops C i (wpAnyLQ P md ops C n L f (listed.setIfInBounds i true)) a
theorem wpAny_of_headQ {n g : Nat} {L : Array Bool → Act → Prop} {Q' : Exit → Act → World → Prop} (hL : ∀ listed a w, C w → L listed a → wpAny P md ops Q' g listed a w) :
  ∀ (f : Nat) (listed : Array Bool) (a : Act) (w : World), C w → wpAnyLQ P md ops C n L f listed a → wpAny P md ops Q' (f + g) listed a w
 | 0, listed, a, w, hC, h => by rw [Nat.zero_add]; exact hL _ _ _ hC h
 | f + 1, listed, a, w, hC, h => by
  rw [show f + 1 + g = (f + g) + 1 by omega]
  exact ⟨fun h0 => absurd h0 h.1, fun i hi => wpOp_of_qOp hC (fun a' w' hw' h' => wpAny_of_headQ hL f _ a' w' hw' h') (h.2 i hi).2⟩
theorem wpAnyLQ_first {n i : Nat} {oi : Oper} {v : Value} {L : Array Bool → Act → Prop} (hi : ops[i]? = some oi) (hsel : ∀ (j : Nat) (o : Oper) cs b, ops[j]? = some o → o.op ≠ .select cs b)
  (hs : Region.sinkB md ops n = true) (hc : Region.chainB md ops n = true) (hn : n < ops.size) (hin : i < n)
  (hdone : ∀ listed a, L listed a → ∀ j ∈ Region.ready md ops listed, n ≤ j) :
  ∀ (f : Nat) (listed : Array Bool) (a : Act), HeadInv md ops n listed →
   (∀ j oj, ops[j]? = some oj → j ≠ i → listed.getD j true = false → (∀ e ∈ oj.after, Region.binds md e = true → e.on ≠ i) → oi.apart ops oj = true) →
   i ∈ Region.ready md ops listed → YieldsIn P ops C oi v a →
   wpAnyLQ P md ops C n L f (listed.setIfInBounds i true) (a.put oi.dst v) → wpAnyLQ P md ops C n L (f + 1) listed a := by
 intro f
 induction f with
 | zero =>
  intro listed a inv _ hr hy H
  have hun := (mem_ready.1 hr).1
  refine ⟨fun h => (by rw [h] at hr; cases hr), fun j hj => ?_⟩
  have hjn : j < n := by
   rcases Nat.lt_or_ge j n with h | h
   ·exact h
   ·exact absurd hj (tail_waits hs hc hn inv _ i rfl hin hun j h)
  refine ⟨hjn, ?_⟩
  by_cases hji : j = i
  ·subst hji; exact hy.qOp hi H
  ·have := hdone _ _ H j (ready_mono hj hji)
   omega
 | succ f ih =>
  intro listed a inv hfree hr hy H
  have hun := (mem_ready.1 hr).1
  refine ⟨fun h => (by rw [h] at hr; cases hr), fun j hj => ?_⟩
  have hjn : j < n := by
   rcases Nat.lt_or_ge j n with h | h
   ·exact h
   ·exact absurd hj (tail_waits hs hc hn inv _ i rfl hin hun j h)
  refine ⟨hjn, ?_⟩
  by_cases hji : j = i
  ·subst hji; exact hy.qOp hi H
  ·have h1 := (H.2 j (ready_mono hj hji)).2
   obtain ⟨hjun, oj, hoj, hall⟩ := mem_ready.1 hj
   have hnot : ∀ e ∈ oj.after, Region.binds md e = true → e.on ≠ i := fun e he hb heq => by
    have h1 := hall e he hb
    rw [heq, getD_both hun] at h1
    cases h1
   have h2 := qOp_put hoj (hfree j oj hoj hji hjun hnot) (fun cs b => hsel i oi cs b hi) (fun cs b => hsel j oj cs b hoj) hy h1
   have hfree' : ∀ k ok, ops[k]? = some ok → k ≠ i → (listed.setIfInBounds j true).getD k true = false →
     (∀ e ∈ ok.after, Region.binds md e = true → e.on ≠ i) → oi.apart ops ok = true := fun k ok hk hki hun hno => by
    refine hfree k ok hk hki ?_ hno
    by_cases hjk : j = k
    ·subst hjk; exact hjun
    ·rw [getD_set_ne true hjk] at hun; exact hun
   refine qOp_mono (fun a' h3 => ih (listed.setIfInBounds j true) a' (inv.set hj hjn) hfree' (ready_mono hr (Ne.symm hji)) h3.1 ?_) h2
   rw [Array.setIfInBounds_comm _ _ hji]
   exact h3.2
theorem wpAnyLQ_lex {n g : Nat} {Lq : Act → Prop} (hsel : Region.noSelect ops = true) (hs : Region.sinkB md ops n = true) (hc : Region.chainB md ops n = true) (hn : n < ops.size) :
  ∀ (l : List Oper) (k : Nat) (listed : Array Bool) (a : Act), (∀ j, j < l.length → l[j]? = ops[k + j]?) → k + l.length = n → HeadInv md ops n listed →
  Region.lexHead md ops g l.length k listed = true → wpQuiet P ops C Lq l a →
  wpAnyLQ P md ops C n (fun listed' a' => Region.seqB md ops g n listed' = true ∧ Lq a') l.length listed a
 | [], k, listed, a, _, hk, _, hB, h => by
  have : k = n := by simpa using hk
  subst this
  exact ⟨by simpa [Region.lexHead] using hB, h⟩
 | o :: l, k, listed, a, hl, hk, inv, hB, h => by
  have h0 : ops[k]? = some o := by simpa using (hl 0 (by simp)).symm
  simp only [List.length_cons, Region.lexHead, Bool.and_eq_true] at hB
  obtain ⟨⟨hr, hf⟩, hB'⟩ := hB
  have hkn : k < n := by simp only [List.length_cons] at hk; omega
  have hr' : k ∈ Region.ready md ops listed := by simpa using hr
  have hst : qOp P ops C k (wpQuiet P ops C Lq l) a := by unfold qOp; simp only [h0]; exact h
  obtain ⟨v, hy, hK⟩ := yieldsIn_of_qOp h0 hst
  exact wpAnyLQ_first h0 (Region.noSelect_spec hsel) hs hc hn hkn (fun listed' a' hL => seqB_ready hL.1) l.length listed a inv (Region.free_spec h0 hf) hr' hy
   (wpAnyLQ_lex hsel hs hc hn l (k + 1) _ _ (fun j hj => by have := hl (j + 1) (by simp; omega); simpa [Nat.add_assoc, Nat.add_comm 1 j] using this) (by simp only [List.length_cons] at hk; omega) (inv.set hr' hkn) hB' hK)
theorem wp_region_quiet_tail {id : Nat} {Q : Exit → Act → World → Prop} {a : Act} {w : World} {l : List Oper} (n : Nat) (hm : P.follows .mixedOrders = true) (hB : Region.lexTailB .any l.toArray n = true) (hC : C w.drew)
  (h : wpQuiet P l.toArray C (fun a' => ∀ w', C w' → wpList P l.toArray Q (l.drop n) a' w') (l.take n) a) : (Code.region id l.toArray true).wp P Q a w := by
 simp only [Region.lexTailB, Bool.and_eq_true, decide_eq_true_eq] at hB
 obtain ⟨⟨⟨⟨hsel, hn⟩, hs⟩, hc⟩, hlex⟩ := hB
 have hn' : n < l.length := by simpa using hn
 have htl : (l.take n).length = n := by simp; omega
 have hdl : (l.drop n).length = l.toArray.size - n := by simp
 have inv0 : HeadInv .any l.toArray n (Array.replicate l.toArray.size false) :=
  ⟨by simp, fun j oj _ hl => (by rw [getD_replicate_false] at hl; cases hl), fun t _ ht => getD_in (by simpa using ht) (getD_replicate_false _ _)⟩
 have H := wpAnyLQ_lex (P := P) (C := C) (md := .any) (g := l.toArray.size - n) hsel hs hc hn (l.take n) 0 _ a (fun j hj => by
  have hj' : j < n := by rw [htl] at hj; exact hj
  simp [hj']) (by simpa using htl) inv0 (by rw [htl]; exact hlex) h
 refine wp_region_any hm ?_
 have := wpAny_of_headQ (Q' := Q) (g := l.toArray.size - n) (fun listed a' w' hw' hL => by
  have := wpAny_of_seq (md := .any) (Q' := Q) (l.drop n) n listed a' w' (fun j => by simp [List.getElem?_drop]) (by rw [hdl]; exact hL.1) (hL.2 w' hw')
  rwa [hdl] at this) _ _ _ _ hC H
 rw [htl, show n + (l.toArray.size - n) = l.toArray.size by omega] at this
 exact this
end
/-- All but the tail only reads, or makes memory. -/
theorem wp_region_gr_tail {P : Program} {id : Nat} {Q : Exit → Act → World → Prop} {a : Act} {w : World} {l : List Oper} (n : Nat) (hm : P.follows .mixedOrders = true) (hB : Region.lexTailB .any l.toArray n = true)
  (h : wpQuiet P l.toArray (fun W => ∃ x : GrIn w, W = x.at_) (fun a' => ∀ w', (∃ x : GrIn w, w' = x.at_) → wpList P l.toArray Q (l.drop n) a' w') (l.take n) a) : (Code.region id l.toArray true).wp P Q a w :=
 wp_region_quiet_tail (C := fun W => ∃ x : GrIn w, W = x.at_) n hm hB ⟨⟨_, (Below.refl _ w).drew⟩, rfl⟩ h
theorem wp_post_eq {P : Program} {c : Code} {Q : Exit → Act → World → Prop} {a A : Act} {w : World} (R : World → Prop) (h : c.wp P (fun e a' w' => e = .normal ∧ a' = A ∧ R w') a w) (k : ∀ w', R w' → Q .normal A w') : c.wp P Q a w :=
 Code.wp_mono (fun e a' w' ⟨he, ha, hr⟩ => by subst he; subst ha; exact k w' hr) h
end Go.Proofs.YtkolilbebkkpdaaDoor

namespace Go.Proofs.YtkolilbebkkpdaaDoor
open Go.RowKit Go.Maps Go.BigFrame

/-- A roll at r, of one's own: made behind w0 (B: its size). -/
structure SitW (B r : Nat) (w0 W : World) (y : Lay) (s : RS) : Prop where
 roll : RollAt W y s
 hr : y.r = r
 far : ∀ i ∈ y.foot, B ≤ i
 below : Below B w0 W
 asks : Asks W
 hB : B ≤ W.heap.size
/-- What lies in some blocks stays, and stays outside of the roll. -/
def Keeps (W W' : World) (y y' : Lay) : Prop := ∀ i, i < W.heap.size → i ∉ y.foot → W'.heap[i]? = W.heap[i]? ∧ i ∉ y'.foot
def NextR (B r : Nat) (w0 W : World) (y : Lay) (s' : RS) (W' : World) : Prop := ∃ y', SitW B r w0 W' y' s' ∧ W.heap.size ≤ W'.heap.size ∧ Keeps W W' y y'
section
variable {B r : Nat} {w0 W W' : World} {y : Lay} {s s' : RS}
theorem SitW.call (h : SitW B r w0 W y s) (hb : Below W.heap.size W W') : SitW B r w0 W' y s :=
 ⟨h.roll.below hb, h.hr, h.far, h.below.trans (hb.mono h.hB), h.asks.below hb, Nat.le_trans h.hB hb.size⟩
theorem SitW.doo (h : SitW B r w0 W y s) (h0 : 0 < B) (hG : GoesTo W y s' W') : NextR B r w0 W y s' W' := by
 obtain ⟨y', hR, hr, hT⟩ := hG
 have ho : ∀ i, i < W.heap.size → i ∉ y.foot → i ∉ y'.foot := fun i hi hn hf => by
  rcases hT.new i hf with h1 | h1
  ·exact hn h1
  ·omega
 refine ⟨y', ⟨hR, hr.trans h.hr, fun i hi => ?_, h.below.trans (hT.below h.far h.hB), h.asks.turn hT fun hz => by have := h.far 0 hz; omega, Nat.le_trans h.hB hT.size⟩, hT.size, fun i hi hn => ⟨hT.blk i hi hn, ho i hi hn⟩⟩
 rcases hT.new i hi with h1 | h1
 ·exact h.far i h1
 ·exact Nat.le_trans h.hB h1
theorem NextR.pre {Z : World} (hb : Below W.heap.size W Z) (h : NextR B r w0 Z y s' W') : NextR B r w0 W y s' W' := by
 obtain ⟨y', h1, h2, h3⟩ := h
 refine ⟨y', h1, Nat.le_trans hb.size h2, fun i hi hn => ?_⟩
 obtain ⟨k1, k2⟩ := h3 i (Nat.lt_of_lt_of_le hi hb.size) hn
 exact ⟨k1.trans (hb.block i hi), k2⟩
theorem SitW.low (h : SitW B r w0 W y s) {i : Nat} (hi : i < B) : i ∉ y.foot := fun hf => by have := h.far i hf; omega
theorem SitW.high (h : SitW B r w0 W y s) {i : Nat} (hi : W.heap.size ≤ i) : i ∉ y.foot := fun hf => by have := h.roll.lt i hf; omega
/-- One block that is not the roll's grows. -/
theorem SitW.grown (h : SitW B r w0 W y s) {row : Option Nat} (hg : W.grownBy W' row) (hr : ∀ g, row = some g → B ≤ g ∧ g ∉ y.foot) (h0 : 0 < B) : SitW B r w0 W' y s := by
 have hb : ∀ i, i < W.heap.size → (∀ g, row = some g → i ≠ g) → W'.heap[i]? = W.heap[i]? := fun i hi hn => hg.block i hi (fun e => hn i e.symm rfl)
 refine ⟨h.roll.keep hg.size fun i hi => hb i (h.roll.lt i hi) fun g e1 e2 => (hr g e1).2 (e2 ▸ hi), h.hr, h.far, h.below.trans ⟨hg.os, hg.tape, hg.output, hg.size, fun i hi => hb i (Nat.lt_of_lt_of_le hi h.hB) fun g e1 e2 => by have := (hr g e1).1; omega⟩, h.asks.block (hb 0 (cell_lt h.asks.a0) fun g e1 e2 => by have := (hr g e1).1; omega), Nat.le_trans h.hB hg.size⟩
theorem Do_w (h : SitW B r w0 W y s) (h0 : 0 < B) (o : OpI) (gp : Option Addr) (gc : Nat) (i : Idn) (k : Nat) (hk : k ≤ 1000) (hs : s.Ok k) (ho : o.Ok) (hU : UI W gp o.gs.length o.gs) (hne : o.k = 9 → o.gs ≠ []) :
  Calls Tryd.prog 13 #[.pointer (some ⟨r, 0, none⟩), .agg (opC o gp gc), .agg #[.int .i64 i.b, .int .i64 i.s, .int .u64 i.u]] W fun e w' => e = .returned (.tuple #[]) ∧ NextR B r w0 W y (s.act o i) w' := by
 have := Do_any W y s o gp gc i k hk h.roll hs ho hU hne
 rw [h.hr] at this
 exact this.mono fun e w' ⟨he, hG⟩ => ⟨he, h.doo h0 hG⟩
theorem May_w (h : SitW B r w0 W y s) (o : OpI) (gp : Option Addr) (gc : Nat) (i : Idn) (k : Nat) (hk : k ≤ 1000) (hs : s.Ok k) (ho : o.Ok) (hU : UI W gp o.gs.length o.gs) :
  Calls Tryd.prog 16 #[.pointer (some ⟨r, 0, none⟩), .agg (opC o gp gc), .agg #[.int .i64 i.b, .int .i64 i.s, .int .u64 i.u]] W fun e w' => e = .returned (.int .i64 (s.may o)) ∧ Below W.heap.size W w' := by
 have := May_any W y s o gp gc i k hk h.asks h.roll hs ho hU
 rwa [h.hr] at this
theorem Role_w (h : SitW B r w0 W y s) (n : Int) (hn : i64ok n) :
  Calls Tryd.prog 19 #[.pointer (some ⟨r, 0, none⟩), .int .i64 n] W fun e w' => e = .returned (.int .i64 (s.role n)) ∧ W = w' := by
 have := Role_any W y s n h.roll hn
 rwa [h.hr] at this
end
theorem OpAt.keep {w w' : World} {b : Nat} {o : OpI} {gp : Option Addr} {gc : Nat} {y y' : Lay} (h : OpAt w b o gp gc) (hk : Keeps w w' y y') (hb : b ∉ y.foot) : OpAt w' b o gp gc := h.block (hk b (cell_lt h.cb) hb).1
theorem OwnI.same {w w' : World} {base : Nat} {v : Value} {n : Nat} {xs : List Int} (h : OwnI w base v n xs) (hb : ∀ g, v.ownBlock = some g → w'.heap[g]? = w.heap[g]?) : OwnI w' base v n xs := by
 refine ⟨h.len, ⟨h.row.1, ?_⟩, h.bd⟩
 rcases h.row.2 with h1 | ⟨g, cap, cur, hv, hg, hgb, h2⟩
 ·exact .inl h1
 ·exact .inr ⟨g, cap, cur, hv, hg, (hb g (by rw [hv]; rfl)).trans hgb, h2⟩
/-- A name in a variable. -/
def IdAt (w : World) (b : Nat) (i : Idn) : Prop := w.heap[b]? = some (.cells #[.int .i64 i.b, .int .i64 i.s, .int .u64 i.u] 34 (0, 0))
theorem IdAt.block {w w' : World} {b : Nat} {i : Idn} (h : IdAt w b i) (hb : w'.heap[b]? = w.heap[b]?) : IdAt w' b i := hb.trans h
theorem IdAt.lt {w : World} {b : Nat} {i : Idn} (h : IdAt w b i) : b < w.heap.size := blk_lt h
theorem IdAt.below {w w' : World} {b : Nat} {i : Idn} (h : IdAt w b i) (hb : Below w.heap.size w w') : IdAt w' b i := h.block (hb.block b h.lt)
theorem IdAt.made (w : World) (i : Idn) : IdAt (w.alloc (.cells #[.int .i64 i.b, .int .i64 i.s, .int .u64 i.u] 34)) w.heap.size i := by
 unfold IdAt
 rw [World.alloc_heap_new]
theorem run_buildOp {W : World} {ρ : Operand → Value} {o : Oper} {t : TypeId} {parts : Array (Nat × Operand)} (hop : o.op = .build t parts) {cells : Array Value} (hb : Tryd.prog.built t (parts.map fun (i, x) => (i, ρ x)).toList = some cells) : (execOp ρ o).run Tryd.prog W = .ok (.value (.agg cells)) W := by
 unfold execOp
 simp only [hop, Sem.run_bind, run_build W t _ cells hb, Result.andThen_ok]
 rfl
theorem wp_allocOp {o : Oper} {a : Act} {w : World} {K : Act → World → Prop} {Q : Exit → Act → World → Prop} (hop : o.op = .alloc 42) (h : K (a.put o.dst (.pointer (some ⟨w.heap.size, 0, none⟩))) (w.alloc (.cells (opC eZ none 0) 42))) : o.wp Tryd.prog a w K Q := by
 unfold Oper.wp
 have e : (execOp a.eval o).run Tryd.prog w = .ok (.value (.pointer (some ⟨w.heap.size, 0, none⟩))) (w.alloc (.cells (opC eZ none 0) 42)) := by
  unfold execOp
  simp only [hop, Sem.run_bind, run_allocOp, Result.andThen_ok, Sem.run_pure]
 rw [e]
 exact h
theorem wp_storeOp {o : Oper} {a : Act} {w : World} {K : Act → World → Prop} {Q : Exit → Act → World → Prop} (x y : Operand) (hop : o.op = .store 42 x y) {n : OpI} {gp : Option Addr} {gc : Nat} (hx : a.eval x = .pointer (some ⟨w.heap.size, 0, none⟩)) (hy : a.eval y = .agg (opC n gp gc))
  (h : K (a.put o.dst undef) (w.alloc (.cells (opC n gp gc) 42))) : o.wp Tryd.prog a (w.alloc (.cells (opC eZ none 0) 42)) K Q := by
 unfold Oper.wp
 have e : (execOp a.eval o).run Tryd.prog (w.alloc (.cells (opC eZ none 0) 42)) = .ok .skip (w.alloc (.cells (opC n gp gc) 42)) := by
  unfold execOp
  have := run_storeVar_new (P := Tryd.prog) w 42 (opC eZ none 0) (opC n gp gc) (opC_info n gp gc) rfl (opC_one n gp gc)
  simp only [hop, hx, hy, Instr.storeAt, Instr.sureAddr, Sem.run_bind, Sem.run_pure, Result.andThen_ok, this]
 rw [e]
 exact h
theorem OpAt.free {w : World} {b : Nat} {o : OpI} {gp : Option Addr} {gc : Nat} (h : OpAt w b o gp gc) (i : Nat) : w.frozen? ⟨b, i, none⟩ = false := by
 unfold OpAt at h
 simp [World.frozen?, h]
/-- Another tick. -/
theorem OpAt.setA {w : World} {b : Nat} {o : OpI} {gp : Option Addr} {gc : Nat} (h : OpAt w b o gp gc) (x : Int) : OpAt (w.setCell ⟨b, 3, none⟩ (.int .i64 x)) b ⟨o.b, o.s, o.k, x, o.d, o.o, o.m, o.r, o.f, o.gs, o.n, o.t⟩ gp gc := by
 unfold OpAt at h ⊢
 unfold World.setCell
 show (w.heap.modify b _)[b]? = _
 rw [Array.getElem?_modify, if_pos rfl, h]
 rfl
theorem Name_w (o : OpI) (gp : Option Addr) (gc : Nat) (n : Int) (w : World) (hk : 0 ≤ o.k ∧ o.k ≤ 1000000) (hn : 0 ≤ n ∧ n ≤ 1000000) {b s u : Int} (hb : o.b = b) (hs : n + 1 = s) (hu : o.k = u) :
  Calls Tryd.prog 14 #[.agg (opC o gp gc), .int .i64 n] w fun e w' => e = .returned (.agg #[.int .i64 b, .int .i64 s, .int .u64 u]) ∧ Below w.heap.size w w' := by
 subst hb; subst hs; subst hu
 exact Name_any o gp gc n w hk hn
theorem quiet_mid {C : World → Prop} {a : Act} {p : Oper} {K : Act → Prop} {b k : Nat} {n : OpI} {gp : Option Addr} {gc : Nat} (x : Operand) (h : p.op = .load 42 x) (hx : a.eval x = .pointer (some ⟨b, k, none⟩)) (hO : ∀ w, C w → ∀ j u, (opC n gp gc)[j]? = some u → w.cell? ⟨b, k + j, none⟩ = some u) (hk : K (a.put p.dst (.agg (opC n gp gc)))) : p.quiet Tryd.prog a C K :=
 ⟨_, fun w hc => by
  unfold Oper.quietAt
  rw [run_loadO (hO w hc) h hx]
  exact ⟨rfl, rfl⟩, hk⟩
end Go.Proofs.YtkolilbebkkpdaaDoor

namespace Go.Proofs.YtkolilbebkkpdaaDoor

/-- How many at the front are no greater. -/
def leN (l : List Int) (x : Int) : Nat := (l.takeWhile fun y => decide (y ≤ x)).length
def insR (l : List Int) (x : Int) : List Int := l.take (leN l x) ++ [x] ++ l.drop (leN l x)
theorem leN_le (l : List Int) (x : Int) : leN l x ≤ l.length := (List.takeWhile_prefix _).length_le
theorem insR_perm (l : List Int) (x : Int) : (insR l x).Perm (l ++ [x]) := by
 unfold insR
 refine ((List.Perm.append_left _ (List.perm_append_comm (l₁ := [x]) (l₂ := l.drop (leN l x)))).symm.symm.trans ?_ : (l.take (leN l x) ++ ([x] ++ l.drop (leN l x))).Perm _) |> fun h => by rwa [List.append_assoc]
 rw [← List.append_assoc, List.take_append_drop]
theorem insR_cons_le {a x : Int} (h : a ≤ x) (l : List Int) : insR (a :: l) x = a :: insR l x := by
 unfold insR leN
 simp [h]
theorem insR_cons_gt {a x : Int} (h : ¬ a ≤ x) (l : List Int) : insR (a :: l) x = x :: a :: l := by
 unfold insR leN
 simp [h]
theorem insR_rise (x : Int) : ∀ (l : List Int), l.Pairwise (· ≤ ·) → (insR l x).Pairwise (· ≤ ·) := by
 intro l
 induction l with
 | nil => intro _; simp [insR, leN]
 | cons a l ih =>
  intro h
  obtain ⟨h1, h2⟩ := List.pairwise_cons.1 h
  by_cases ha : a ≤ x
  ·rw [insR_cons_le ha]
   refine List.pairwise_cons.2 ⟨fun y hy => ?_, ih h2⟩
   rcases List.mem_append.1 ((insR_perm l x).mem_iff.1 hy) with hy | hy
   ·exact h1 y hy
   ·rw [List.mem_singleton] at hy; omega
  ·rw [insR_cons_gt ha]
   refine List.pairwise_cons.2 ⟨fun y hy => ?_, h⟩
   rcases List.mem_cons.1 hy with rfl | hy
   ·omega
   ·have := h1 y hy; omega
def sortR (l : List Int) : List Int := l.foldl insR []
theorem sortR_snoc (l : List Int) (x : Int) : sortR (l ++ [x]) = insR (sortR l) x := by unfold sortR; rw [List.foldl_append]; rfl
theorem sortR_both (acc : List Int) : ∀ (l : List Int), acc.Pairwise (· ≤ ·) → (l.foldl insR acc).Pairwise (· ≤ ·) ∧ (l.foldl insR acc).Perm (acc ++ l) := by
 intro l
 induction l generalizing acc with
 | nil => intro h; exact ⟨h, by rw [List.append_nil]; exact List.Perm.refl _⟩
 | cons a l ih =>
  intro h
  obtain ⟨h1, h2⟩ := ih (insR acc a) (insR_rise a acc h)
  refine ⟨h1, h2.trans ?_⟩
  have := (insR_perm acc a).append_right l
  rwa [List.append_assoc] at this
theorem sortR_eq (l : List Int) : sortR l = sortI l := by
 obtain ⟨h1, h2⟩ := sortR_both [] l List.Pairwise.nil
 exact (sortI_eq h1 h2.symm).symm
theorem leN_lt : ∀ (l : List Int) (x : Int) (k : Nat), k < leN l x → l.getD k 0 ≤ x := by
 intro l
 induction l with
 | nil => intro x k h; simp [leN] at h
 | cons a l ih =>
  intro x k h
  by_cases ha : a ≤ x
  ·cases k with
   | zero => exact ha
   | succ k =>
    have : k < leN l x := by unfold leN at h ⊢; simp [ha] at h; exact h
    exact ih x k this
  ·unfold leN at h; simp [ha] at h
theorem leN_at : ∀ (l : List Int) (x : Int), leN l x < l.length → ¬ l.getD (leN l x) 0 ≤ x := by
 intro l
 induction l with
 | nil => intro x h; simp [leN] at h
 | cons a l ih =>
  intro x h
  by_cases ha : a ≤ x
  ·have e : leN (a :: l) x = leN l x + 1 := by unfold leN; simp [ha]
   rw [e] at h ⊢
   exact ih x (by simpa using h)
  ·have e : leN (a :: l) x = 0 := by unfold leN; simp [ha]
   rw [e]
   exact ha
end Go.Proofs.YtkolilbebkkpdaaDoor

namespace Go.Proofs.YtkolilbebkkpdaaDoor
open Go.RowKit Go.Maps Go.Shelf

theorem OwnI.self {w : World} {base : Nat} {v : Value} {n : Nat} {xs : List Int} (h : OwnI w base v n xs) (B : Nat) (hB : B ≤ base) : OwnI w B v n xs := by
 refine ⟨h.len, ⟨h.row.1, ?_⟩, h.bd⟩
 rcases h.row.2 with h1 | ⟨g, cap, cur, hv, hg, h2⟩
 ·exact .inl h1
 ·exact .inr ⟨g, cap, cur, hv, Nat.le_trans hB hg, h2⟩
/-- The first k of a slice; what stands behind them. -/
theorem UI.take {w : World} {p : Option Addr} {n : Nat} {xs : List Int} (h : UI w p n xs) {k : Nat} (hk : k ≤ n) : UI w p k (xs.take k) := by
 refine ⟨by rw [List.length_take, h.len]; omega, ?_, fun x hx => h.bd x (List.mem_of_mem_take hx)⟩
 rcases h.rd with h1 | ⟨b, off, hp, hc⟩
 ·left
  rw [List.map_take]
  have : xs.map (Value.int .i64) = [] := h1
  rw [this, List.take_nil]
 ·refine .inr ⟨b, off, hp, fun i hi => ?_⟩
  have hi' : i < (xs.map (Value.int .i64)).length := by
   rw [List.length_map, List.length_take] at hi
   rw [List.length_map]; omega
  have := hc i hi'
  rw [this]
  simp
theorem UI.drop {w : World} {b off n : Nat} {xs : List Int} (h : UI w (some ⟨b, off, none⟩) n xs) {k : Nat} (_ : k ≤ n) : UI w (some ⟨b, off + k, none⟩) (n - k) (xs.drop k) := by
 refine ⟨by rw [List.length_drop, h.len], ?_, fun x hx => h.bd x (List.mem_of_mem_drop hx)⟩
 rcases h.rd with h1 | ⟨b', off', hp, hc⟩
 ·left
  rw [List.map_drop]
  have : xs.map (Value.int .i64) = [] := h1
  rw [this, List.drop_nil]
 ·injection hp with hp
  injection hp with hp1 hp2
  subst hp1; subst hp2
  refine .inr ⟨b, off + k, rfl, fun i hi => ?_⟩
  have hi' : k + i < (xs.map (Value.int .i64)).length := by
   rw [List.length_map, List.length_drop] at hi
   rw [List.length_map]; omega
  have := hc (k + i) hi'
  rw [Nat.add_assoc, this]
  simp
set_option maxRecDepth 100000 in
set_option maxHeartbeats 4000000 in
theorem Sorted_ref (p : Option Addr) (n : Nat) (xs : List Int) (c : Nat) (w : World) (hU : UI w p n xs) (hn : n ≤ 1000) :
  Calls Tryd.prog 17 #[.slice p n c] w fun e w' => ∃ v, e = .returned v ∧ OwnI w' w.heap.size v n (sortI xs) ∧ Below w.heap.size w w' := by
 have hX := Lib.hid hU.len
 go_enter Tryd.func17, Tryd.ntmps17
 go_wp2_with fail
 go_loopw [3, 4] (fun v i wr => ∃ j : Nat, j ≤ n ∧ i = .int .i64 j ∧ OwnI wr w.heap.size v j (sortR (xs.take j)) ∧ Below w.heap.size w wr)
  (fun _ i _ => n - (intOf i).toNat)
 case atStart => exact ⟨0, Nat.zero_le _, rfl, OwnI.nil _ _, Below.refl _ _⟩
 case round =>
  obtain ⟨j, hj, rfl, hown, hb⟩ := hrel
  by_cases hlt : j < n
  ·obtain ⟨b, off, rfl, _, hc, hx0, hx1⟩ := (hU.below hb).look hlt
   obtain ⟨q, cq, rfl, hqc, hQ, hqf⟩ := hown.u
   obtain ⟨ys, hys⟩ : ∃ ys, Hid (sortR (xs.take j) = ys) := ⟨_, Lib.hid rfl⟩
   rw [hys.out] at hown hQ
   obtain ⟨x, hx⟩ : ∃ x, Hid (nth xs j = x) := ⟨_, Lib.hid rfl⟩
   rw [hx.out] at hc hx0 hx1
   have hyl := Lib.hid hQ.len
   have hln : leN ys x ≤ j := by have := leN_le ys x; rw [hyl.out] at this; exact this
   have hjb : (j : Int) ≤ 1000 := by omega
   go_wp2_with fail
   go_loopw [5] (fun kv wr2 => ∃ k : Nat, k ≤ leN ys x ∧ kv = .int .i64 k ∧ Below wr.heap.size wr wr2)
    (fun kv _ => leN ys x - (intOf kv).toNat)
   case atStart => exact ⟨0, Nat.zero_le _, rfl, Below.refl _ _⟩
   case round =>
    obtain ⟨k, hk, rfl, hb2⟩ := hrel
    have hc2 := (hb2.cell (p := ⟨b, off + j, none⟩) (cell_lt hc)).trans hc
    have hixj : (j : Int) < (n : Int) := by omega
    have hkb : (k : Int) ≤ 1000 := by omega
    by_cases hkl : k < leN ys x
    ·have hkj : k < j := by omega
     obtain ⟨g, go, rfl, _, hg, hg0, hg1⟩ := (hQ.below hb2).look hkj
     have hle : nth ys k ≤ x := leN_lt ys x k hkl
     have hix2 : (k : Int) < (j : Int) := by omega
     go_wp2_with fail
     go_quiet (fail)
     go_wp2_with fail
     go_roundw
     case rel => exact ⟨k + 1, by omega, by go_num, belowN hb2 _⟩
     case measure => simp [intOf]; omega
    ·have hkk : k = leN ys x := by omega
     have hkj : k ≤ j := by omega
     have hq0 : q = none → cq = 0 := by
      intro h
      rcases hown.row.2 with ⟨hv, _⟩ | ⟨_, _, _, hv, _⟩
      ·injection hv
      ·injection hv with hv; rw [h] at hv; cases hv
     have hins : Hid (insR ys x = ys.take k ++ [x] ++ ys.drop k) := Lib.hid (by rw [hkk]; rfl)
     have hst : Hid (sortR (xs.take (j + 1)) = insR ys x) := Lib.hid (by
      have hjx : j < xs.length := by rw [hX.out]; exact hlt
      have : xs.take (j + 1) = xs.take j ++ [nth xs j] := by rw [List.take_add_one, List.getElem?_eq_getElem hjx, ← nth_eq hjx]; rfl
      rw [this, sortR_snoc, hys.out, hx.out])
     have hbW := hb.trans (hb2.mono hb.size)
     have hQi := hQ.below hb2
     have hfin : ∀ W3 v3, Below wr.heap.size wr W3 → OwnI W3 w.heap.size v3 (k + 1 + (j - k)) (ys.take k ++ [x] ++ ys.drop k) → OwnI W3 w.heap.size v3 (j + 1) (sortR (xs.take (j + 1))) ∧ Below w.heap.size w W3 := fun W3 v3 h1 h2 => by
      rw [hst.out, hins.out, show j + 1 = k + 1 + (j - k) by omega]
      exact ⟨h2, hbW.trans (h1.mono hbW.size)⟩
     replace hfin := Lib.hid hfin
     replace hkk := Lib.hid hkk
     cases q with
     | none =>
      have hj0 : j = 0 := by
       rcases Nat.eq_zero_or_pos j with h | h
       ·exact h
       ·obtain ⟨_, _, he, _⟩ := hQ.look h
        cases he
      have hc0 := hq0 rfl
      subst hj0
      subst hc0
      have hk0 : k = 0 := by omega
      subst hk0
      have hU0 : UI wr none 0 ys := hQi
      go_wp2_with fail
      go_quiet (fail)
      have hB3 : Below wr.heap.size wr (wr.drewN nq) := belowN (Below.refl _ _) nq
      have hQ3 : UI (wr.drewN nq) none 0 ys := hU0.below hB3
      have hn3 := OwnI.nil (wr.drewN nq) (wr.drewN nq).heap.size
      have hc3 : (wr.drewN nq).cell? ⟨b, off, none⟩ = some (.int .i64 x) := hc2
      obtain ⟨W0, hW0, hn3⟩ := nameW (p := fun W => OwnI W W.heap.size (.slice none 0 0) 0 []) hn3
      rw [hW0.out] at hB3 hQ3 hc3
      rw [hW0.out]
      have hy0 : ys = [] := List.eq_nil_of_length_eq_zero hQ3.len
      have hUn : ∀ W, UI W none 0 ([] : List Int) := fun W => ⟨rfl, .nil, fun _ h => by cases h⟩
      go_wp2_with (first
       | (at_builtin; refine app_manyI rfl _ _ rfl hn3 rfl rfl (hUn _) (fun _ => rfl) (by omega) (Nat.le_refl _) ?_; intro v4 W4 hown4 hb4; have hc4 := (hb4.cell (p := ⟨b, off, none⟩) (cell_lt hc3)).trans hc3; have hz4 := hb4.size)
       | (at_builtin; refine app_i rfl _ _ rfl hown4 rfl rfl ⟨hx0, hx1⟩ (by omega) hz4 ?_; intro v5 W5 hown5 hb5; have hz5 := Nat.le_trans hz4 hb5.size)
       | (at_builtin; refine app_manyI rfl _ _ rfl hown5 rfl rfl (hUn _) (fun _ => rfl) (by omega) hz5 ?_; intro v6 W6 hown6 hb6)
       | fail)
      have hle : w.heap.size ≤ W0.heap.size := Nat.le_trans hbW.size hB3.size
      obtain ⟨r1, r2⟩ := hfin.out W6 v6 (hB3.trans (((hb4.trans hb5).trans hb6).mono hB3.size)) (by have := hown6.self w.heap.size hle; rw [hy0]; exact this)
      go_roundw
      case rel => exact ⟨1, by omega, by go_num, r1, r2⟩
      case measure => simp [intOf]; omega
     | some qa =>
      obtain ⟨g, go⟩ : ∃ g go, True := ⟨0, 0, trivial⟩
      have hkc : (k : Int) ≤ (cq : Int) := by omega
      have hkj2 : (k : Int) ≤ (j : Int) := by omega
      have hjc : (j : Int) ≤ (cq : Int) := by omega
      by_cases hkj3 : k < j
      ·obtain ⟨g, go, hqe, _, hg, hg0, hg1⟩ := (hQ.below hb2).look hkj3
       injection hqe with hqe
       subst hqe
       have hgt : ¬ nth ys k ≤ x := by rw [hkk.out]; exact leN_at ys x (by rw [hyl.out]; omega)
       have hix2 : (k : Int) < (j : Int) := by omega
       clear hkl
       go_wp2_with fail
       go_quiet (fail)
       have hB3 : Below wr.heap.size wr (wr.drewN nq) := belowN (Below.refl _ _) nq
       have hQ3 : UI (wr.drewN nq) (some ⟨g, go, none⟩) j ys := hQi.below hB3
       have hn3 := OwnI.nil (wr.drewN nq) (wr.drewN nq).heap.size
       have hc3 : (wr.drewN nq).cell? ⟨b, off + j, none⟩ = some (.int .i64 x) := hc2
       have hsz3 : (wr.drewN nq).heap.size = wr.heap.size := rfl
       obtain ⟨W0, hW0, hn3⟩ := nameW (p := fun W => OwnI W W.heap.size (.slice none 0 0) 0 []) hn3
       rw [hW0.out] at hB3 hQ3 hc3
       rw [hW0.out]
       go_wp2_with (first
        | (at_builtin; refine app_manyI rfl _ _ rfl hn3 rfl rfl (hQ3.take hkj) (fun h => by cases h) (by omega) (Nat.le_refl _) ?_; intro v4 W4 hown4 hb4; have hc4 := (hb4.cell (p := ⟨b, off + j, none⟩) (cell_lt hc3)).trans hc3; have hz4 := hb4.size)
        | (at_builtin; refine app_i rfl _ _ rfl hown4 rfl rfl ⟨hx0, hx1⟩ (by omega) hz4 ?_; intro v5 W5 hown5 hb5; have hz5 := Nat.le_trans hz4 hb5.size; have hQ5 := hQ3.below (hb4.trans hb5))
        | (at_builtin; refine app_manyI rfl _ _ rfl hown5 rfl rfl (hQ5.drop hkj) (fun h => by cases h) (by omega) hz5 ?_; intro v6 W6 hown6 hb6)
        | fail)
       have hle : w.heap.size ≤ W0.heap.size := Nat.le_trans hbW.size hB3.size
       obtain ⟨r1, r2⟩ := hfin.out W6 v6 (hB3.trans (((hb4.trans hb5).trans hb6).mono hB3.size)) (by have := hown6.self w.heap.size hle; rwa [Nat.zero_add, List.nil_append] at this)
       go_roundw
       case rel => exact ⟨j + 1, by omega, by go_num, r1, r2⟩
       case measure => simp [intOf]; omega
      ·have hkj4 : k = j := by omega
       have hnlt : decide ((k : Int) < (j : Int)) = false := decide_eq_false (by omega)
       obtain ⟨g, go, sp⟩ := qa
       have hsp : sp = none := by
        rcases hown.row.2 with ⟨hv, _⟩ | ⟨_, _, _, hv, _⟩
        ·injection hv with hv; cases hv
        ·injection hv with hv; injection hv with hv; injection hv
       subst hsp
       clear hkl hkj3 hnlt
       subst hkj4
       have hdr : ys.drop k = [] := List.drop_eq_nil_of_le (by rw [hyl.out]; exact Nat.le_refl _)
       replace hdr := Lib.hid hdr
       have hUe : ∀ (T : World) (p' : Option Addr), UI T p' 0 ([] : List Int) := fun T p' => ⟨rfl, .nil, fun _ h => by cases h⟩
       replace hUe := Lib.hid hUe
       clear hkk hst hins hkb hjb hln hj hlt
       rcases Nat.lt_or_ge k cq with hkq | hkq
       ·have hkq2 : (k : Int) < (cq : Int) := by omega
        have hkq3 : ¬ ((k : Int) = (cq : Int)) := by omega
        have hkq4 : ¬ (k = cq) := by omega
        go_wp2_with fail
        go_quiet (fail)
        have hB3 : Below wr.heap.size wr (wr.drewN nq) := belowN (Below.refl _ _) nq
        have hQ3 : UI (wr.drewN nq) (some ⟨g, go, none⟩) k ys := hQi.below hB3
        have hn3 := OwnI.nil (wr.drewN nq) (wr.drewN nq).heap.size
        have hc3 : (wr.drewN nq).cell? ⟨b, off + k, none⟩ = some (.int .i64 x) := hc2
        obtain ⟨W0, hW0, hn3⟩ := nameW (p := fun W => OwnI W W.heap.size (.slice none 0 0) 0 []) hn3
        rw [hW0.out] at hB3 hQ3 hc3
        rw [hW0.out]
        go_wp2_with (first
         | (at_builtin; refine app_manyI rfl _ _ rfl hn3 rfl rfl (hQ3.take hkj) (fun h => by cases h) (by omega) (Nat.le_refl _) ?_; intro v4 W4 hown4 hb4; have hc4 := (hb4.cell (p := ⟨b, off + k, none⟩) (cell_lt hc3)).trans hc3; have hz4 := hb4.size)
         | (at_builtin; refine app_i rfl _ _ rfl hown4 rfl rfl ⟨hx0, hx1⟩ (by omega) hz4 ?_; intro v5 W5 hown5 hb5; have hz5 := Nat.le_trans hz4 hb5.size)
         | (at_builtin; refine app_manyI (ys := []) (m := 0) rfl _ _ rfl hown5 rfl rfl (hUe.out _ _) (fun h => by cases h) (by omega) hz5 ?_; intro v6 W6 hown6 hb6)
         | fail)
        have hle : w.heap.size ≤ W0.heap.size := Nat.le_trans hbW.size hB3.size
        obtain ⟨r1, r2⟩ := hfin.out W6 v6 (hB3.trans (((hb4.trans hb5).trans hb6).mono hB3.size)) (by have := hown6.self w.heap.size hle; rw [hdr.out, Nat.sub_self]; rwa [Nat.zero_add] at this)
        go_roundw
        case rel => exact ⟨k + 1, by omega, by go_num, r1, r2⟩
        case measure => simp [intOf]; omega
       ·have hcqk : cq = k := by omega
        subst hcqk
        go_wp2_with fail
        go_quiet (fail)
        have hB3 : Below wr.heap.size wr (wr.drewN nq) := belowN (Below.refl _ _) nq
        have hQ3 : UI (wr.drewN nq) (some ⟨g, go, none⟩) cq ys := hQi.below hB3
        have hn3 := OwnI.nil (wr.drewN nq) (wr.drewN nq).heap.size
        have hc3 : (wr.drewN nq).cell? ⟨b, off + cq, none⟩ = some (.int .i64 x) := hc2
        obtain ⟨W0, hW0, hn3⟩ := nameW (p := fun W => OwnI W W.heap.size (.slice none 0 0) 0 []) hn3
        rw [hW0.out] at hB3 hQ3 hc3
        rw [hW0.out]
        go_wp2_with (first
         | (at_builtin; refine app_manyI rfl _ _ rfl hn3 rfl rfl (hQ3.take hkj) (fun h => by cases h) (by omega) (Nat.le_refl _) ?_; intro v4 W4 hown4 hb4; have hc4 := (hb4.cell (p := ⟨b, off + cq, none⟩) (cell_lt hc3)).trans hc3; have hz4 := hb4.size)
         | (at_builtin; refine app_i rfl _ _ rfl hown4 rfl rfl ⟨hx0, hx1⟩ (by omega) hz4 ?_; intro v5 W5 hown5 hb5; have hz5 := Nat.le_trans hz4 hb5.size)
         | (at_builtin; refine app_manyI (ys := []) (m := 0) rfl _ _ rfl hown5 rfl rfl (hUe.out _ _) (fun h => by cases h) (by omega) hz5 ?_; intro v6 W6 hown6 hb6)
         | fail)
        have hle : w.heap.size ≤ W0.heap.size := Nat.le_trans hbW.size hB3.size
        obtain ⟨r1, r2⟩ := hfin.out W6 v6 (hB3.trans (((hb4.trans hb5).trans hb6).mono hB3.size)) (by have := hown6.self w.heap.size hle; rw [hdr.out, Nat.sub_self]; rwa [Nat.zero_add] at this)
        go_roundw
        case rel => exact ⟨cq + 1, by omega, by go_num, r1, r2⟩
        case measure => simp [intOf]; omega
  ·have hjn : j = n := by omega
   have hall : Hid (xs.take j = xs) := Lib.hid (List.take_of_length_le (by rw [hX.out]; omega))
   rw [hall.out, sortR_eq] at hown
   go_wp2_with fail
   go_ret
   exact ⟨_, rfl, hjn ▸ hown, hb⟩
end Go.Proofs.YtkolilbebkkpdaaDoor

