/-
  The last step of a law: what was there has not turned, the result is true, the arguments read as they did.
  Words for memory: what a slice reads as; an array of the call's own. No program in sight.
  The arguments of a law, opened; that they read as they did.
  Rolls; plain Lean: who is in, what may be done, what becomes of it. No program in sight.
  Maps, by what stands at each key: one word for maps of any elements, and what an operation makes of it.
  Keys that are pairs of numbers.
  Slices of signed numbers: what they read as; as an argument, opened.
  Rolls in memory: where a roll lies, and how it reads.
  Rolls: what is asked of one, in short: whose a device is, fresh, Has, Was, Role, Back.
  A range over a map; two names, the same or not.
  Rolls: whose guard a name is; a device comes, or goes.
  Rolls: a device goes, or comes.
  Rolls: a device comes.
  A range over a function whose iterator keeps state of its own in cells: two laws for any program. (1) entering the statement: the iterator is called with yield in the world with the loop's record laid. (2) a call of yield is one round of the body.
  slices.Sort for signed numbers, at this program: laid by the kit's tools.
-/
import Derived.Test.YtkolilbebkkpdaaDoorRows
import Derived.WalkKit
import Derived.ProofKit
import Derived.OpenShut
import Derived.Below
import Derived.Laws.MakeOwn
import Derived.Lib.Hide
import Derived.Carry
import Derived.Test.YtkolilbebkkpdaaDoorProg
import Derived.OwnWalk
import Derived.Maps.OwnOps
import Derived.Maps.Views
import Derived.Maps.OwnSet
import Derived.Maps.RangeWalk
import Derived.WideKeyEntry
import Derived.DeepKeys4
import Derived.BigQuiet
import Derived.Deep.QuietTactic
import Derived.Deep.RegionHeld3
import Derived.Deep.RegionLaw
import Derived.Handy
import Derived.Laws.EntriesVeiled
import Derived.Laws.Externs
import Derived.Lib.Slices
import Derived.Lib.Small
import Derived.Lib.Walk
import Derived.Maps.AppendAt
import Derived.StillTailTactics
import Derived.Deep.DeepCutAuto
import Derived.Outline
import Derived.Deep.AppendLies
import Derived.Laws.OwnMore
import Derived.Laws.StructEq
import Derived.RegionTactic
import Derived.ChangeAlike
import Derived.RangeFuncNested
import Derived.RangeFuncBound
import Derived.RangeFuncCalls
import Derived.RangeFuncLeaves
import Derived.Shelf.Sort.Plain
import Derived.Shelf.Slices.In.SortNone
import Derived.Ground.Names2Prog
namespace Go.Proofs.YtkolilbebkkpdaaDoor
open Go.ChangeShapes Go.WideShapes Go.ChangeAt Go.RowKit

theorem own : ownKnob Tryd.prog.godebug = none := by kernel_rfl

theorem law_post {H : Type} {enc : TypeId × Value → H} {P : Program} {f : Func} {s : ChangeSpec} {apart handsOn : Bool} {W W' : World} {args : Array Value} {v : Value} {ds gs : List (DataW H)} {before pa : List MemPlace}
  (hW : DataW.Whole enc P f.params.toList s.vars apart W args.toList ds gs before)
  (hres : DataW.TrodAll enc P W' W.heap.size (fun _ => false) handsOn f.resultTypes.toList (v.resultList f.resultTypes.size) (s.fn H (ds ++ gs)).results [])
  (hargs : DataW.TrodAll enc P W' 0 (fun b => decide (b < W.heap.size)) true f.params.toList args.toList (s.fn H (ds ++ gs)).args pa)
  (hb : Below W.heap.size W W') (hvars : DataW.TrodVars enc P W' (fun b => decide (b < W.heap.size)) s.vars (s.fn H (ds ++ gs)).vars [] := by exact rfl) :
  s.post enc P f apart true handsOn false W args v W' :=
 ⟨ds, gs, before, [], pa, [], hW, hres, hargs, hvars, hb.frame _, fun h => by cases h⟩

end Go.Proofs.YtkolilbebkkpdaaDoor

namespace Go.Proofs.YtkolilbebkkpdaaDoor
open Go.RowKit

/-- A slice's place p reads as the values xs, from its head on. -/
def Rd (w : World) (p : Option Addr) (xs : List Value) : Prop :=
 xs = [] ∨ ∃ b off, p = some ⟨b, off, none⟩ ∧ ∀ i (h : i < xs.length), w.cell? ⟨b, off + i, none⟩ = some xs[i]

theorem cell_lt {w : World} {a : Addr} {v : Value} (h : w.cell? a = some v) : a.block < w.heap.size := by
 rcases Nat.lt_or_ge a.block w.heap.size with hlt | hge
 ·exact hlt
 ·unfold World.cell? at h
  rw [Array.getElem?_eq_none hge] at h
  cases h

theorem Rd.nil {w : World} {p : Option Addr} : Rd w p [] := .inl rfl
theorem Rd.here {w : World} {p : Option Addr} {xs : List Value} (h : Rd w p xs) {i : Nat} (hi : i < xs.length) :
  ∃ b off, p = some ⟨b, off, none⟩ ∧ b < w.heap.size ∧ ∀ j (h : j < xs.length), w.cell? ⟨b, off + j, none⟩ = some xs[j] := by
 rcases h with rfl | ⟨b, off, rfl, hc⟩
 ·cases hi
 ·exact ⟨b, off, rfl, cell_lt (hc i hi), hc⟩
theorem Rd.keep {w w' : World} {p : Option Addr} {xs : List Value} (h : Rd w p xs) (hk : ∀ a : Addr, a.block < w.heap.size → w'.cell? a = w.cell? a) : Rd w' p xs := by
 rcases h with rfl | ⟨b, off, rfl, hc⟩
 ·exact .inl rfl
 ·exact .inr ⟨b, off, rfl, fun i hi => (hk _ (cell_lt (hc i hi))).trans (hc i hi)⟩
theorem Rd.below {w w' : World} {p : Option Addr} {xs : List Value} (h : Rd w p xs) (hb : Below w.heap.size w w') : Rd w' p xs := h.keep fun _ ha => hb.cell ha
theorem Rd.take {w : World} {p : Option Addr} {xs : List Value} (h : Rd w p xs) (k : Nat) : Rd w p (xs.take k) := by
 rcases h with rfl | ⟨b, off, rfl, hc⟩
 ·exact .inl (by simp)
 ·exact .inr ⟨b, off, rfl, fun i hi => by
   rw [List.length_take] at hi
   rw [List.getElem_take]
   exact hc i (by omega)⟩

/-- .. as n numbers of 64 bits without a sign. -/
structure U (w : World) (p : Option Addr) (n : Nat) (xs : List Int) : Prop where
 len : xs.length = n
 rd : Rd w p (xs.map (Value.int .u64))
 bd : ∀ x ∈ xs, 0 ≤ x ∧ x < 18446744073709551616
theorem U.nil {w : World} {p : Option Addr} : U w p 0 [] := ⟨rfl, .nil, fun _ h => by cases h⟩
theorem U.below {w w' : World} {p : Option Addr} {n : Nat} {xs : List Int} (h : U w p n xs) (hb : Below w.heap.size w w') : U w' p n xs := ⟨h.len, h.rd.below hb, h.bd⟩
theorem U.take {w : World} {p : Option Addr} {n : Nat} {xs : List Int} (h : U w p n xs) {k : Nat} (hk : k ≤ n) : U w p k (xs.take k) :=
 ⟨by rw [List.length_take, h.len]; omega, by rw [List.map_take]; exact h.rd.take k, fun x hx => h.bd x (List.mem_of_mem_take hx)⟩

/-- The i-th number. -/
def nth (xs : List Int) (i : Nat) : Int := xs.getD i 0
theorem nth_eq {xs : List Int} {i : Nat} (h : i < xs.length) : nth xs i = xs[i] := by simp [nth, h]
theorem nth_mem {xs : List Int} {i : Nat} (h : i < xs.length) : nth xs i ∈ xs := by rw [nth_eq h]; exact List.getElem_mem h
theorem U.look {w : World} {p : Option Addr} {n : Nat} {xs : List Int} (h : U w p n xs) {i : Nat} (hi : i < n) :
  ∃ b off, p = some ⟨b, off, none⟩ ∧ b < w.heap.size ∧ w.cell? ⟨b, off + i, none⟩ = some (.int .u64 (nth xs i)) ∧ 0 ≤ nth xs i ∧ nth xs i < 18446744073709551616 := by
 have hi' : i < xs.length := by rw [h.len]; exact hi
 obtain ⟨b, off, hp, hb, hc⟩ := h.rd.here (i := i) (by simpa using hi')
 have hx := h.bd _ (nth_mem hi')
 refine ⟨b, off, hp, hb, ?_, hx⟩
 have := hc i (by simpa using hi')
 rwa [List.getElem_map, ← nth_eq hi'] at this
theorem U.cell {w : World} {b off n : Nat} {xs : List Int} (h : U w (some ⟨b, off, none⟩) n xs) {i : Nat} (hi : i < n) : w.cell? ⟨b, off + i, none⟩ = some (.int .u64 (nth xs i)) := by
 obtain ⟨b', off', he, _, hc, _⟩ := h.look hi
 injection he with he
 injection he with h1 h2
 subst h1; subst h2
 exact hc
/-- An array of the call's own: block b is these cells, and none is frozen. -/
def Arr (w : World) (b : Nat) (t : TypeId) (vs : List Value) : Prop := w.heap[b]? = some (.cells vs.toArray t (0, 0))
theorem Arr.lt {w : World} {b : Nat} {t : TypeId} {vs : List Value} (h : Arr w b t vs) : b < w.heap.size := (Array.getElem?_eq_some_iff.1 h).1
theorem Arr.cell {w : World} {b : Nat} {t : TypeId} {vs : List Value} (h : Arr w b t vs) {i : Nat} (hi : i < vs.length) : w.cell? ⟨b, i, none⟩ = some vs[i] := by
 unfold Arr at h
 simp [World.cell?, h, hi]
theorem Arr.free {w : World} {b : Nat} {t : TypeId} {vs : List Value} (h : Arr w b t vs) (i : Nat) : w.frozen? ⟨b, i, none⟩ = false := by
 unfold Arr at h
 simp [World.frozen?, h]
theorem Arr.new (w : World) (t : TypeId) (vs : List Value) : Arr (w.alloc (.cells vs.toArray t)) w.heap.size t vs := by
 show (w.heap.push _)[w.heap.size]? = _
 simp
theorem Arr.below {w w' : World} {b : Nat} {t : TypeId} {vs : List Value} {B : Nat} (h : Arr w b t vs) (hb : Below B w w') (hB : b < B) : Arr w' b t vs := (hb.block b hB).trans h
theorem Arr.set {w : World} {b : Nat} {t : TypeId} {vs : List Value} (h : Arr w b t vs) (i : Nat) (v : Value) : Arr (w.setCell ⟨b, i, none⟩ v) b t (vs.set i v) := by
 unfold Arr at h ⊢
 have hlt := (Array.getElem?_eq_some_iff.1 h).1
 show (w.heap.modify b _)[b]? = _
 rw [Array.getElem?_modify, if_pos rfl, h]
 simp
theorem Arr.rd {w : World} {b : Nat} {t : TypeId} {vs : List Value} (h : Arr w b t vs) : Rd w (some ⟨b, 0, none⟩) vs :=
 .inr ⟨b, 0, rfl, fun i hi => by rw [Nat.zero_add]; exact h.cell hi⟩

end Go.Proofs.YtkolilbebkkpdaaDoor

namespace Go.Proofs.YtkolilbebkkpdaaDoor
open Go.ChangeShapes Go.WideShapes Go.ChangeAt Go.RowKit

section
variable {H : Type} {enc : TypeId × Value → H} {P : Program}

/-- What was read reads as it did. -/
theorem trodAll_below (hl : laidOutB P = true) {W W' : World} (hb : Below W.heap.size W W') : ∀ {ts : List TypeId} {vs : List Value} {ds : List (DataW H)} {ps : List MemPlace},
  (∀ t ∈ ts, P.readableRec t = true ∧ t < P.types.size) → DataW.TrodAll enc P W 0 (fun _ => true) true ts vs ds ps → (∀ x ∈ ps, x.block < W.heap.size) →
  DataW.TrodAll enc P W' 0 (fun b => decide (b < W.heap.size)) true ts vs ds ps := by
 intro ts
 induction ts with
 | nil =>
  intro vs ds ps _ h _
  cases vs <;> cases ds <;> first | exact h | exact h.elim
 | cons t ts ih =>
  intro vs ds ps ht h hlt
  cases vs with
  | nil => cases ds <;> exact h.elim
  | cons v vs =>
   cases ds with
   | nil => exact h.elim
   | cons d ds =>
    obtain ⟨p, q, h1, h2, rfl⟩ := h
    refine ⟨p, q, ?_, ih (fun t' h' => ht t' (List.mem_cons_of_mem _ h')) h2 (fun x hx => hlt x (List.mem_append_right _ hx)), rfl⟩
    obtain ⟨hr, hs⟩ := ht t (List.mem_cons_self ..)
    exact Below.trod hl hr hs h1 hb (fun x hx => hlt x (List.mem_append_left _ hx))

/-- A slice of numbers of one cell, opened. -/
theorem open_nums {t e : TypeId} {k : IntKind} {W : World} {base : Nat} {v : Value} {d : DataW H} {ps : List MemPlace} (ht : P.underlying t = some (.slice e)) (he : P.underlying e = some (.int k)) (hc : P.cellsOf e = 1)
  (hok : Value.okWide P W .any base t v) (h : DataW.Trod enc P W 0 (fun _ => true) true t v d ps) :
  ∃ (p : Option Addr) (n c : Nat) (zs : List Int), v = .slice p n c ∧ zs.length = n ∧ Rd W p (zs.map (Value.int k)) ∧ (∀ z ∈ zs, (Lit.int k z).wf = true) ∧ n ≤ c ∧ c ≤ maxLen ∧ (p = none → c = 0) := by
 obtain ⟨a0, len, cap, rfl⟩ := okWide_slice ht hok
 obtain ⟨fuel, hf⟩ := h
 rcases open_ints ht he hc hf with ⟨hcs, _⟩ | ⟨a, len', cap', zs, hcs, _, hl, hm, hz, _, hcell, hwz⟩
 ·simp [Value.cells] at hcs
  obtain ⟨rfl, rfl, rfl⟩ := hcs
  exact ⟨none, 0, 0, [], rfl, rfl, .nil, fun z h => (by cases h), Nat.le_refl _, Nat.zero_le _, fun _ => rfl⟩
 ·simp [Value.cells] at hcs
  obtain ⟨rfl, rfl, rfl⟩ := hcs
  simp only [if_true] at hz
  refine ⟨some a, len, cap, zs.take len, rfl, by rw [List.length_take, hz]; omega, ?_, fun z hz => hwz z (List.mem_of_mem_take hz), hl, hm, fun h => by cases h⟩
  by_cases h0 : len = 0
  ·subst h0; exact .inl rfl
  ·have h00 := hcell 0 (by omega)
   have hspot : a.spot = none := by
    cases hs : a.spot with
    | none => rfl
    | some s =>
     have : a.add 0 = a := rfl
     rw [this] at h00
     unfold World.cell? at h00
     rw [hs] at h00
     split at h00 <;> simp at h00
   refine .inr ⟨a.block, a.off, by cases a; simp_all, fun i hi => ?_⟩
   rw [List.length_map, List.length_take] at hi
   have hi2 : i < zs.length := by omega
   have hci := hcell i hi2
   rw [List.getElem_map, List.getElem_take]
   have e1 : a.add i = ⟨a.block, a.off + i, none⟩ := by
    unfold Addr.add
    by_cases hi0 : i = 0
    ·subst hi0; rw [if_pos rfl]; cases a; simp_all
    ·rw [if_neg hi0]
   rw [e1] at hci
   rw [hci]
   simp [List.getD, hi2]
end

theorem laidOut : laidOutB Tryd.prog = true := by kernel_rfl
theorem wf_i64 {n : Int} (h : (Lit.int .i64 n).wf = true) : -9223372036854775808 ≤ n ∧ n ≤ 9223372036854775807 := by
 simp [Lit.wf, IntKind.min, IntKind.max, IntKind.bits, IntKind.signed] at h
 omega
end Go.Proofs.YtkolilbebkkpdaaDoor

namespace Go.Proofs.YtkolilbebkkpdaaDoor
open Go.RowKit

/-! Lists of pairs. -/
section
variable {α β : Type} [DecidableEq α]
/-- What stands at a key. -/
def lk (ks : List (α × β)) (a : α) : Option β := (ks.find? fun p => decide (p.1 = a)).map Prod.snd
/-- A key gets a value. -/
def putL (ks : List (α × β)) (a : α) (b : β) : List (α × β) := if (lk ks a).isSome then ks.map fun p => if p.1 = a then (a, b) else p else ks ++ [(a, b)]
/-- A key goes. -/
def dropL (ks : List (α × β)) (a : α) : List (α × β) := ks.filter fun p => decide (p.1 ≠ a)
theorem lk_nil (a : α) : lk ([] : List (α × β)) a = none := rfl
theorem lk_cons (p : α × β) (ks : List (α × β)) (a : α) : lk (p :: ks) a = if p.1 = a then some p.2 else lk ks a := by
 unfold lk
 by_cases h : p.1 = a
 ·rw [List.find?_cons_of_pos (by simpa using h), if_pos h]; rfl
 ·rw [List.find?_cons_of_neg (by simpa using h), if_neg h]
theorem lk_append (ks js : List (α × β)) (a : α) : lk (ks ++ js) a = match lk ks a with | some b => some b | none => lk js a := by
 induction ks with
 | nil => rfl
 | cons p ks ih =>
  rw [List.cons_append, lk_cons, lk_cons]
  by_cases h : p.1 = a
  ·rw [if_pos h, if_pos h]
  ·rw [if_neg h, if_neg h, ih]
theorem lk_mem {ks : List (α × β)} {a : α} {b : β} (h : lk ks a = some b) : (a, b) ∈ ks := by
 induction ks with
 | nil => cases h
 | cons p ks ih =>
  rw [lk_cons] at h
  by_cases e : p.1 = a
  ·rw [if_pos e] at h
   injection h with h
   subst e; subst h
   exact List.mem_cons_self ..
  ·rw [if_neg e] at h
   exact List.mem_cons_of_mem _ (ih h)
theorem lk_none {ks : List (α × β)} {a : α} : lk ks a = none ↔ ∀ p ∈ ks, p.1 ≠ a := by
 induction ks with
 | nil => exact ⟨fun _ _ h => (by cases h), fun _ => rfl⟩
 | cons p ks ih =>
  rw [lk_cons]
  by_cases e : p.1 = a
  ·rw [if_pos e]
   exact ⟨fun h => (by cases h), fun h => absurd e (h p (List.mem_cons_self ..))⟩
  ·rw [if_neg e, ih]
   exact ⟨fun h q hq => by
    rcases List.mem_cons.1 hq with rfl | hq
    ·exact e
    ·exact h q hq, fun h q hq => h q (List.mem_cons_of_mem _ hq)⟩
theorem lk_of_mem {ks : List (α × β)} {a : α} {b : β} (hn : (ks.map Prod.fst).Nodup) (h : (a, b) ∈ ks) : lk ks a = some b := by
 induction ks with
 | nil => cases h
 | cons p ks ih =>
  rw [List.map_cons, List.nodup_cons] at hn
  rw [lk_cons]
  rcases List.mem_cons.1 h with rfl | h
  ·rw [if_pos rfl]
  ·have : p.1 ≠ a := fun e => hn.1 (e ▸ List.mem_map.2 ⟨_, h, rfl⟩)
   rw [if_neg this, ih hn.2 h]
theorem lk_isSome {ks : List (α × β)} {a : α} : (lk ks a).isSome = true ↔ a ∈ ks.map Prod.fst := by
 cases h : lk ks a with
 | none =>
  rw [lk_none] at h
  constructor
  ·intro h2; cases h2
  ·intro h2
   obtain ⟨p, hp, e⟩ := List.mem_map.1 h2
   exact absurd e (h p hp)
 | some b => exact ⟨fun _ => List.mem_map.2 ⟨_, lk_mem h, rfl⟩, fun _ => rfl⟩
theorem lk_map {γ : Type} (f : β → γ) (ks : List (α × β)) (a : α) : lk (ks.map fun p => (p.1, f p.2)) a = (lk ks a).map f := by
 induction ks with
 | nil => rfl
 | cons p ks ih =>
  rw [List.map_cons, lk_cons, lk_cons]
  by_cases h : p.1 = a
  ·rw [if_pos h, if_pos h]; rfl
  ·rw [if_neg h, if_neg h, ih]
theorem lk_set (ks : List (α × β)) (a : α) (b : β) (j : α) : lk (ks.map fun p => if p.1 = a then (a, b) else p) j = if j = a then (lk ks a).map (fun _ => b) else lk ks j := by
 induction ks with
 | nil => by_cases h : j = a <;> simp [h, lk_nil]
 | cons p ks ih =>
  rw [List.map_cons, lk_cons, lk_cons, lk_cons, ih]
  by_cases hp : p.1 = a
  ·rw [if_pos hp]
   by_cases hj : j = a
   ·subst hj; simp [hp]
   ·have h1 : a ≠ j := fun e => hj e.symm
    have h2 : p.1 ≠ j := fun e => hj (by rw [← e, hp])
    simp [hj, h1, h2]
  ·rw [if_neg hp]
   by_cases hj : j = a
   ·subst hj; simp [hp]
   ·simp [hj]
theorem lk_putL (ks : List (α × β)) (a : α) (b : β) (j : α) : lk (putL ks a b) j = if j = a then some b else lk ks j := by
 unfold putL
 cases h : lk ks a with
 | none =>
  simp only [Option.isSome_none, Bool.false_eq_true, if_false]
  rw [lk_append, lk_cons, lk_nil]
  by_cases hj : j = a
  ·subst hj; simp [h]
  ·have : a ≠ j := fun e => hj e.symm
   cases hk : lk ks j <;> simp [hj, this]
 | some c =>
  simp only [Option.isSome_some, if_true]
  rw [lk_set, h]; rfl
theorem lk_dropL (ks : List (α × β)) (a j : α) : lk (dropL ks a) j = if j = a then none else lk ks j := by
 unfold dropL
 induction ks with
 | nil => simp [lk_nil]
 | cons p ks ih =>
  by_cases hp : p.1 = a
  ·rw [List.filter_cons_of_neg (by simpa using hp), ih, lk_cons]
   by_cases hj : j = a
   ·rw [if_pos hj, if_pos hj]
   ·have h2 : p.1 ≠ j := fun e => hj (by rw [← e, hp])
    rw [if_neg hj, if_neg hj, if_neg h2]
  ·rw [List.filter_cons_of_pos (by simpa using hp), lk_cons, lk_cons, ih]
   by_cases hj : j = a
   ·subst hj; simp [hp]
   ·simp [hj]
theorem keys_putL (ks : List (α × β)) (a : α) (b : β) : (putL ks a b).map Prod.fst = if a ∈ ks.map Prod.fst then ks.map Prod.fst else ks.map Prod.fst ++ [a] := by
 unfold putL
 by_cases h : a ∈ ks.map Prod.fst
 ·rw [if_pos h, if_pos (lk_isSome.2 h), List.map_map]
  refine List.map_congr_left fun p _ => ?_
  show (if p.1 = a then (a, b) else p).1 = p.1
  by_cases e : p.1 = a
  ·rw [if_pos e, e]
  ·rw [if_neg e]
 ·rw [if_neg h, if_neg (fun h2 => h (lk_isSome.1 h2)), List.map_append]; rfl
theorem nodup_putL {ks : List (α × β)} (h : (ks.map Prod.fst).Nodup) (a : α) (b : β) : ((putL ks a b).map Prod.fst).Nodup := by
 rw [keys_putL]
 by_cases e : a ∈ ks.map Prod.fst
 ·rw [if_pos e]; exact h
 ·rw [if_neg e]
  exact List.nodup_append.2 ⟨h, by simp, fun x hx y hy => by
   rw [List.mem_singleton] at hy
   subst hy
   intro e2
   exact e (e2 ▸ hx)⟩
theorem keys_dropL (ks : List (α × β)) (a : α) : (dropL ks a).map Prod.fst = (ks.map Prod.fst).filter fun x => decide (x ≠ a) := by
 unfold dropL
 rw [List.filter_map]; rfl
theorem nodup_dropL {ks : List (α × β)} (h : (ks.map Prod.fst).Nodup) (a : α) : ((dropL ks a).map Prod.fst).Nodup := by
 rw [keys_dropL]; exact h.filter _
theorem mem_putL {ks : List (α × β)} {a : α} {b : β} {p : α × β} (h : p ∈ putL ks a b) : p = (a, b) ∨ p ∈ ks := by
 unfold putL at h
 split at h
 ·obtain ⟨q, hq, e⟩ := List.mem_map.1 h
  by_cases e2 : q.1 = a
  ·rw [if_pos e2] at e; exact .inl e.symm
  ·rw [if_neg e2] at e; exact .inr (e ▸ hq)
 ·rcases List.mem_append.1 h with h | h
  ·exact .inr h
  ·exact .inl (List.mem_singleton.1 h)
theorem mem_dropL {ks : List (α × β)} {a : α} {p : α × β} : p ∈ dropL ks a ↔ p ∈ ks ∧ p.1 ≠ a := by
 unfold dropL
 rw [List.mem_filter, decide_eq_true_eq]
end
/-- Numbers, rising. -/
def sortI (l : List Int) : List Int := l.mergeSort fun x y => decide (x ≤ y)
theorem sortI_perm (l : List Int) : (sortI l).Perm l := List.mergeSort_perm l _
theorem sortI_rise (l : List Int) : (sortI l).Pairwise (· ≤ ·) :=
 (List.pairwise_mergeSort (le := fun x y => decide (x ≤ y)) (by intro a b c h1 h2; simp only [decide_eq_true_eq] at *; omega) (by intro a b; simp only [Bool.or_eq_true, decide_eq_true_eq]; omega) l).imp fun h => of_decide_eq_true h
theorem le_ext : ∀ (a b : List Int), a.Pairwise (· ≤ ·) → b.Pairwise (· ≤ ·) → a.Perm b → a = b := by
 intro a b ha hb h
 exact h.eq_of_pairwise (fun x y _ _ h1 h2 => by omega) ha hb
theorem sortI_eq {a b : List Int} (hb : b.Pairwise (· ≤ ·)) (h : a.Perm b) : sortI a = b := le_ext _ _ (sortI_rise a) hb ((sortI_perm a).trans h)
theorem sortI_congr {a b : List Int} (h : a.Perm b) : sortI a = sortI b := sortI_eq (sortI_rise b) (h.trans (sortI_perm b).symm)
theorem sortI_len (l : List Int) : (sortI l).length = l.length := (sortI_perm l).length_eq

/-! Operations, rolls. -/
structure Idn where
 b : Int
 s : Int
 u : Int
instance : DecidableEq Idn := fun x y =>
 if h : x.b = y.b ∧ x.s = y.s ∧ x.u = y.u then .isTrue (by cases x; cases y; obtain ⟨rfl, rfl, rfl⟩ := h; rfl) else .isFalse (fun e => h (by subst e; exact ⟨rfl, rfl, rfl⟩))
/-- An operation: by, seq, kind, at; device, old, member, role; of; guards; need, wait. All else is zero. -/
structure OpI where
 b : Int
 s : Int
 k : Int
 a : Int
 d : Int
 o : Int
 m : Int
 r : Int
 f : Idn
 gs : List Int
 n : Int
 t : Int
def OpI.name (o : OpI) (n : Int) : Idn := ⟨o.b, n + 1, o.k⟩
/-- A guard: its name, the devices, how many are needed, how long it waits; who vouched for which device, the least At; was objected; the greatest At of an objection. -/
structure Gd where
 id : Idn
 gs : List Int
 n : Int
 t : Int
 vo : List ((Int × Int) × Int)
 ob : Bool
 la : Int
structure Mb where
 r : Int
 g : Option Gd
/-- Who is in, who went; the members, in the row in which they came; how many messages newcomers get. -/
structure RS where
 ins : List Int
 gone : List Int
 ms : List (Int × Mb)
 bk : Int
def RS.new : RS := ⟨[], [], [], 0⟩
/-- Whose device it is. -/
def ofD (d : Int) : Int := if d = 1 then 1 else if d = 2 then 2 else if d = 3 then 3 else if d = 4 then 1 else if d = 5 then 2 else if d = 6 then 4 else if d = 7 then 1 else 0
theorem ofD_bd (d : Int) : 0 ≤ ofD d ∧ ofD d ≤ 4 := by unfold ofD; omega
theorem ofD_pos {d : Int} (h : 0 < ofD d) : 1 ≤ d ∧ d ≤ 7 := by unfold ofD at h; omega
def RS.memb (s : RS) (n : Int) : Option Mb := lk s.ms n
def rolI : Option Mb → Int
 | some m => m.r
 | none => 0
def RS.role (s : RS) (n : Int) : Int := rolI (s.memb n)
def RS.inB (s : RS) (d : Int) : Bool := decide (d ∈ s.ins)
def RS.wasB (s : RS) (d : Int) : Bool := decide (d ∈ s.ins ++ s.gone)
def RS.fresh (s : RS) (d : Int) : Bool := decide (0 < ofD d) && !s.wasB d
def gdO : Option Mb → Option Gd
 | some m => m.g
 | none => none
def isId (i : Idn) : Option Gd → Bool
 | some g => decide (g.id = i)
 | none => false
/-- The member whose guard it is; 0: nobody's. -/
def RS.whose (s : RS) (i : Idn) : Int := match s.ms.find? fun p => isId i p.2.g with | some p => p.1 | none => 0
def grd1 (o : OpI) (w : Int) : Option Gd → Int × Int
 | some g => if o.b ∈ g.gs then (w, 0) else (0, 14)
 | none => (0, 25)
def RS.guards (s : RS) (o : OpI) : Int × Int := if s.whose o.f = 0 then (0, 25) else grd1 o (s.whose o.f) (gdO (s.memb (s.whose o.f)))
/-- When a guard's devices vouched for a device. -/
def Gd.ats (g : Gd) (d : Int) : List Int := (g.vo.filter fun v => decide (v.1.2 = d)).map Prod.snd
def nthI (l : List Int) (i : Nat) : Int := l.getD i 0
def dueL (g : Gd) (l : List Int) : Int × Int :=
 if (l.length : Int) < g.n then (0, 26) else if g.ob = true ∧ nthI l 0 ≤ g.la then (0, 28) else (nthI l (g.n - 1).toNat + g.t, 0)
def dueG (d : Int) : Option Gd → Int × Int
 | some g => dueL g (sortI (g.ats d))
 | none => (0, 4)
def RS.due (s : RS) (n d : Int) : Int × Int := dueG d (gdO (s.memb n))
/-- No guard's name is borne twice. -/
def RS.idsU (s : RS) : Prop := ∀ i, ∀ p ∈ s.ms, ∀ q ∈ s.ms, isId i p.2.g = true → isId i q.2.g = true → p.1 = q.1
theorem RS.whose_of {s : RS} (h : s.idsU) {i : Idn} {p : Int × Mb} (hp : p ∈ s.ms) (hi : isId i p.2.g = true) : s.whose i = p.1 := by
 unfold RS.whose
 cases e : s.ms.find? fun p => isId i p.2.g with
 | none => have := List.find?_eq_none.1 e p hp; rw [hi] at this; exact absurd rfl this
 | some q =>
  have h1 := List.mem_of_find?_eq_some e
  have h2 : isId i q.2.g = true := by have := List.find?_some e; exact this
  exact h i q h1 p hp h2 hi
theorem RS.whose_none {s : RS} {i : Idn} (h : ∀ p ∈ s.ms, isId i p.2.g = false) : s.whose i = 0 := by
 unfold RS.whose
 rw [List.find?_eq_none.2 fun p hp => by rw [h p hp]; simp]
theorem RS.whose_cases (s : RS) (i : Idn) : (s.whose i = 0 ∧ ∀ p ∈ s.ms, isId i p.2.g = false) ∨ ∃ p ∈ s.ms, isId i p.2.g = true ∧ s.whose i = p.1 := by
 unfold RS.whose
 cases e : s.ms.find? fun p => isId i p.2.g with
 | none =>
  refine .inl ⟨rfl, fun p hp => ?_⟩
  have := List.find?_eq_none.1 e p hp
  cases h : isId i p.2.g
  ·rfl
  ·rw [h] at this; exact absurd rfl this
 | some q => exact .inr ⟨q, List.mem_of_find?_eq_some e, by have := List.find?_some e; exact this, rfl⟩
/-! What is asked of an operation, by its kind. -/
def RS.rules (s : RS) (m : Int) : Bool := decide (s.role m = 3)
def RS.askAdd (s : RS) (o : OpI) (m : Int) : Int := if s.fresh o.d = false then 17 else if s.rules m = false ∧ ofD o.d ≠ m then 14 else 0
def RS.askRemove (s : RS) (o : OpI) (m : Int) : Int :=
 if o.d ≠ 0 then (if s.inB o.d = false then 17 else if s.rules m = false ∧ ofD o.d ≠ m then 14 else 0)
 else if s.memb o.m = none then 16 else if s.rules m = false ∧ o.m ≠ m then 14 else 0
def RS.askPromote (s : RS) (o : OpI) (m : Int) : Int := if s.rules m = false then 14 else if s.memb o.m = none then 16 else 0
def RS.askMessage (s : RS) (_ : OpI) (m : Int) : Int := if s.role m < 2 then 14 else 0
def RS.askErase (s : RS) (o : OpI) (m : Int) : Int := if s.rules m = false ∧ ofD o.f.b ≠ m then 14 else 0
def RS.askGuard (s : RS) (o : OpI) (_ : Int) : Int := if ∀ d ∈ o.gs, d ∈ s.ins then 0 else 17
def RS.askOwn (s : RS) (o : OpI) (m : Int) : Int := if isId o.f (gdO (s.memb m)) = true then 0 else 25
def RS.askVouch (s : RS) (o : OpI) (_ : Int) : Int :=
 if (s.guards o).2 ≠ 0 then (s.guards o).2 else if ofD o.d ≠ (s.guards o).1 then 16 else if s.fresh o.d = false then 17 else 0
def RS.askReplace (s : RS) (o : OpI) (_ : Int) : Int :=
 if (s.guards o).2 ≠ 0 then (s.guards o).2
 else if s.inB o.o = false ∨ ofD o.o ≠ (s.guards o).1 ∨ s.fresh o.d = false ∨ ofD o.d ≠ (s.guards o).1 then 17
 else if (s.due (s.guards o).1 o.d).2 = 0 ∧ o.a < (s.due (s.guards o).1 o.d).1 then 27 else (s.due (s.guards o).1 o.d).2
def RS.ask (s : RS) (o : OpI) (m : Int) : Int :=
 if o.k = 2 then s.askAdd o m else if o.k = 3 then s.askRemove o m else if o.k = 5 then s.askPromote o m else if o.k = 6 then s.askMessage o m
 else if o.k = 8 then s.askErase o m else if o.k = 9 then s.askGuard o m else if o.k = 10 then s.askOwn o m else if o.k = 11 then s.askVouch o m
 else if o.k = 12 then s.askOwn o m else if o.k = 13 then s.askReplace o m else 0
def RS.may (s : RS) (o : OpI) : Int :=
 if o.k = 1 then (if ofD o.b = 0 then 17 else if s.ins ++ s.gone ≠ [] then 5 else 0)
 else if s.inB o.b = false then 15 else s.ask o (ofD o.b)
/-! What becomes of it. -/
def RS.comes (s : RS) (d r : Int) : RS :=
 if s.fresh d = true then ⟨s.ins ++ [d], s.gone, if (s.memb (ofD d)).isSome = true then s.ms else s.ms ++ [(ofD d, ⟨r, none⟩)], s.bk⟩ else s
def RS.goes (s : RS) (d : Int) : RS :=
 if d ∈ s.ins then ⟨s.ins.filter fun e => decide (e ≠ d), s.gone ++ [d], if ∃ e ∈ s.ins, e ≠ d ∧ ofD e = ofD d then s.ms else dropL s.ms (ofD d), s.bk⟩ else s
def RS.setM (s : RS) (n : Int) (m : Mb) : RS := ⟨s.ins, s.gone, s.ms.map fun p => if p.1 = n then (n, m) else p, s.bk⟩
def RS.goAll (s : RS) (m : Int) (l : List Int) : RS := l.foldl (fun s d => if ofD d = m then s.goes d else s) s
def vouchG (g : Gd) (o : OpI) : Gd :=
 match lk g.vo (o.b, o.d) with
 | some t => if o.a < t then ⟨g.id, g.gs, g.n, g.t, putL g.vo (o.b, o.d) o.a, g.ob, g.la⟩ else g
 | none => ⟨g.id, g.gs, g.n, g.t, putL g.vo (o.b, o.d) o.a, g.ob, g.la⟩
def objG (g : Gd) (o : OpI) : Gd := ⟨g.id, g.gs, g.n, g.t, g.vo, true, max g.la o.a⟩
def RS.doGuard (s : RS) (o : OpI) (i : Idn) : RS :=
 match s.memb (ofD o.b) with
 | some m => s.setM (ofD o.b) ⟨m.r, some ⟨i, o.gs, o.n, o.t, [], false, 0⟩⟩
 | none => s
def RS.doVouch (s : RS) (o : OpI) : RS :=
 if (s.guards o).2 = 0 then
  match s.memb (s.guards o).1 with
  | some ⟨r, some g⟩ => s.setM (s.guards o).1 ⟨r, some (vouchG g o)⟩
  | _ => s
 else s
def RS.doObject (s : RS) (o : OpI) : RS :=
 match s.memb (ofD o.b) with
 | some ⟨r, some g⟩ => if g.id = o.f then s.setM (ofD o.b) ⟨r, some (objG g o)⟩ else s
 | _ => s
def RS.doPromote (s : RS) (o : OpI) : RS :=
 match s.memb o.m with
 | some m => s.setM o.m ⟨o.r, m.g⟩
 | none => s
def RS.doReplace (s : RS) (o : OpI) : RS :=
 if 0 < s.whose o.f ∧ o.o ∈ s.ins ∧ ofD o.o = s.whose o.f ∧ ofD o.d = s.whose o.f then (s.comes o.d (s.role (ofD o.d))).goes o.o else s
def RS.doCreate (s : RS) (o : OpI) : RS :=
 if s.ins ++ s.gone = [] ∧ s.fresh o.b = true then ⟨(s.comes o.b 3).ins, (s.comes o.b 3).gone, (s.comes o.b 3).ms, o.n⟩ else s
def RS.act (s : RS) (o : OpI) (i : Idn) : RS :=
 if o.k = 1 then s.doCreate o else if o.k = 2 then s.comes o.d o.r
 else if o.k = 3 then (if o.d ≠ 0 then s.goes o.d else s.goAll o.m (sortI s.ins))
 else if o.k = 5 then s.doPromote o else if o.k = 9 then s.doGuard o i else if o.k = 11 then s.doVouch o
 else if o.k = 12 then s.doObject o else if o.k = 13 then s.doReplace o else s
end Go.Proofs.YtkolilbebkkpdaaDoor

namespace Go.Proofs.YtkolilbebkkpdaaDoor
open Go.RowKit Go.Maps Go.WideElems Go.MapKept Go.ChangeMaps

/-- An element is read as it is. -/
def hR (v : Value) : Option (DataW Value × List MemPlace) := some (.held v, [])
/-- Keys of a type, as a Lean type has them. -/
structure KeyT (α : Type) where
 kt : TypeId
 val : α → Value
 ok : α → Prop
 keyed : Keyed Tryd.prog kt
 key : ∀ {a}, ok a → ∃ l, keyOf Tryd.prog kt (val a) = some l
 inj : ∀ {a b}, val a = val b → a = b
 all : ∀ {v l}, keyOf Tryd.prog kt v = some l → ∃ a, v = val a ∧ ok a
theorem len_drop {α : Type} [DecidableEq α] {l : List α} (hn : l.Nodup) (a : α) : (l.filter fun x => decide (x ≠ a)).length + (if a ∈ l then 1 else 0) = l.length := by
 induction l with
 | nil => rfl
 | cons x l ih =>
  obtain ⟨h1, h2⟩ := List.nodup_cons.1 hn
  have := ih h2
  by_cases e : x = a
  ·subst e
   rw [List.filter_cons_of_neg (by simp), if_pos (List.mem_cons_self ..), List.length_cons]
   rw [if_neg h1] at this
   omega
  ·rw [List.filter_cons_of_pos (by simpa using e), List.length_cons, List.length_cons]
   by_cases e2 : a ∈ l
   ·rw [if_pos (List.mem_cons_of_mem _ e2)]
    rw [if_pos e2] at this
    omega
   ·rw [if_neg (fun h => (List.mem_cons.1 h).elim (fun h => e h.symm) e2)]
    rw [if_neg e2] at this
    omega
section
variable {α : Type} (K : KeyT α)
noncomputable def KeyT.lit (a : α) : Lit := (keyOf Tryd.prog K.kt (K.val a)).getD (.bool false)
theorem KeyT.of {a : α} (h : K.ok a) : keyOf Tryd.prog K.kt (K.val a) = some (K.lit a) := by
 obtain ⟨l, hl⟩ := K.key h
 unfold KeyT.lit
 rw [hl]; rfl
theorem KeyT.lit_inj {a b : α} (ha : K.ok a) (hb : K.ok b) (h : K.lit a = K.lit b) : a = b :=
 K.inj (K.keyed.inj (K.of ha) (by rw [h]; exact K.of hb))
set_option maxRecDepth 100000 in
theorem KeyT.isKey {a : α} (ha : K.ok a) : WideAt.IsKeyLit (K.lit a) := K.keyed.key (v := K.val a) (l := K.lit a) (K.of ha)
end
theorem run_entryStore {w2 : World} {b : Nat} {es es' : Array MapEntry} {clock st i : Nat} {t : TypeId} {v : Value} (hw2 : w2.heap[b]? = some (.map es clock)) (hidx : es.findIdx? (fun e => ((e.born : Nat) : Int) == ((st : Nat) : Int)) = some i)
  (hmod : es.modify i (fun e => { e with val := v }) = es') : (Instr.entryStore t (.map (some b)) (.int .i64 st) v).run Tryd.prog w2 = .ok () (setBlock w2 b (.map es' clock)) := by
 simp [Instr.entryStore, MapKept.run_getObj_map hw2, asInt, asIntOf, hidx, hmod, MapKept.run_setObj_map _ hw2, Result.andThen, setBlock]
theorem setBlock_twice (w : World) (b : Nat) (o o' : Obj) : setBlock (setBlock w b o) b o' = setBlock w b o' := by simp [setBlock]
section
variable {α : Type} [DecidableEq α] (K : KeyT α)
/-- A map's datum reads as a list of pairs. -/
structure Reads (D : DataW Value) (ks : List (α × Value)) : Prop where
 tidy : Tidy D
 nd : (ks.map Prod.fst).Nodup
 ok : ∀ p ∈ ks, K.ok p.1
 at_ : ∀ a, K.ok a → ∀ z, D.atKey (K.lit a) z = match lk ks a with | some v => .held v | none => z
 size : Maps.size D = ks.length
theorem Reads.has {D : DataW Value} {ks : List (α × Value)} (h : Reads K D ks) {a : α} (ha : K.ok a) : Maps.has D (K.lit a) = (lk ks a).isSome := by
 cases e : lk ks a with
 | none => exact has_false_of_atKey fun z => by rw [h.at_ a ha z, e]
 | some v => exact has_true_of_atKey (y := .held v) fun z => by rw [h.at_ a ha z, e]
theorem Reads.empty : Reads K (.map []) ([] : List (α × Value)) := ⟨tidy_empty, List.nodup_nil, fun _ h => (by cases h), fun _ _ _ => rfl, rfl⟩
set_option maxRecDepth 100000 in
theorem Reads.put {D : DataW Value} {ks : List (α × Value)} (h : Reads K D ks) {a : α} (ha : K.ok a) (v : Value) (ht : Tidy (D.put (K.lit a) (.held v))) : Reads K (D.put (K.lit a) (.held v)) (putL ks a v) := by
 refine ⟨ht, nodup_putL h.nd a v, fun p hp => ?_, fun j hj z => ?_, ?_⟩
 ·rcases mem_putL hp with rfl | hp
  ·exact ha
  ·exact h.ok p hp
 ·rw [lk_putL]
  by_cases e : j = a
  ·subst e
   rw [if_pos rfl, atKey_put_same h.tidy.isMap (K.isKey ha)]
  ·rw [if_neg e, atKey_put_other (fun e2 => e (K.lit_inj hj ha e2)), h.at_ j hj z]
 ·rw [size_put h.tidy, h.has K ha, h.size]
  have := congrArg List.length (keys_putL ks a v)
  rw [List.length_map] at this
  rw [this]
  by_cases e : a ∈ ks.map Prod.fst
  ·rw [if_pos e, if_pos (lk_isSome.2 e), List.length_map]
  ·rw [if_neg e, if_neg (fun h2 => e (lk_isSome.1 h2)), List.length_append, List.length_map]; rfl
theorem Reads.del {D : DataW Value} {ks : List (α × Value)} (h : Reads K D ks) {a : α} (ha : K.ok a) (ht : Tidy (D.del (K.lit a))) : Reads K (D.del (K.lit a)) (dropL ks a) := by
 refine ⟨ht, nodup_dropL h.nd a, fun p hp => h.ok p (mem_dropL.1 hp).1, fun j hj z => ?_, ?_⟩
 ·rw [lk_dropL]
  by_cases e : j = a
  ·subst e
   rw [if_pos rfl, atKey_del_same]
  ·rw [if_neg e, atKey_del_other (fun e2 => e (K.lit_inj hj ha e2)), h.at_ j hj z]
 ·have h1 := size_del (k := K.lit a) h.tidy
  rw [h.has K ha, h.size] at h1
  have h2 := congrArg List.length (keys_dropL ks a)
  rw [List.length_map] at h2
  rw [h2]
  have hn := h.nd
  have hl : ks.length = (ks.map Prod.fst).length := by rw [List.length_map]
  by_cases e : a ∈ ks.map Prod.fst
  ·rw [lk_isSome.2 e, if_pos rfl] at h1
   have := len_drop hn a
   rw [if_pos e] at this
   omega
  ·have e2 : (lk ks a).isSome = false := by
    cases h3 : (lk ks a).isSome
    ·rfl
    ·exact absurd (lk_isSome.1 h3) e
   rw [e2, if_neg (by simp)] at h1
   have := len_drop hn a
   rw [if_neg e] at this
   omega
/-- Two lists that read alike. -/
theorem Reads.congr {D : DataW Value} {ks js : List (α × Value)} (h : Reads K D ks) (hn : (js.map Prod.fst).Nodup) (he : ∀ a, lk js a = lk ks a) : Reads K D js := by
 have hm : ∀ a, a ∈ js.map Prod.fst ↔ a ∈ ks.map Prod.fst := fun a => by rw [← lk_isSome, ← lk_isSome, he]
 refine ⟨h.tidy, hn, fun p hp => ?_, fun a ha z => by rw [he]; exact h.at_ a ha z, ?_⟩
 ·obtain ⟨q, hq, e⟩ := List.mem_map.1 ((hm p.1).1 (List.mem_map.2 ⟨p, hp, rfl⟩))
  rw [← e]; exact h.ok q hq
 ·have := ((List.perm_ext_iff_of_nodup hn h.nd).2 hm).length_eq
  rw [List.length_map, List.length_map] at this
  rw [this, h.size]
/-- Block b is a map that reads as these pairs, in whatever row. -/
def MapV (w : World) (b : Nat) (ks : List (α × Value)) : Prop := ∃ n D, w.ownsMap Tryd.prog K.kt hR b n D ∧ Reads K D ks ∧ n = ks.length
variable {K}
theorem ownsMap_low {w : World} {b n : Nat} {D : DataW Value} {kt : TypeId} (h : w.ownsMap Tryd.prog kt hR b n D) : w.ownsMap Tryd.prog kt hR b (Maps.size D) D := by
 obtain ⟨es, clock, h1, h2, h3, rfl⟩ := h
 refine ⟨es, clock, h1, h2, ?_, rfl⟩
 rw [size_eq, length_read]
 exact Nat.le_refl _
theorem MapV.of {w : World} {b n : Nat} {D : DataW Value} {ks : List (α × Value)} (h : w.ownsMap Tryd.prog K.kt hR b n D) (k : Reads K D ks) : MapV K w b ks := ⟨_, D, ownsMap_low h, k, k.size⟩
theorem MapV.made (w : World) : MapV K (w.alloc (.map #[] 0)) w.heap.size ([] : List (α × Value)) := MapV.of (World.ownsMap_made w Tryd.prog K.kt hR) (Reads.empty K)
theorem MapV.keep {w w' : World} {b : Nat} {ks : List (α × Value)} (h : MapV K w b ks) (hb : w'.heap[b]? = w.heap[b]?) : MapV K w' b ks := by
 obtain ⟨n, D, ⟨es, clock, h1, h2⟩, h3⟩ := h
 exact ⟨n, D, ⟨es, clock, hb.trans h1, h2⟩, h3⟩
theorem MapV.lt {w : World} {b : Nat} {ks : List (α × Value)} (h : MapV K w b ks) : b < w.heap.size := by
 obtain ⟨n, D, h1, _⟩ := h
 exact h1.lt
theorem MapV.below {w w' : World} {b : Nat} {ks : List (α × Value)} (h : MapV K w b ks) (hb : Below w.heap.size w w') : MapV K w' b ks := h.keep (hb.block b h.lt)
theorem MapV.nd {w : World} {b : Nat} {ks : List (α × Value)} (h : MapV K w b ks) : (ks.map Prod.fst).Nodup := by
 obtain ⟨n, D, _, h2, _⟩ := h
 exact h2.nd
theorem MapV.congr {w : World} {b : Nat} {ks js : List (α × Value)} (h : MapV K w b ks) (hn : (js.map Prod.fst).Nodup) (he : ∀ a, lk js a = lk ks a) : MapV K w b js := by
 obtain ⟨n, D, h1, h2, h3⟩ := h
 exact MapV.of h1 (h2.congr K hn he)
/-- What a look-up gives. -/
def lkv (ks : List (α × Value)) (a : α) (z : Value) : Value := match lk ks a with | some v => v | none => z
set_option maxRecDepth 100000 in
theorem MapV.look {w : World} {b : Nat} {ks : List (α × Value)} (h : MapV K w b ks) {t e : TypeId} (ht : Tryd.prog.underlying t = some (.map K.kt e)) {z : Value} (hz : (zeroValue e).run Tryd.prog w = .ok z w) {a : α} (ha : K.ok a) :
  (Instr.lookup t (.map (some b)) (K.val a) false).run Tryd.prog w = .ok (lkv ks a z) w := by
 obtain ⟨n, D, h1, h2, _⟩ := h
 obtain ⟨v, ps, hrun, hv⟩ := h1.lookup K.keyed ht hz (zd := .held z) (zp := []) rfl (K.of ha)
 rw [hrun]
 unfold hR at hv
 injection hv with hv
 injection hv with hv
 rw [h2.at_ a ha] at hv
 unfold lkv
 cases e : lk ks a with
 | none => rw [e] at hv; injection hv with hv; rw [hv]
 | some u => rw [e] at hv; injection hv with hv; rw [hv]
set_option maxRecDepth 100000 in
theorem MapV.look_ok {w : World} {b : Nat} {ks : List (α × Value)} (h : MapV K w b ks) {t e : TypeId} (ht : Tryd.prog.underlying t = some (.map K.kt e)) {z : Value} (hz : (zeroValue e).run Tryd.prog w = .ok z w) {a : α} (ha : K.ok a) :
  (Instr.lookup t (.map (some b)) (K.val a) true).run Tryd.prog w = .ok (.tuple #[lkv ks a z, .bool (lk ks a).isSome]) w := by
 obtain ⟨n, D, h1, h2, _⟩ := h
 obtain ⟨v, ps, hrun, hv⟩ := h1.look_ok K.keyed ht hz (zd := .held z) (zp := []) rfl (K.of ha)
 rw [hrun, h2.has K ha]
 unfold hR at hv
 injection hv with hv
 injection hv with hv
 rw [h2.at_ a ha] at hv
 unfold lkv
 cases e : lk ks a with
 | none => rw [e] at hv; injection hv with hv; rw [hv]
 | some u => rw [e] at hv; injection hv with hv; rw [hv]
theorem MapV.len {w : World} {b : Nat} {ks : List (α × Value)} (h : MapV K w b ks) {t e : TypeId} (ht : Tryd.prog.underlying t = some (.map K.kt e)) (ty : TypeId) :
  (Builtin.len_ #[t] ty #[.map (some b)]).run Tryd.prog w = .ok (.int .i64 ks.length) w := by
 obtain ⟨n, D, h1, h2, _⟩ := h
 rw [h1.len ht ty, h2.size]
set_option maxRecDepth 100000 in
theorem MapV.put {w : World} {b : Nat} {ks : List (α × Value)} (h : MapV K w b ks) {t e : TypeId} (ht : Tryd.prog.underlying t = some (.map K.kt e)) (hl : ks.length ≤ 1000000) {a : α} (ha : K.ok a) (v : Value) :
  ∃ w', (Instr.mapUpdate t (.map (some b)) (K.val a) v).run Tryd.prog w = .ok () w' ∧ MapV K w' b (putL ks a v) ∧ w.mapTurned w' b := by
 obtain ⟨n, D, h1, h2, h3⟩ := h
 obtain ⟨w', hrun, h4, h5⟩ := h1.store K.keyed ht (by unfold maxLen; omega) (K.of ha) (val := v) (d := .held v) (ps := []) rfl
 exact ⟨w', hrun, MapV.of h4 (h2.put K ha v (h4.tidy K.keyed)), h5⟩
set_option maxRecDepth 100000 in
theorem MapV.del {w : World} {b : Nat} {ks : List (α × Value)} (h : MapV K w b ks) {t e : TypeId} (ht : Tryd.prog.underlying t = some (.map K.kt e)) {a : α} (ha : K.ok a) (ty : TypeId) :
  ∃ w', (Builtin.delete_ #[t, K.kt] ty #[.map (some b), K.val a]).run Tryd.prog w = .ok (.tuple #[]) w' ∧ MapV K w' b (dropL ks a) ∧ w.mapTurned w' b := by
 obtain ⟨n, D, h1, h2, h3⟩ := h
 obtain ⟨w', hrun, h4, h5⟩ := h1.drop K.keyed ht (K.of ha) ty
 exact ⟨w', hrun, MapV.of h4 (h2.del K ha (h4.tidy K.keyed)), h5⟩
set_option maxRecDepth 100000 in
/-- A place in a map, and the store to it, as two operations. -/
theorem MapV.entry {w : World} {b : Nat} {ks : List (α × Value)} (h : MapV K w b ks) {t e : TypeId} (ht : Tryd.prog.underlying t = some (.map K.kt e)) (hl : ks.length ≤ 1000000) {z : Value} (hz : ∀ u : World, (zeroValue e).run Tryd.prog u = .ok z u) {a : α} (ha : K.ok a) (v : Value) :
  ∃ (v0 : Value) (st : Int) (w1 w2 : World), (Instr.mapEntry t (.map (some b)) (K.val a)).run Tryd.prog w = .ok (.tuple #[v0, .int .i64 st]) w1 ∧ (Instr.entryStore t (.map (some b)) (.int .i64 st) v).run Tryd.prog w1 = .ok () w2 ∧ MapV K w2 b (putL ks a v) ∧ w.mapTurned w1 b ∧ w.mapTurned w2 b := by
 obtain ⟨w', hrun', hM', ht'⟩ := h.put ht hl ha v
 obtain ⟨n, D, ⟨es, clock, hb, F, hs, hD⟩, _, _⟩ := h
 obtain ⟨s1, s2, _⟩ := F.stamped
 have hkey := K.of ha
 rcases K.keyed.find w hkey es.toList F.keys with ⟨h1, h2⟩ | ⟨j, e0, h1, h2, h3⟩
 ·have hr1 : (Instr.mapEntry t (.map (some b)) (K.val a)).run Tryd.prog w = .ok (.tuple #[z, .int .i64 clock]) (setBlock w b (.map (es.push ⟨K.val a, z, clock⟩) (clock + 1))) := by
   simp [Instr.mapEntry, run_underlying ht, MapKept.run_getObj_map hb, K.keyed.check w false hkey, h1, hz, MapKept.run_setObj_map _ hb, Result.andThen, setBlock, goInt]
  have hb1 : (setBlock w b (.map (es.push ⟨K.val a, z, clock⟩) (clock + 1))).heap[b]? = some (.map (es.push ⟨K.val a, z, clock⟩) (clock + 1)) := heap_setBlock_same hb _
  have hidx : (es.push ⟨K.val a, z, clock⟩).findIdx? (fun e => ((e.born : Nat) : Int) == ((clock : Nat) : Int)) = some es.size := by
   rw [findIdx_arr]
   exact findIdx_born (l := (es.push ⟨K.val a, z, clock⟩).toList) (j := es.size) (e0 := ⟨K.val a, z, clock⟩) (by
    simp only [Array.toList_push, List.map_append, List.map_cons, List.map_nil]
    refine List.nodup_append.2 ⟨s2, by simp, fun a ha c hc e1 => ?_⟩
    simp only [List.mem_singleton] at hc
    obtain ⟨x, hx, rfl⟩ := List.mem_map.1 ha
    have := s1 x hx
    omega) (by simp)
  have hmod : (es.push ⟨K.val a, z, clock⟩).modify es.size (fun e => { e with val := v }) = es.push ⟨K.val a, v, clock⟩ := by
   apply Array.ext'
   rw [Array.toList_modify, Array.toList_push, Array.toList_push, ← Array.length_toList, modify_last]
  have hr2 : (Instr.entryStore t (.map (some b)) (.int .i64 clock) v).run Tryd.prog (setBlock w b (.map (es.push ⟨K.val a, z, clock⟩) (clock + 1))) = .ok () (setBlock w b (.map (es.push ⟨K.val a, v, clock⟩) (clock + 1))) := by
   rw [run_entryStore hb1 hidx hmod, setBlock_twice]
  have hr3 : (Instr.mapUpdate t (.map (some b)) (K.val a) v).run Tryd.prog w = .ok () (setBlock w b (.map (es.push ⟨K.val a, v, clock⟩) (clock + 1))) := by
   simp [Instr.mapUpdate, run_underlying ht, MapKept.run_getObj_map hb, K.keyed.check w false hkey, h1, MapKept.run_setObj_map _ hb, Result.andThen, setBlock]
  rw [hrun'] at hr3
  injection hr3 with _ hw
  refine ⟨z, clock, _, w', hr1, by rw [hr2, hw], hM', ⟨es, clock, _, _, hb, rfl⟩, ht'⟩
 ·have hj : es[j]? = some e0 := by simpa using h2
  have hsame : es.modify j (fun e => { e with key := K.val a }) = es := by
   apply Array.ext'
   rw [Array.toList_modify, modify_eq_set _ _ _ _ h2]
   have : ({ e0 with key := K.val a } : MapEntry) = e0 := by rw [← h3]
   rw [this]
   exact set_self _ _ _ h2
  have hr1 : (Instr.mapEntry t (.map (some b)) (K.val a)).run Tryd.prog w = .ok (.tuple #[e0.val, .int .i64 e0.born]) (setBlock w b (.map es clock)) := by
   simp [Instr.mapEntry, run_underlying ht, MapKept.run_getObj_map hb, K.keyed.check w false hkey, h1, hj, h3, K.keyed.stays w hkey, hsame, MapKept.run_setObj_map _ hb, Result.andThen, setBlock, goInt]
  have hb1 : (setBlock w b (.map es clock)).heap[b]? = some (.map es clock) := heap_setBlock_same hb _
  have hidx : es.findIdx? (fun e => ((e.born : Nat) : Int) == ((e0.born : Nat) : Int)) = some j := by
   rw [findIdx_arr]
   exact findIdx_born s2 h2
  have hmod : es.modify j (fun e => { e with val := v }) = es.modify j (fun e' => { e' with key := K.val a, val := v }) := by
   apply Array.ext'
   rw [Array.toList_modify, Array.toList_modify, modify_eq_set _ _ _ _ h2, modify_eq_set _ _ _ _ h2, ← h3]
  have hr2 : (Instr.entryStore t (.map (some b)) (.int .i64 e0.born) v).run Tryd.prog (setBlock w b (.map es clock)) = .ok () (setBlock w b (.map (es.modify j (fun e' => { e' with key := K.val a, val := v })) clock)) := by
   rw [run_entryStore hb1 hidx hmod, setBlock_twice]
  have hr3 : (Instr.mapUpdate t (.map (some b)) (K.val a) v).run Tryd.prog w = .ok () (setBlock w b (.map (es.modify j (fun e' => { e' with key := K.val a, val := v })) clock)) := by
   simp [Instr.mapUpdate, run_underlying ht, MapKept.run_getObj_map hb, K.keyed.check w false hkey, h1, hj, h3, K.keyed.stays w hkey, MapKept.run_setObj_map _ hb, Result.andThen, setBlock]
  rw [hrun'] at hr3
  injection hr3 with _ hw
  exact ⟨e0.val, e0.born, _, w', hr1, by rw [hr2, hw], hM', ⟨es, clock, _, _, hb, rfl⟩, ht'⟩
/-! A range over a map: what has come. -/
structure Come (K : KeyT α) (ks : List (α × Value)) (left : Lit → Bool) (pre : List α) : Prop where
 nd : pre.Nodup
 left : ∀ a, K.ok a → left (K.lit a) = (decide (a ∈ ks.map Prod.fst) && decide (a ∉ pre))
 mem : ∀ a, a ∈ pre → a ∈ ks.map Prod.fst
theorem Come.start {D : DataW Value} {ks : List (α × Value)} (h : Reads K D ks) : Come K ks (Maps.has D) [] :=
 ⟨List.nodup_nil, fun a ha => by
  rw [h.has K ha]
  simp only [List.not_mem_nil, not_false_eq_true, decide_true, Bool.and_true]
  rw [Bool.eq_iff_iff, lk_isSome, decide_eq_true_eq], fun _ h => by cases h⟩
set_option maxRecDepth 100000 in
theorem Come.step {ks : List (α × Value)} {left : Lit → Bool} {pre : List α} (h : Come K ks left pre) {a : α} (ha : K.ok a) (hx : left (K.lit a) = true) : Come K ks (fun z => left z && !z.sameKey (K.lit a)) (pre ++ [a]) := by
 rw [h.left a ha, Bool.and_eq_true, decide_eq_true_eq, decide_eq_true_eq] at hx
 refine ⟨List.nodup_append.2 ⟨h.nd, by simp, fun x hx2 y hy e => hx.2 (by rw [List.mem_singleton] at hy; rw [← hy, ← e]; exact hx2)⟩, fun y hy => ?_, fun y hy => ?_⟩
 ·show (left (K.lit y) && !(K.lit y).sameKey (K.lit a)) = _
  rw [h.left y hy]
  by_cases e : y = a
  ·subst e
   rw [WideAt.sameKey_self (K.isKey ha)]
   simp
  ·rw [sameKey_ne (fun e2 => e (K.lit_inj hy ha e2))]
   simp [e]
 ·rcases List.mem_append.1 hy with hy | hy
  ·exact h.mem y hy
  ·rw [List.mem_singleton] at hy; rw [hy]; exact hx.1
theorem Come.done {ks : List (α × Value)} {left : Lit → Bool} {pre : List α} (h : Come K ks left pre) (hl : ∀ kl, left kl = false) (hok : ∀ p ∈ ks, K.ok p.1) (a : α) : a ∈ pre ↔ a ∈ ks.map Prod.fst := by
 refine ⟨h.mem a, fun hx => ?_⟩
 obtain ⟨p, hp, rfl⟩ := List.mem_map.1 hx
 have := h.left p.1 (hok p hp)
 rw [hl, decide_eq_true hx] at this
 simpa using this
theorem Come.perm {ks : List (α × Value)} {left : Lit → Bool} {pre : List α} (h : Come K ks left pre) (hl : ∀ kl, left kl = false) (hok : ∀ p ∈ ks, K.ok p.1) (hn : (ks.map Prod.fst).Nodup) : pre.Perm (ks.map Prod.fst) :=
 (List.perm_ext_iff_of_nodup h.nd hn).2 fun a => h.done hl hok a
theorem mapTurned_block {w w' : World} {b : Nat} (h : w.mapTurned w' b) : w'.heap.size = w.heap.size ∧ w'.os = w.os ∧ w'.tape = w.tape ∧ w'.output = w.output ∧ ∀ i, i ≠ b → w'.heap[i]? = w.heap[i]? := by
 obtain ⟨es, clock, es', clock', hb, rfl⟩ := h
 exact ⟨by simp [setBlock], rfl, rfl, rfl, fun i hi => heap_setBlock_other hb _ hi⟩
end
/-! The keys: numbers; pairs of numbers. -/
def i64ok (a : Int) : Prop := -9223372036854775808 ≤ a ∧ a ≤ 9223372036854775807
theorem i64wf {a : Int} : (Lit.int .i64 a).wf = true ↔ i64ok a := by
 simp only [Lit.wf, Bool.and_eq_true, decide_eq_true_eq]; exact Iff.rfl
def KI : KeyT Int where
 kt := 3
 val := fun a => .int .i64 a
 ok := i64ok
 keyed := int_keyed Tryd.underlying3
 key := fun h => ⟨_, keyOf_int_mk Tryd.underlying3 (i64wf.2 h)⟩
 inj := fun h => by injection h
 all := fun h => by
  obtain ⟨x, rfl, _, hw⟩ := Maps.keyOf_int_inv Tryd.underlying3 h
  exact ⟨x, rfl, i64wf.1 hw⟩
end Go.Proofs.YtkolilbebkkpdaaDoor

namespace Go.Proofs.YtkolilbebkkpdaaDoor
open Go.RowKit Go.Maps Go.WideElems Go.MapKept Go.ChangeMaps

theorem row_v : (93 : TypeId) < Tryd.prog.types.size := of_decide_eq_true (by kernel_rfl)
theorem wide_v : (match Tryd.prog.underlying 93 with | some (.array _ _) | some (.struct _) => true | _ => false) = true := by rw [Tryd.underlying93]
set_option maxRecDepth 100000 in
theorem law_v : Keyed Tryd.prog 93 := Keyed.of_law (deep_law_laid laidOut (m := 2) (by omega) row_v (by kernel_rfl) wide_v)
section
variable {P : Program} {k i : TypeId} {fs : Array Field} {f1 f2 : Field}
theorem lit_int (hi : P.underlying i = some (.int .i64)) {d : Nat} {cs : List Value} {l : List Lit} (h : P.keyLits (d + 1) i cs = some l) : ∃ x, cs = [.int .i64 x] ∧ i64ok x := by
 obtain ⟨n, rfl, rfl⟩ := keyLits_int' hi h
 refine ⟨n, rfl, ?_⟩
 unfold Program.keyLits at h
 rw [hi] at h
 simp only [Option.ite_none_right_eq_some] at h
 exact i64wf.1 h.1.2
theorem lits_pair (hu : P.underlying k = some (.struct fs)) (hi : P.underlying i = some (.int .i64)) (hc : P.cellsOf k = 2) (hci : P.cellsOf i = 1) (hfs : fs.toList = [f1, f2]) (h1 : f1.type = i) (h2 : f2.type = i) (o1 : f1.offset = 0) (o2 : f2.offset = 1)
  {d : Nat} {cs : List Value} {l : List Lit} (h : P.keyLits (d + 2) k cs = some l) : ∃ x y, cs = [.int .i64 x, .int .i64 y] ∧ i64ok x ∧ i64ok y := by
 unfold Program.keyLits at h
 rw [hu] at h
 simp only [hc, hfs] at h
 split at h
 ·rename_i h0
  obtain ⟨h0, _⟩ := h0
  match cs, h0 with
  | [u, v], _ =>
   simp only [List.mapM_cons, List.mapM_nil, h1, h2, o1, o2, hci, List.drop_zero, List.take_succ_cons, List.take_zero, List.drop_succ_cons] at h
   cases e1 : P.keyLits (d + 1) i [u] with
   | none => rw [e1] at h; cases h
   | some l1 =>
    cases e2 : P.keyLits (d + 1) i [v] with
    | none => rw [e1, e2] at h; cases h
    | some l2 =>
     obtain ⟨x, hx, kx⟩ := lit_int hi e1
     obtain ⟨y, hy, ky⟩ := lit_int hi e2
     injection hx with hx _
     injection hy with hy _
     exact ⟨x, y, by rw [hx, hy], kx, ky⟩
 ·cases h
theorem lit_int_mk (hi : P.underlying i = some (.int .i64)) {d : Nat} {x : Int} (hx : i64ok x) : P.keyLits (d + 1) i [.int .i64 x] = some [.int .i64 x] := by
 unfold Program.keyLits
 rw [hi]
 exact if_pos ⟨rfl, i64wf.2 hx⟩
theorem key_pair (hu : P.underlying k = some (.struct fs)) (hi : P.underlying i = some (.int .i64)) (hc : P.cellsOf k = 2) (hci : P.cellsOf i = 1) (hfs : fs.toList = [f1, f2]) (h1 : f1.type = i) (h2 : f2.type = i) (o1 : f1.offset = 0) (o2 : f2.offset = 1)
  (hk : P.keyType k = true) (hb : fs.all (fun f => f.name != "_") = true) (h0 : 0 < P.types.size) {x y : Int} (hx : i64ok x) (hy : i64ok y) : ∃ l, keyOf P k (.agg #[.int .i64 x, .int .i64 y]) = some l := by
 obtain ⟨d, hd⟩ : ∃ d, P.types.size + 1 = d + 2 := ⟨P.types.size - 1, by omega⟩
 have hl : P.keyLits (d + 2) k [.int .i64 x, .int .i64 y] = some [.int .i64 x, .int .i64 y] := by
  unfold Program.keyLits
  rw [hu]
  simp only [hc, hfs]
  rw [if_pos ⟨rfl, hb⟩]
  simp only [List.mapM_cons, List.mapM_nil, h1, h2, o1, o2, hci, List.drop_zero, List.take_succ_cons, List.take_zero, List.drop_succ_cons, lit_int_mk hi hx, lit_int_mk hi hy]
  rfl
 refine ⟨.string (keyBytes [.int .i64 x, .int .i64 y]), ?_⟩
 unfold keyOf
 rw [hu]
 simp only [hk, Value.formed, hu, hc, hd]
 show (if (true && (#[Value.int .i64 x, Value.int .i64 y].size == 2)) = true then (P.keyLits (d + 2) k [.int .i64 x, .int .i64 y]).map (fun ls => Lit.string (keyBytes ls)) else none) = _
 rw [hl]
 rfl
end
set_option maxRecDepth 100000 in
def KV : KeyT (Int × Int) where
 kt := 93
 val := fun a => .agg #[.int .i64 a.1, .int .i64 a.2]
 ok := fun a => i64ok a.1 ∧ i64ok a.2
 keyed := law_v
 key := fun h => key_pair Tryd.underlying93 Tryd.underlying3 (by kernel_rfl) (by kernel_rfl) rfl rfl rfl rfl rfl (by kernel_rfl) (by kernel_rfl) (of_decide_eq_true (by kernel_rfl)) h.1 h.2
 inj := fun {a b} h => by
  injection h with h
  have h1 := congrArg (fun l => l.toList) h
  simp only [List.cons.injEq, Value.int.injEq, true_and, and_true] at h1
  exact Prod.ext h1.1 h1.2
 all := fun {v l} h => by
  obtain ⟨xs, L, rfl, hL, _⟩ := keyOf_top wide_v h
  have h0 : 0 < Tryd.prog.types.size := of_decide_eq_true (by kernel_rfl)
  obtain ⟨d, hd⟩ : ∃ d, Tryd.prog.types.size + 1 = d + 2 := ⟨Tryd.prog.types.size - 1, by omega⟩
  rw [hd] at hL
  obtain ⟨x, y, hc, hx, hy⟩ := lits_pair Tryd.underlying93 Tryd.underlying3 (by kernel_rfl) (by kernel_rfl) rfl rfl rfl rfl rfl hL
  exact ⟨(x, y), by rw [show xs = xs.toList.toArray by simp, hc], hx, hy⟩
end Go.Proofs.YtkolilbebkkpdaaDoor

namespace Go.Proofs.YtkolilbebkkpdaaDoor
open Go.ChangeShapes Go.WideShapes Go.ChangeAt Go.RowKit

/-- A slice of n signed numbers. -/
structure UI (w : World) (p : Option Addr) (n : Nat) (xs : List Int) : Prop where
 len : xs.length = n
 rd : Rd w p (xs.map (Value.int .i64))
 bd : ∀ x ∈ xs, -9223372036854775808 ≤ x ∧ x ≤ 9223372036854775807
theorem UI.below {w w' : World} {p : Option Addr} {n : Nat} {xs : List Int} (h : UI w p n xs) (hb : Below w.heap.size w w') : UI w' p n xs := ⟨h.len, h.rd.below hb, h.bd⟩
theorem UI.look {w : World} {p : Option Addr} {n : Nat} {xs : List Int} (h : UI w p n xs) {i : Nat} (hi : i < n) :
  ∃ b off, p = some ⟨b, off, none⟩ ∧ b < w.heap.size ∧ w.cell? ⟨b, off + i, none⟩ = some (.int .i64 (nth xs i)) ∧ -9223372036854775808 ≤ nth xs i ∧ nth xs i ≤ 9223372036854775807 := by
 have hi' : i < xs.length := by rw [h.len]; exact hi
 obtain ⟨b, off, hp, hb, hc⟩ := h.rd.here (i := i) (by simpa using hi')
 have hx := h.bd _ (nth_mem hi')
 refine ⟨b, off, hp, hb, ?_, hx⟩
 have := hc i (by simpa using hi')
 rwa [List.getElem_map, ← nth_eq hi'] at this
theorem UI.cell {w : World} {b off n : Nat} {xs : List Int} (h : UI w (some ⟨b, off, none⟩) n xs) {i : Nat} (hi : i < n) : w.cell? ⟨b, off + i, none⟩ = some (.int .i64 (nth xs i)) := by
 obtain ⟨b', off', he, _, hc, _⟩ := h.look hi
 injection he with he
 injection he with h1 h2
 subst h1; subst h2
 exact hc

set_option maxRecDepth 100000 in
theorem open_I {H : Type} {enc : TypeId × Value → H} {W : World} {base : Nat} {v : Value} {d : DataW H} {ps : List MemPlace} (hok : Value.okWide Tryd.prog W .any base 22 v) (h : DataW.Trod enc Tryd.prog W 0 (fun _ => true) true 22 v d ps) :
  ∃ p n c xs, v = .slice p n c ∧ UI W p n xs ∧ n ≤ c ∧ n ≤ 9223372036854775807 ∧ (p = none → c = 0) := by
 obtain ⟨p, n, c, zs, rfl, hl, hr, hw, hnc, hcm, hp⟩ := open_nums Tryd.underlying22 Tryd.underlying3 (by kernel_rfl) hok h
 refine ⟨p, n, c, zs, rfl, ⟨hl, hr, fun z hz => wf_i64 (hw z hz)⟩, hnc, ?_, hp⟩
 unfold maxLen at hcm
 omega

end Go.Proofs.YtkolilbebkkpdaaDoor

namespace Go.Proofs.YtkolilbebkkpdaaDoor
open Go.RowKit Go.Maps

theorem Below.lit (w : World) (o : Obj) : Below w.heap.size w (w.alloc o) := (Below.refl _ _).alloc (Nat.le_refl _) _
/-- The cards. -/
def cardV (d m : Int) : Value := .agg #[.int .i64 d, .int .i64 m, .int .u64 5, .int .u64 6, .int .u64 7]
def cardsL : List (Int × Value) := [(1, cardV 1 1), (2, cardV 2 2), (3, cardV 3 3), (4, cardV 4 1), (5, cardV 5 2), (6, cardV 6 4), (7, cardV 7 1)]
def card0 : Value := .agg #[.int .i64 0, .int .i64 0, .int .u64 0, .int .u64 0, .int .u64 0]
theorem cards_look (d : Int) : ∃ a b c e : Int, lkv cardsL d card0 = .agg #[.int .i64 a, .int .i64 (ofD d), .int .u64 b, .int .u64 c, .int .u64 e] := by
 unfold lkv cardsL
 simp only [lk_cons, lk_nil]
 by_cases h1 : d = 1
 ·subst h1; exact ⟨1, 5, 6, 7, rfl⟩
 by_cases h2 : d = 2
 ·subst h2; exact ⟨2, 5, 6, 7, rfl⟩
 by_cases h3 : d = 3
 ·subst h3; exact ⟨3, 5, 6, 7, rfl⟩
 by_cases h4 : d = 4
 ·subst h4; exact ⟨4, 5, 6, 7, rfl⟩
 by_cases h5 : d = 5
 ·subst h5; exact ⟨5, 5, 6, 7, rfl⟩
 by_cases h6 : d = 6
 ·subst h6; exact ⟨6, 5, 6, 7, rfl⟩
 by_cases h7 : d = 7
 ·subst h7; exact ⟨7, 5, 6, 7, rfl⟩
 have e : ofD d = 0 := by unfold ofD; omega
 rw [e, if_neg (fun h => h1 h.symm), if_neg (fun h => h2 h.symm), if_neg (fun h => h3 h.symm), if_neg (fun h => h4 h.symm), if_neg (fun h => h5 h.symm), if_neg (fun h => h6 h.symm), if_neg (fun h => h7 h.symm)]
 exact ⟨0, 0, 0, 0, rfl⟩
/-- Where a member lies: its block; its guard's; that one's map, and devices. -/
structure MRec where
 n : Int
 m : Mb
 a : Nat
 g : Nat
 v : Nat
 e : Nat
 c : Nat
def voV (vo : List ((Int × Int) × Int)) : List ((Int × Int) × Value) := vo.map fun p => (p.1, .int .i64 p.2)
def gdCells (v e c : Nat) (d : Gd) : Array Value :=
 #[.int .i64 d.id.b, .int .i64 d.id.s, .int .u64 d.id.u, .slice (some ⟨e, 0, none⟩) d.gs.length c, .int .i64 d.n, .int .i64 d.t, .map (some v), .bool d.ob, .int .i64 d.la]
structure GdAt (w : World) (g v e c : Nat) (d : Gd) : Prop where
 blk : w.heap[g]? = some (.cells (gdCells v e c d) 90 (0, 0))
 gs : UI w (some ⟨e, 0, none⟩) d.gs.length d.gs
 lt : e < w.heap.size
 cap : d.gs.length ≤ c
 vo : MapV KV w v (voV d.vo)
def gptr (o : Option Gd) (g : Nat) : Value := match o with | some _ => .pointer (some ⟨g, 0, none⟩) | none => .pointer none
structure MbAt (w : World) (x : MRec) : Prop where
 blk : w.heap[x.a]? = some (.cells #[.int .i64 x.m.r, gptr x.m.g x.g] 87 (0, 0))
 gd : ∀ d, x.m.g = some d → GdAt w x.g x.v x.e x.c d
structure Lay where
 r : Nat
 c : Nat
 i : Nat
 w : Nat
 m : Nat
 l : List MRec
def gfoot (o : Option Gd) (g v e : Nat) : List Nat := match o with | some _ => [g, v, e] | none => []
def MRec.foot (x : MRec) : List Nat := x.a :: gfoot x.m.g x.g x.v x.e
def Lay.foot (y : Lay) : List Nat := y.r :: y.c :: y.i :: y.w :: y.m :: y.l.flatMap MRec.foot
def setV (l : List Int) : List (Int × Value) := l.map fun d => (d, .bool true)
def memV (l : List MRec) : List (Int × Value) := l.map fun x => (x.n, .pointer (some ⟨x.a, 0, none⟩))
def rollCells (y : Lay) (bk : Int) : Array Value := #[.map (some y.c), .map (some y.i), .map (some y.w), .map (some y.m), .int .i64 bk]
structure RollAt (w : World) (y : Lay) (s : RS) : Prop where
 blk : w.heap[y.r]? = some (.cells (rollCells y s.bk) 81 (0, 0))
 cards : MapV KI w y.c cardsL
 ins : MapV KI w y.i (setV s.ins)
 was : MapV KI w y.w (setV (s.ins ++ s.gone))
 ms : MapV KI w y.m (memV y.l)
 mb : ∀ x ∈ y.l, MbAt w x
 eq : y.l.map (fun x => (x.n, x.m)) = s.ms
 nd : y.foot.Nodup
theorem blk_lt {w : World} {b : Nat} {o : Obj} (h : w.heap[b]? = some o) : b < w.heap.size := (Array.getElem?_eq_some_iff.1 h).1
theorem Rd.block {w w' : World} {e : Nat} {xs : List Value} (h : Rd w (some ⟨e, 0, none⟩) xs) (hb : w'.heap[e]? = w.heap[e]?) : Rd w' (some ⟨e, 0, none⟩) xs := by
 rcases h with h | ⟨b, off, he, hc⟩
 ·exact .inl h
 ·injection he with he
  injection he with h1 h2
  subst h1; subst h2
  refine .inr ⟨e, 0, rfl, fun i hi => ?_⟩
  rw [← hc i hi]
  unfold World.cell?
  simp only [hb]
theorem UI.block {w w' : World} {e n : Nat} {xs : List Int} (h : UI w (some ⟨e, 0, none⟩) n xs) (hb : w'.heap[e]? = w.heap[e]?) : UI w' (some ⟨e, 0, none⟩) n xs := ⟨h.len, h.rd.block hb, h.bd⟩
theorem GdAt.keep {w w' : World} {g v e c : Nat} {d : Gd} (h : GdAt w g v e c d) (hz : w.heap.size ≤ w'.heap.size) (hg : w'.heap[g]? = w.heap[g]?) (hv : w'.heap[v]? = w.heap[v]?) (he : w'.heap[e]? = w.heap[e]?) : GdAt w' g v e c d :=
 ⟨hg.trans h.blk, h.gs.block he, Nat.lt_of_lt_of_le h.lt hz, h.cap, h.vo.keep hv⟩
theorem MbAt.keep {w w' : World} {x : MRec} (h : MbAt w x) (hz : w.heap.size ≤ w'.heap.size) (hb : ∀ i ∈ x.foot, w'.heap[i]? = w.heap[i]?) : MbAt w' x := by
 refine ⟨(hb _ (List.mem_cons_self ..)).trans h.blk, fun d hd => ?_⟩
 have hf : x.foot = [x.a, x.g, x.v, x.e] := by unfold MRec.foot gfoot; rw [hd]
 rw [hf] at hb
 exact (h.gd d hd).keep hz (hb _ (by simp)) (hb _ (by simp)) (hb _ (by simp))
theorem MbAt.lt {w : World} {x : MRec} (h : MbAt w x) : ∀ i ∈ x.foot, i < w.heap.size := by
 intro i hi
 unfold MRec.foot at hi
 rcases List.mem_cons.1 hi with rfl | hi
 ·exact blk_lt h.blk
 ·cases hd : x.m.g with
  | none => rw [hd] at hi; cases hi
  | some d =>
   rw [hd] at hi
   have k := h.gd d hd
   simp only [gfoot, List.mem_cons, List.not_mem_nil, or_false] at hi
   rcases hi with rfl | rfl | rfl
   ·exact blk_lt k.blk
   ·exact k.vo.lt
   ·exact k.lt
theorem RollAt.lt {w : World} {y : Lay} {s : RS} (h : RollAt w y s) : ∀ i ∈ y.foot, i < w.heap.size := by
 intro i hi
 unfold Lay.foot at hi
 simp only [List.mem_cons, List.mem_flatMap] at hi
 rcases hi with rfl | rfl | rfl | rfl | rfl | ⟨x, hx, hi⟩
 ·exact blk_lt h.blk
 ·exact h.cards.lt
 ·exact h.ins.lt
 ·exact h.was.lt
 ·exact h.ms.lt
 ·exact (h.mb x hx).lt i hi
theorem RollAt.keep {w w' : World} {y : Lay} {s : RS} (h : RollAt w y s) (hz : w.heap.size ≤ w'.heap.size) (hb : ∀ i ∈ y.foot, w'.heap[i]? = w.heap[i]?) : RollAt w' y s := by
 have hm : ∀ x ∈ y.l, ∀ i ∈ x.foot, w'.heap[i]? = w.heap[i]? := fun x hx i hi => hb i (by
  unfold Lay.foot
  simp only [List.mem_cons, List.mem_flatMap]
  exact .inr (.inr (.inr (.inr (.inr ⟨x, hx, hi⟩)))))
 unfold Lay.foot at hb
 exact ⟨(hb _ (by simp)).trans h.blk, h.cards.keep (hb _ (by simp)), h.ins.keep (hb _ (by simp)), h.was.keep (hb _ (by simp)), h.ms.keep (hb _ (by simp)), fun x hx => (h.mb x hx).keep hz (hm x hx), h.eq, h.nd⟩
theorem RollAt.below {w w' : World} {y : Lay} {s : RS} (h : RollAt w y s) (hb : Below w.heap.size w w') : RollAt w' y s := h.keep hb.size fun i hi => hb.block i (h.lt i hi)
theorem RollAt.drew {w : World} {y : Lay} {s : RS} (h : RollAt w y s) : RollAt w.drew y s := h.below (Below.refl _ _).drew
/-- What a call that works on some blocks leaves: all else lies as it did; of the new blocks each is an old one, or new. -/
structure Turn (w w' : World) (F F' : List Nat) : Prop where
 os : w'.os = w.os
 tape : w'.tape = w.tape
 out : w'.output = w.output
 size : w.heap.size ≤ w'.heap.size
 blk : ∀ i, i < w.heap.size → i ∉ F → w'.heap[i]? = w.heap[i]?
 new : ∀ i ∈ F', i ∈ F ∨ w.heap.size ≤ i
theorem Turn.refl (w : World) (F : List Nat) : Turn w w F F := ⟨rfl, rfl, rfl, Nat.le_refl _, fun _ _ _ => rfl, fun _ h => .inl h⟩
theorem Turn.trans {w v u : World} {F G H : List Nat} (h : Turn w v F G) (k : Turn v u G H) : Turn w u F H := by
 refine ⟨k.os.trans h.os, k.tape.trans h.tape, k.out.trans h.out, Nat.le_trans h.size k.size, fun i hi hF => ?_, fun i hi => ?_⟩
 ·refine (k.blk i (Nat.lt_of_lt_of_le hi h.size) fun hg => ?_).trans (h.blk i hi hF)
  rcases h.new i hg with h1 | h1
  ·exact hF h1
  ·omega
 ·rcases k.new i hi with h1 | h1
  ·exact h.new i h1
  ·exact .inr (Nat.le_trans h.size h1)
theorem Turn.of_below {w w' : World} {F : List Nat} (h : Below w.heap.size w w') : Turn w w' F F := ⟨h.os, h.tape, h.output, h.size, fun i hi _ => h.block i hi, fun _ h => .inl h⟩
theorem Turn.below {w w' : World} {F F' : List Nat} {B : Nat} (h : Turn w w' F F') (hF : ∀ i ∈ F, B ≤ i) (hB : B ≤ w.heap.size) : Below B w w' :=
 ⟨h.os, h.tape, h.out, h.size, fun i hi => h.blk i (by omega) fun hf => by have := hF i hf; omega⟩
theorem Turn.above {w w' : World} {F F' : List Nat} {B : Nat} (h : Turn w w' F F') (hF : ∀ i ∈ F, B ≤ i) (hB : B ≤ w.heap.size) : ∀ i ∈ F', B ≤ i := fun i hi => by
 rcases h.new i hi with h1 | h1
 ·exact hF i h1
 ·omega
/-- One roll beside another one. -/
def Apart (F G : List Nat) : Prop := ∀ i ∈ F, i ∉ G
theorem Apart.symm {F G : List Nat} (h : Apart F G) : Apart G F := fun i hi hf => h i hf hi
theorem Turn.other {w w' : World} {F F' : List Nat} (h : Turn w w' F F') {y : Lay} {s : RS} (hr : RollAt w y s) (ha : Apart y.foot F) : RollAt w' y s ∧ Apart y.foot F' :=
 ⟨hr.keep h.size fun i hi => h.blk i (hr.lt i hi) (ha i hi), fun i hi hf => by
  rcases h.new i hf with h1 | h1
  ·exact ha i hi h1
  ·have := hr.lt i hi; omega⟩
theorem RollAt.cell {w : World} {y : Lay} {s : RS} (h : RollAt w y s) (i : Nat) : w.cell? ⟨y.r, i, none⟩ = (rollCells y s.bk)[i]? := by
 simp [World.cell?, h.blk]
theorem RollAt.free {w : World} {y : Lay} {s : RS} (h : RollAt w y s) (i : Nat) : w.frozen? ⟨y.r, i, none⟩ = false := by simp [World.frozen?, h.blk]
theorem RollAt.c0 {w : World} {y : Lay} {s : RS} (h : RollAt w y s) : w.cell? ⟨y.r, 0, none⟩ = some (.map (some y.c)) := by rw [h.cell]; rfl
theorem RollAt.c1 {w : World} {y : Lay} {s : RS} (h : RollAt w y s) : w.cell? ⟨y.r, 1, none⟩ = some (.map (some y.i)) := by rw [h.cell]; rfl
theorem RollAt.c2 {w : World} {y : Lay} {s : RS} (h : RollAt w y s) : w.cell? ⟨y.r, 2, none⟩ = some (.map (some y.w)) := by rw [h.cell]; rfl
theorem RollAt.c3 {w : World} {y : Lay} {s : RS} (h : RollAt w y s) : w.cell? ⟨y.r, 3, none⟩ = some (.map (some y.m)) := by rw [h.cell]; rfl
theorem RollAt.c4 {w : World} {y : Lay} {s : RS} (h : RollAt w y s) : w.cell? ⟨y.r, 4, none⟩ = some (.int .i64 s.bk) := by rw [h.cell]; rfl
/-! What the maps' look-ups give. -/
theorem zero_card (w : World) : (zeroValue 69).run Tryd.prog w = .ok card0 w := by kernel_rfl
theorem zero_bool (w : World) : (zeroValue 4).run Tryd.prog w = .ok (.bool false) w := by kernel_rfl
theorem zero_ptr (w : World) : (zeroValue 82).run Tryd.prog w = .ok (.pointer none) w := by kernel_rfl
theorem zero_int (w : World) : (zeroValue 3).run Tryd.prog w = .ok (.int .i64 0) w := by kernel_rfl
theorem RollAt.of {w : World} {y : Lay} {s : RS} (h : RollAt w y s) {d : Int} (hd : i64ok d) : ∃ a b c e : Int, (Instr.lookup 77 (.map (some y.c)) (.int .i64 d) false).run Tryd.prog w = .ok (.agg #[.int .i64 a, .int .i64 (ofD d), .int .u64 b, .int .u64 c, .int .u64 e]) w := by
 obtain ⟨a, b, c, e, he⟩ := cards_look d
 refine ⟨a, b, c, e, ?_⟩
 rw [← he]
 exact h.cards.look (K := KI) Tryd.underlying77 (zero_card w) hd
theorem lkv_set (l : List Int) (d : Int) : lkv (setV l) d (.bool false) = .bool (decide (d ∈ l)) := by
 unfold lkv setV
 induction l with
 | nil => simp [lk_nil]
 | cons x l ih =>
  rw [List.map_cons, lk_cons]
  by_cases h : x = d
  ·subst h; simp
  ·rw [if_neg h, ih]
   have : d ≠ x := fun e => h e.symm
   simp [this]
theorem RollAt.inn {w : World} {y : Lay} {s : RS} (h : RollAt w y s) {d : Int} (hd : i64ok d) : (Instr.lookup 78 (.map (some y.i)) (.int .i64 d) false).run Tryd.prog w = .ok (.bool (s.inB d)) w := by
 have := h.ins.look (K := KI) Tryd.underlying78 (zero_bool w) hd
 rwa [lkv_set] at this
theorem RollAt.wasn {w : World} {y : Lay} {s : RS} (h : RollAt w y s) {d : Int} (hd : i64ok d) : (Instr.lookup 78 (.map (some y.w)) (.int .i64 d) false).run Tryd.prog w = .ok (.bool (s.wasB d)) w := by
 have := h.was.look (K := KI) Tryd.underlying78 (zero_bool w) hd
 rwa [lkv_set] at this
/-- A member is there, or none. -/
theorem lay_look {l : List MRec} {n : Int} : (lk (l.map fun x => (x.n, x.m)) n = none ∧ lkv (memV l) n (.pointer none) = .pointer none) ∨ ∃ x ∈ l, x.n = n ∧ lk (l.map fun x => (x.n, x.m)) n = some x.m ∧ lkv (memV l) n (.pointer none) = .pointer (some ⟨x.a, 0, none⟩) := by
 unfold lkv memV
 induction l with
 | nil => exact .inl ⟨rfl, rfl⟩
 | cons x l ih =>
  rw [List.map_cons, List.map_cons, lk_cons, lk_cons]
  by_cases h : x.n = n
  ·refine .inr ⟨x, List.mem_cons_self .., h, ?_, ?_⟩
   ·rw [if_pos h]
   ·rw [if_pos h]
  ·rw [if_neg h, if_neg h]
   rcases ih with ih | ⟨z, hz, h1, h2⟩
   ·exact .inl ih
   ·exact .inr ⟨z, List.mem_cons_of_mem _ hz, h1, h2⟩
theorem RollAt.mem {w : World} {y : Lay} {s : RS} (h : RollAt w y s) {n : Int} (hn : i64ok n) :
  (s.memb n = none ∧ (Instr.lookup 79 (.map (some y.m)) (.int .i64 n) false).run Tryd.prog w = .ok (.pointer none) w) ∨
  ∃ x ∈ y.l, x.n = n ∧ s.memb n = some x.m ∧ (Instr.lookup 79 (.map (some y.m)) (.int .i64 n) false).run Tryd.prog w = .ok (.pointer (some ⟨x.a, 0, none⟩)) w := by
 have hl := h.ms.look (K := KI) Tryd.underlying79 (zero_ptr w) hn
 unfold RS.memb
 rw [← h.eq]
 rcases lay_look (l := y.l) (n := n) with ⟨h1, h2⟩ | ⟨x, hx, h1, h2, h3⟩
 ·rw [h2] at hl; exact .inl ⟨h1, hl⟩
 ·rw [h3] at hl; exact .inr ⟨x, hx, h1, h2, hl⟩
theorem MbAt.c0 {w : World} {x : MRec} (h : MbAt w x) : w.cell? ⟨x.a, 0, none⟩ = some (.int .i64 x.m.r) := by simp [World.cell?, h.blk]
theorem MbAt.c1 {w : World} {x : MRec} (h : MbAt w x) : w.cell? ⟨x.a, 1, none⟩ = some (gptr x.m.g x.g) := by simp [World.cell?, h.blk]
theorem MbAt.free {w : World} {x : MRec} (h : MbAt w x) (i : Nat) : w.frozen? ⟨x.a, i, none⟩ = false := by simp [World.frozen?, h.blk]
end Go.Proofs.YtkolilbebkkpdaaDoor

namespace Go.Proofs.YtkolilbebkkpdaaDoor
open Go.RowKit Go.Maps

set_option maxRecDepth 100000 in
theorem of_any (w : World) (y : Lay) (s : RS) (d : Int) (hR : RollAt w y s) (hd : i64ok d) :
  Calls Tryd.prog 37 #[.pointer (some ⟨y.r, 0, none⟩), .int .i64 d] w fun e w' => e = .returned (.int .i64 (ofD d)) ∧ w = w' := by
 obtain ⟨a, b, c, e, hl⟩ := hR.of hd
 have h0 := hR.c0
 have hf : (Instr.field 69 (.agg #[.int .i64 a, .int .i64 (ofD d), .int .u64 b, .int .u64 c, .int .u64 e]) 1).run Tryd.prog w = .ok (.int .i64 (ofD d)) w := by kernel_rfl
 clear hR
 go_enter Tryd.func37, Tryd.ntmps37
 go_wp2_with fail
 go_ret
 exact ⟨rfl, rfl⟩
set_option maxRecDepth 100000 in
theorem fresh_any (w : World) (y : Lay) (s : RS) (d : Int) (hR : RollAt w y s) (hd : i64ok d) :
  Calls Tryd.prog 38 #[.pointer (some ⟨y.r, 0, none⟩), .int .i64 d] w fun e w' => e = .returned (.bool (s.fresh d)) ∧ w = w' := by
 have hl := hR.wasn hd
 have h2 := hR.c2
 have hb := ofD_bd d
 by_cases h : 0 < ofD d
 ·have e : s.fresh d = !s.wasB d := by unfold RS.fresh; rw [decide_eq_true h, Bool.true_and]
  rw [e]
  go_enter Tryd.func38, Tryd.ntmps38
  go_wp2_with (go_at_call 37; refine (of_any _ y s d hR hd).mono ?_; rintro e w' ⟨rfl, rfl⟩)
  go_ret
  exact ⟨rfl, rfl⟩
 ·have e : s.fresh d = false := by unfold RS.fresh; rw [decide_eq_false h, Bool.false_and]
  rw [e]
  have hz : ofD d = 0 := by omega
  replace hz := Lib.hid hz
  go_enter Tryd.func38, Tryd.ntmps38
  go_wp2_with (go_at_call 37; refine (of_any _ y s d hR hd).mono ?_; rintro e w' ⟨rfl, rfl⟩; rw [hz.out])
  go_ret
  exact ⟨rfl, rfl⟩
set_option maxRecDepth 100000 in
theorem Back_any (w : World) (y : Lay) (s : RS) (hR : RollAt w y s) :
  Calls Tryd.prog 44 #[.pointer (some ⟨y.r, 0, none⟩)] w fun e w' => e = .returned (.int .i64 s.bk) ∧ w = w' := by
 have h4 := hR.c4
 clear hR
 go_enter Tryd.func44, Tryd.ntmps44
 go_wp2_with fail
 go_ret
 exact ⟨rfl, rfl⟩
set_option maxRecDepth 100000 in
theorem Role_any (w : World) (y : Lay) (s : RS) (n : Int) (hR : RollAt w y s) (hn : i64ok n) :
  Calls Tryd.prog 19 #[.pointer (some ⟨y.r, 0, none⟩), .int .i64 n] w fun e w' => e = .returned (.int .i64 (s.role n)) ∧ w = w' := by
 have h3 := hR.c3
 rcases hR.mem hn with ⟨h1, hl⟩ | ⟨x, hx, hxn, h1, hl⟩
 ·have e : s.role n = 0 := by unfold RS.role; rw [h1]; rfl
  rw [e]
  replace h1 := Lib.hid h1
  clear hR
  go_enter Tryd.func19, Tryd.ntmps19
  go_wp2_with fail
  go_ret
  exact ⟨rfl, rfl⟩
 ·have e : s.role n = x.m.r := by unfold RS.role; rw [h1]; rfl
  rw [e]
  have hc := (hR.mb x hx).c0
  replace h1 := Lib.hid h1
  clear hR hxn
  go_enter Tryd.func19, Tryd.ntmps19
  go_wp2_with fail
  go_ret
  exact ⟨rfl, rfl⟩
set_option maxRecDepth 100000 in
theorem rules_any (w : World) (y : Lay) (s : RS) (n : Int) (hR : RollAt w y s) (hn : i64ok n) :
  Calls Tryd.prog 122 #[.pointer (some ⟨y.r, 0, none⟩), .int .i64 n] w fun e w' => e = .returned (.bool (s.rules n)) ∧ w = w' := by
 go_enter Tryd.func122, Tryd.ntmps122
 go_wp2_with fail
 refine (Role_any _ y s n hR hn).mono ?_
 rintro e w' ⟨rfl, rfl⟩
 obtain ⟨q, hq⟩ : ∃ q, Hid (s.rules n = q) := ⟨_, Lib.hid rfl⟩
 by_cases h : s.role n = 3
 ·have e1 : (s.role n == 3) = true := beq_iff_eq.2 h
  have eq : Hid (q = true) := Lib.hid (by rw [← hq.out]; unfold RS.rules; exact decide_eq_true h)
  clear h
  go_wp2_with fail
  go_ret
  exact ⟨by rw [hq.out, eq.out]; rfl, rfl⟩
 ·have e1 : (s.role n == 3) = false := beq_eq_false_iff_ne.2 h
  have eq : Hid (q = false) := Lib.hid (by rw [← hq.out]; unfold RS.rules; exact decide_eq_false h)
  clear h
  go_wp2_with fail
  go_ret
  exact ⟨by rw [hq.out, eq.out]; rfl, rfl⟩
end Go.Proofs.YtkolilbebkkpdaaDoor

namespace Go.Proofs.YtkolilbebkkpdaaDoor
open Go.RowKit Go.Maps

section
variable {α : Type} [DecidableEq α] {K : KeyT α}
/-- A range over the map in block b; its iterator lies in block r; pre: the keys that have come. -/
def Rng (K : KeyT α) (w : World) (b r : Nat) (ks : List (α × Value)) (pre : List α) : Prop :=
 ∃ n D left cnt, w.ranges Tryd.prog K.kt hR b r n D left cnt ∧ Reads K D ks ∧ Come K ks left pre
theorem Rng.keep {w w' : World} {b r : Nat} {ks : List (α × Value)} {pre : List α} (h : Rng K w b r ks pre) (hb : w'.heap[b]? = w.heap[b]?) (hr : w'.heap[r]? = w.heap[r]?) : Rng K w' b r ks pre ∧ w'.rangeLeft b r = w.rangeLeft b r := by
 obtain ⟨n, D, left, cnt, ⟨es, clock, since, seen, c0, h1, h2, h3, h4, h5, h6⟩, h7⟩ := h
 refine ⟨⟨n, D, left, cnt, ⟨es, clock, since, seen, c0, hb.trans h1, h2, h3, h4, hr.trans h5, h6⟩, h7⟩, ?_⟩
 unfold World.rangeLeft
 rw [hb, hr]
theorem Rng.lt {w : World} {b r : Nat} {ks : List (α × Value)} {pre : List α} (h : Rng K w b r ks pre) : b < w.heap.size ∧ r < w.heap.size := by
 obtain ⟨n, D, left, cnt, h1, _⟩ := h
 exact ⟨h1.owns.lt, h1.lt⟩
theorem Rng.below {w w' : World} {b r : Nat} {ks : List (α × Value)} {pre : List α} (h : Rng K w b r ks pre) (hb : Below w.heap.size w w') : Rng K w' b r ks pre ∧ w'.rangeLeft b r = w.rangeLeft b r :=
 h.keep (hb.block _ h.lt.1) (hb.block _ h.lt.2)
theorem Rng.map {w : World} {b r : Nat} {ks : List (α × Value)} {pre : List α} (h : Rng K w b r ks pre) : MapV K w b ks := by
 obtain ⟨n, D, left, cnt, h1, h2, _⟩ := h
 exact MapV.of h1.owns h2
theorem Rng.perm_of {w : World} {b r : Nat} {ks : List (α × Value)} {pre : List α} (h : Rng K w b r ks pre) : pre.Nodup ∧ ∀ a ∈ pre, a ∈ ks.map Prod.fst := by
 obtain ⟨n, D, left, cnt, h1, h2, h3⟩ := h
 exact ⟨h3.nd, h3.mem⟩
variable (w : World) {ops : Array Oper} {rest : List Oper} {o : Oper} {a : Act} {Q : Exit → Act → World → Prop}
set_option maxRecDepth 100000 in
/-- range m. -/
theorem wp_rng (hg : o.guard = none) (m : Operand) (t : TypeId) (hop : o.op = Op.range t m) (e : TypeId) (ht : Tryd.prog.underlying t = some (.map K.kt e)) (b : Nat) (ks : List (α × Value)) (hm : a.eval m = .map (some b)) (hown : MapV K w b ks)
  (hK : ∀ w', Rng K w' b w.heap.size ks [] → Below w.heap.size w w' → wpList Tryd.prog ops Q rest (a.put o.dst (.pointer (some ⟨w.heap.size, 0, none⟩))) w') : wpList Tryd.prog ops Q (o :: rest) a w := by
 obtain ⟨n, D, h1, h2, _⟩ := hown
 refine wpList_range_own w hg m t hop K.kt e K.keyed ht hR b n D hm h1 ?_
 intro w' hrg hgr hs
 exact hK w' ⟨n, D, _, _, hrg, h2, Come.start h2⟩ ⟨hgr.os, hgr.tape, hgr.output, hgr.size, fun i hi => hgr.block i hi (by simp)⟩
set_option maxRecDepth 100000 in
/-- The next entry. -/
theorem wp_nxt (hg : o.guard = none) (it : Operand) (hop : o.op = Op.next it false) (b r : Nat) (ks : List (α × Value)) (pre : List α) (hit : a.eval it = .pointer (some ⟨r, 0, none⟩)) (h : Rng K w b r ks pre)
  (hDone : pre.Perm (ks.map Prod.fst) → wpList Tryd.prog ops Q rest (a.put o.dst (.tuple #[.bool false])) w)
  (hMore : ∀ (x : α) (v : Value) (w' : World), (x, v) ∈ ks → x ∉ pre → K.ok x → Rng K w' b r ks (pre ++ [x]) → w'.rangeLeft b r < w.rangeLeft b r → w.grownBy w' (some r) →
   (Instr.entry (.pointer (some ⟨r, 0, none⟩))).run Tryd.prog w' = .ok (.tuple #[K.val x, v]) w' → wpList Tryd.prog ops Q rest (a.put o.dst (.tuple #[.bool true, K.val x, v])) w') :
  wpList Tryd.prog ops Q (o :: rest) a w := by
 obtain ⟨n, D, left, cnt, hrg, h2, h3⟩ := h
 refine wpList_next_ranges (α := α) (β := Value) w hg it hop K.kt K.keyed hR K.val id (fun key kl hk => by obtain ⟨x, hx, _⟩ := K.all hk; exact ⟨x, hx⟩) (fun v y _ => ⟨v, rfl⟩) b r n D left cnt hit hrg (fun _ hl => hDone (h3.perm hl h2.ok h2.nd)) ?_
 intro x v kl y w' cnt' hkl hleft hv hat hrg' hlt hgr hsz hen
 obtain ⟨x', hx', hok⟩ := K.all hkl
 obtain rfl := K.inj hx'
 have hle : kl = K.lit x := by
  have := K.of hok
  rw [hkl] at this
  injection this
 subst hle
 have hl := h3.left x hok
 rw [hleft] at hl
 have hl2 := hl.symm
 rw [Bool.and_eq_true, decide_eq_true_eq, decide_eq_true_eq] at hl2
 unfold hR at hv
 injection hv with hv
 have hv2 := h2.at_ x hok .nil
 rw [hat, ← hv] at hv2
 have hmem : (x, v) ∈ ks := by
  cases e : lk ks x with
  | none => rw [e] at hv2; cases hv2
  | some u =>
   rw [e] at hv2
   injection hv2 with hv2
   have : v = u := hv2
   rw [this]
   exact lk_mem e
 exact hMore x v w' hmem hl2.2 hok ⟨n, D, _, cnt', hrg', h2, h3.step hok hleft⟩ (by rw [hrg'.left_eq, hrg.left_eq]; exact hlt) hgr hen
end
theorem id_stood : Tryd.prog.stoodInHeld 34 = false := by kernel_rfl
theorem id_guard : Tryd.prog.eqGuardType Tryd.prog.depth 34 = false := by kernel_rfl
theorem eqF {P : Program} (w : World) (d : Nat) (xs ys : Array Value) (f : Field) (fs : List Field) {a b : Value} {r : Bool} (hn : f.name ≠ "_") (hx : (part f.type xs f.offset).run P w = .ok a w) (hy : (part f.type ys f.offset).run P w = .ok b w) (hr : (Op.equalIn d f.type a b).run P w = .ok r w) :
  (Op.eqFields d xs ys (f :: fs)).run P w = if r then (Op.eqFields d xs ys fs).run P w else .ok false w := by
 unfold Op.eqFields
 rw [if_pos hn]
 simp only [Sem.run_bind, hx, hy, hr, Result.andThen_ok]
 cases r
 ·simp only [Bool.not_false, if_true, Sem.run_pure]; rfl
 ·simp only [Bool.not_true, Bool.false_eq_true, if_false, if_true]
  cases fs <;> rfl
set_option maxRecDepth 100000 in
theorem id_eql (i j : Idn) (w : World) : (binOp .eql 34 (.agg #[.int .i64 i.b, .int .i64 i.s, .int .u64 i.u]) (.agg #[.int .i64 j.b, .int .i64 j.s, .int .u64 j.u])).run Tryd.prog w = .ok (.bool (decide (i = j))) w := by
 have hu : Tryd.prog.underlying 34 = some (.struct (Tryd.prog.fieldsOf 34)) := by kernel_rfl
 rw [run_eql_struct, run_equalIn_agg w 9999 _ _ _ hu id_stood]
 have p1 : ∀ x y z : Value, (part 3 #[x, y, z] 0).run Tryd.prog w = .ok x w := fun _ _ _ => by kernel_rfl
 have p2 : ∀ x y z : Value, (part 3 #[x, y, z] 1).run Tryd.prog w = .ok y w := fun _ _ _ => by kernel_rfl
 have p3 : ∀ x y z : Value, (part 32 #[x, y, z] 2).run Tryd.prog w = .ok z w := fun _ _ _ => by kernel_rfl
 obtain ⟨f1, f2, f3, hf, n1, n2, n3, t1, t2, t3, o1, o2, o3⟩ : ∃ f1 f2 f3 : Field, (Tryd.prog.fieldsOf 34).toList = [f1, f2, f3] ∧ f1.name ≠ "_" ∧ f2.name ≠ "_" ∧ f3.name ≠ "_" ∧ f1.type = 3 ∧ f2.type = 3 ∧ f3.type = 32 ∧ f1.offset = 0 ∧ f2.offset = 1 ∧ f3.offset = 2 := by
  simp only [Program.fieldsOf, Tryd.underlying34]
  exact ⟨_, _, _, rfl, by decide, by decide, by decide, rfl, rfl, rfl, rfl, rfl, rfl⟩
 rw [hf, eqF w 9999 _ _ f1 _ n1 (by rw [t1, o1]; exact p1 _ _ _) (by rw [t1, o1]; exact p1 _ _ _) (by rw [t1]; exact run_equalIn_int w 9998 3 .i64 .i64 _ _ Tryd.underlying3),
  eqF w 9999 _ _ f2 _ n2 (by rw [t2, o2]; exact p2 _ _ _) (by rw [t2, o2]; exact p2 _ _ _) (by rw [t2]; exact run_equalIn_int w 9998 3 .i64 .i64 _ _ Tryd.underlying3),
  eqF w 9999 _ _ f3 _ n3 (by rw [t3, o3]; exact p3 _ _ _) (by rw [t3, o3]; exact p3 _ _ _) (by rw [t3]; exact run_equalIn_int w 9998 32 .u64 .u64 _ _ Tryd.underlying32)]
 have hnil : (Op.eqFields 9999 #[.int .i64 i.b, .int .i64 i.s, .int .u64 i.u] #[.int .i64 j.b, .int .i64 j.s, .int .u64 j.u] []).run Tryd.prog w = .ok true w := rfl
 rw [hnil]
 obtain ⟨a, b, c⟩ := i
 obtain ⟨a', b', c'⟩ := j
 by_cases h1 : a = a'
 ·by_cases h2 : b = b'
  ·by_cases h3 : c = c'
   ·subst h1; subst h2; subst h3
    simp [Result.andThen]
   ·simp [h1, h2, h3, Result.andThen]
  ·simp [h1, h2, Result.andThen]
 ·simp [h1, Result.andThen]
end Go.Proofs.YtkolilbebkkpdaaDoor

namespace Go.Proofs.YtkolilbebkkpdaaDoor
open Go.RowKit Go.Maps

theorem ret_int {k : IntKind} {a b : Int} (h : a = b) : Ending.returned (.int k a) = .returned (.int k b) := by rw [h]
theorem belowN {B : Nat} {w v : World} (h : Below B w v) (n : Nat) : Below B w (v.drewN n) := ⟨h.os, h.tape, h.output, h.size, h.block⟩
theorem mem_memV {l : List MRec} {n : Int} {v : Value} (h : (n, v) ∈ memV l) : ∃ x ∈ l, x.n = n ∧ v = .pointer (some ⟨x.a, 0, none⟩) := by
 unfold memV at h
 obtain ⟨x, hx, e⟩ := List.mem_map.1 h
 injection e with e1 e2
 exact ⟨x, hx, e1, e2.symm⟩
theorem keys_memV (l : List MRec) : (memV l).map Prod.fst = l.map MRec.n := by unfold memV; rw [List.map_map]; rfl
theorem RollAt.memS {w : World} {y : Lay} {s : RS} (h : RollAt w y s) {x : MRec} (hx : x ∈ y.l) : (x.n, x.m) ∈ s.ms := by
 rw [← h.eq]; exact List.mem_map.2 ⟨x, hx, rfl⟩
theorem RollAt.ofS {w : World} {y : Lay} {s : RS} (h : RollAt w y s) {p : Int × Mb} (hp : p ∈ s.ms) : ∃ x ∈ y.l, p = (x.n, x.m) := by
 rw [← h.eq] at hp
 obtain ⟨x, hx, e⟩ := List.mem_map.1 hp
 exact ⟨x, hx, e.symm⟩
theorem GdAt.cell {w : World} {g v e c : Nat} {d : Gd} (h : GdAt w g v e c d) (i : Nat) : w.cell? ⟨g, i, none⟩ = (gdCells v e c d)[i]? := by
 simp [World.cell?, h.blk]
theorem GdAt.free {w : World} {g v e c : Nat} {d : Gd} (h : GdAt w g v e c d) (i : Nat) : w.frozen? ⟨g, i, none⟩ = false := by simp [World.frozen?, h.blk]
theorem GdAt.c0 {w : World} {g v e c : Nat} {d : Gd} (h : GdAt w g v e c d) : w.cell? ⟨g, 0, none⟩ = some (.int .i64 d.id.b) := by rw [h.cell]; rfl
theorem GdAt.c1 {w : World} {g v e c : Nat} {d : Gd} (h : GdAt w g v e c d) : w.cell? ⟨g, 1, none⟩ = some (.int .i64 d.id.s) := by rw [h.cell]; rfl
theorem GdAt.c2 {w : World} {g v e c : Nat} {d : Gd} (h : GdAt w g v e c d) : w.cell? ⟨g, 2, none⟩ = some (.int .u64 d.id.u) := by rw [h.cell]; rfl
theorem GdAt.c3 {w : World} {g v e c : Nat} {d : Gd} (h : GdAt w g v e c d) : w.cell? ⟨g, 3, none⟩ = some (.slice (some ⟨e, 0, none⟩) d.gs.length c) := by rw [h.cell]; rfl
theorem GdAt.c4 {w : World} {g v e c : Nat} {d : Gd} (h : GdAt w g v e c d) : w.cell? ⟨g, 4, none⟩ = some (.int .i64 d.n) := by rw [h.cell]; rfl
theorem GdAt.c5 {w : World} {g v e c : Nat} {d : Gd} (h : GdAt w g v e c d) : w.cell? ⟨g, 5, none⟩ = some (.int .i64 d.t) := by rw [h.cell]; rfl
theorem GdAt.c6 {w : World} {g v e c : Nat} {d : Gd} (h : GdAt w g v e c d) : w.cell? ⟨g, 6, none⟩ = some (.map (some v)) := by rw [h.cell]; rfl
theorem GdAt.c7 {w : World} {g v e c : Nat} {d : Gd} (h : GdAt w g v e c d) : w.cell? ⟨g, 7, none⟩ = some (.bool d.ob) := by rw [h.cell]; rfl
theorem GdAt.c8 {w : World} {g v e c : Nat} {d : Gd} (h : GdAt w g v e c d) : w.cell? ⟨g, 8, none⟩ = some (.int .i64 d.la) := by rw [h.cell]; rfl
theorem cells3 (w : World) (t : TypeId) (u v z : Value) : (w.alloc (.cells #[u, v, z] t)).cell? ⟨w.heap.size, 0, none⟩ = some u ∧ (w.alloc (.cells #[u, v, z] t)).cell? ⟨w.heap.size, 1, none⟩ = some v ∧ (w.alloc (.cells #[u, v, z] t)).cell? ⟨w.heap.size, 2, none⟩ = some z := by
 have hA := Arr.new w t [u, v, z]
 exact ⟨hA.cell (i := 0) (by simp), hA.cell (i := 1) (by simp), hA.cell (i := 2) (by simp)⟩
def NoneOf (y : Lay) (i : Idn) (pre : List Int) : Prop := ∀ n ∈ pre, ∀ x ∈ y.l, x.n = n → isId i x.m.g = false
theorem RollAt.msnd {w : World} {y : Lay} {s : RS} (h : RollAt w y s) : (s.ms.map Prod.fst).Nodup := by
 rw [← h.eq, List.map_map]
 have := h.ms.nd
 rw [keys_memV] at this
 exact this
theorem RollAt.one {w : World} {y : Lay} {s : RS} (h : RollAt w y s) {x z : MRec} (hx : x ∈ y.l) (hz : z ∈ y.l) (e : x.n = z.n) : x.m = z.m := by
 have h1 := lk_of_mem h.msnd (h.memS hx)
 have h2 := lk_of_mem h.msnd (h.memS hz)
 rw [e, h2] at h1
 injection h1 with h1
 exact h1.symm
theorem NoneOf.snoc {w : World} {y : Lay} {s : RS} {i : Idn} {pre : List Int} (h : NoneOf y i pre) (hR : RollAt w y s) {x : MRec} {n : Int} (hx : x ∈ y.l) (hxn : x.n = n) (hid : isId i x.m.g = false) : NoneOf y i (pre ++ [n]) := fun m hm z hz hzn => by
 rcases List.mem_append.1 hm with hm | hm
 ·exact h m hm z hz hzn
 ·rw [List.mem_singleton] at hm
  rw [hR.one hz hx (by rw [hzn, hm, hxn])]
  exact hid
set_option maxRecDepth 100000 in
set_option maxHeartbeats 4000000 in
theorem whose_any (w : World) (y : Lay) (s : RS) (i : Idn) (hR : RollAt w y s) (hu : s.idsU) :
  Calls Tryd.prog 43 #[.pointer (some ⟨y.r, 0, none⟩), .agg #[.int .i64 i.b, .int .i64 i.s, .int .u64 i.u]] w fun e w' => e = .returned (.int .i64 (s.whose i)) ∧ Below w.heap.size w w' := by
 have hb0 := Below.lit w (.cells #[.int .i64 i.b, .int .i64 i.s, .int .u64 i.u] 34)
 obtain ⟨k0, k1, k2⟩ := cells3 w 34 (.int .i64 i.b) (.int .i64 i.s) (.int .u64 i.u)
 have hR0 := hR.below hb0
 have h3 := hR0.c3
 have hst := id_stood
 have hgd := id_guard
 go_enter Tryd.func43, Tryd.ntmps43
 go_wp2_with (first
  | (at_range; refine wp_rng (K := KI) _ rfl _ 79 rfl 82 Tryd.underlying79 y.m (memV y.l) rfl hR0.ms ?_; intro w1 hrg1 hb1)
  | go_in)
 go_frame
 obtain ⟨w0, hw0⟩ : ∃ w0, Hid (w.alloc (.cells #[.int .i64 i.b, .int .i64 i.s, .int .u64 i.u] 34) = w0) := ⟨_, Lib.hid rfl⟩
 rw [hw0.out] at hb0 k0 k1 k2 hR0 hrg1 hb1 h3
 rw [hw0.out]
 have hz : w.heap.size < w0.heap.size := cell_lt k0
 clear h3
 go_loopw [5] (fun _ wr => ∃ pre, Rng KI wr y.m w0.heap.size (memV y.l) pre ∧ NoneOf y i pre ∧ Below w0.heap.size w0 wr)
  (fun _ wr => wr.rangeLeft y.m w0.heap.size)
 case atStart => exact ⟨[], hrg1, fun _ h => (by cases h), hb1⟩
 case round =>
  clear hrg1 hb1
  obtain ⟨pre, hrg, hpre, hb⟩ := hrel
  go_wp2_with (first
   | (at_next; refine wp_nxt (K := KI) _ rfl _ rfl y.m w0.heap.size (memV y.l) pre rfl hrg ?_ ?_)
   | go_in)
  ·intro hperm
   have hn : Hid (s.whose i = 0) := Lib.hid (RS.whose_none fun p hp => by
    obtain ⟨x, hx, rfl⟩ := hR.ofS hp
    exact hpre _ (hperm.mem_iff.2 (by rw [keys_memV]; exact List.mem_map.2 ⟨x, hx, rfl⟩)) x hx rfl)
   go_wp2_with fail
   go_ret
   exact ⟨ret_int hn.out.symm, hb0.trans (hb.mono hb0.size)⟩
  ·intro n v w2 hmem hnp hok hrg2 hlt hgr hen
   obtain ⟨x, hx, hxn, rfl⟩ := mem_memV hmem
   have hb2 : Below w0.heap.size w0 w2 := hb.grown hgr hb.size fun k e => by injection e with e; omega
   have hM := (hR0.below hb2).mb x hx
   have q1 := hM.c1
   have j0 := (hb2.cell (p := ⟨w.heap.size, 0, none⟩) hz).trans k0
   have j1 := (hb2.cell (p := ⟨w.heap.size, 1, none⟩) hz).trans k1
   have j2 := (hb2.cell (p := ⟨w.heap.size, 2, none⟩) hz).trans k2
   cases hg : x.m.g with
   | none =>
    have hid : isId i x.m.g = false := by rw [hg]; rfl
    rw [hg] at q1
    replace q1 : w2.cell? ⟨x.a, 1, none⟩ = some (.pointer none) := q1
    replace hg := Lib.hid hg
    go_wp2_with fail
    go_quiet (fail)
    go_wp2_with fail
    go_roundw
    case rel => exact ⟨pre ++ [n], (hrg2.keep rfl rfl).1, hpre.snoc hR hx hxn hid, belowN hb2 _⟩
    case measure => rw [(hrg2.keep (w' := w2.drewN _) rfl rfl).2]; exact hlt
   | some d =>
    rw [hg] at q1
    replace q1 : w2.cell? ⟨x.a, 1, none⟩ = some (.pointer (some ⟨x.g, 0, none⟩)) := q1
    have hD := hM.gd d hg
    have g0 := hD.c0
    have g1 := hD.c1
    have g2 := hD.c2
    have hie := id_eql d.id i
    replace hg := Lib.hid hg
    by_cases hdi : d.id = i
    ·have hid : isId i x.m.g = true := by rw [hg.out]; exact decide_eq_true hdi
     have hw := Lib.hid (RS.whose_of hu (hR.memS hx) hid)
     have hwn : Hid (s.whose i = n) := Lib.hid (hw.out.trans hxn)
     rw [decide_eq_true hdi] at hie
     go_wp2_with fail
     go_quiet (fail)
     go_wp2_with fail
     go_ret
     exact ⟨ret_int hwn.out.symm, hb0.trans ((belowN hb2 _).mono hb0.size)⟩
    ·have hid : isId i x.m.g = false := by rw [hg.out]; exact decide_eq_false hdi
     rw [decide_eq_false hdi] at hie
     clear hdi
     go_wp2_with fail
     go_quiet (fail)
     go_wp2_with fail
     go_roundw
     case rel => exact ⟨pre ++ [n], (hrg2.keep rfl rfl).1, hpre.snoc hR hx hxn hid, belowN hb2 _⟩
     case measure => rw [(hrg2.keep (w' := w2.drewN _) rfl rfl).2]; exact hlt
end Go.Proofs.YtkolilbebkkpdaaDoor

namespace Go.Proofs.YtkolilbebkkpdaaDoor
open Go.RowKit Go.Maps

/-! Sets as maps. -/
theorem keys_setV (l : List Int) : (setV l).map Prod.fst = l := by
 unfold setV
 rw [List.map_map]
 exact List.map_id' l
theorem lk_setV (l : List Int) (a : Int) : lk (setV l) a = if a ∈ l then some (.bool true) else none := by
 unfold setV
 induction l with
 | nil => rfl
 | cons x l ih =>
  rw [List.map_cons, lk_cons, ih]
  by_cases h : x = a
  ·subst h; simp
  ·have : a ≠ x := fun e => h e.symm
   simp [h, this]
theorem dropL_setV (l : List Int) (d : Int) : dropL (setV l) d = setV (l.filter fun e => decide (e ≠ d)) := by
 unfold dropL setV
 rw [List.filter_map]
 rfl
theorem setV_congr {w : World} {b : Nat} {l l' : List Int} (h : MapV KI w b (setV l)) (hn : l'.Nodup) (hm : ∀ a, a ∈ l' ↔ a ∈ l) : MapV KI w b (setV l') :=
 h.congr (by rw [keys_setV]; exact hn) fun a => by
  rw [lk_setV, lk_setV]
  by_cases e : a ∈ l
  ·rw [if_pos e, if_pos ((hm a).2 e)]
  ·rw [if_neg e, if_neg (fun h2 => e ((hm a).1 h2))]
theorem setV_put {w : World} {b : Nat} {l : List Int} {d : Int} (h : MapV KI w b (putL (setV l) d (.bool true))) (hd : d ∉ l) : MapV KI w b (setV (l ++ [d])) := by
 have e : putL (setV l) d (.bool true) = setV (l ++ [d]) := by
  unfold putL
  rw [lk_setV, if_neg hd]
  unfold setV
  simp
 rwa [e] at h
theorem dropL_memV (l : List MRec) (n : Int) : dropL (memV l) n = memV (l.filter fun x => decide (x.n ≠ n)) := by
 unfold dropL memV
 rw [List.filter_map]
 rfl
/-! Blocks apart. -/
structure Lay.Ne (y : Lay) : Prop where
 r : y.r ≠ y.c ∧ y.r ≠ y.i ∧ y.r ≠ y.w ∧ y.r ≠ y.m ∧ ∀ x ∈ y.l, y.r ∉ x.foot
 c : y.c ≠ y.i ∧ y.c ≠ y.w ∧ y.c ≠ y.m ∧ ∀ x ∈ y.l, y.c ∉ x.foot
 i : y.i ≠ y.w ∧ y.i ≠ y.m ∧ ∀ x ∈ y.l, y.i ∉ x.foot
 w : y.w ≠ y.m ∧ ∀ x ∈ y.l, y.w ∉ x.foot
 m : ∀ x ∈ y.l, y.m ∉ x.foot
 l : (y.l.flatMap MRec.foot).Nodup
theorem Lay.ne {y : Lay} (h : y.foot.Nodup) : y.Ne := by
 unfold Lay.foot at h
 simp only [List.nodup_cons, List.mem_cons, List.mem_flatMap, not_or, not_exists, not_and] at h
 obtain ⟨⟨a1, a2, a3, a4, a5⟩, ⟨b1, b2, b3, b4⟩, ⟨c1, c2, c3⟩, ⟨d1, d2⟩, e1, f⟩ := h
 exact ⟨⟨a1, a2, a3, a4, a5⟩, ⟨b1, b2, b3, b4⟩, ⟨c1, c2, c3⟩, ⟨d1, d2⟩, e1, f⟩
/-- But for block b all blocks lie as they did. -/
structure But (w w' : World) (b : Nat) : Prop where
 os : w'.os = w.os
 tape : w'.tape = w.tape
 out : w'.output = w.output
 size : w.heap.size ≤ w'.heap.size
 blk : ∀ i, i < w.heap.size → i ≠ b → w'.heap[i]? = w.heap[i]?
theorem But.of_turned {w w' : World} {b : Nat} (h : w.mapTurned w' b) : But w w' b := by
 obtain ⟨h1, h2, h3, h4, h5⟩ := mapTurned_block h
 exact ⟨h2, h3, h4, by omega, fun i _ hi => h5 i hi⟩
theorem But.of_grown {w w' : World} {b : Nat} (h : w.grownBy w' (some b)) : But w w' b := ⟨h.os, h.tape, h.output, h.size, fun i hi hb => h.block i hi fun e => by injection e with e; exact hb e⟩
theorem But.turn {w w' : World} {b : Nat} {F F' : List Nat} (h : But w w' b) (hb : b ∈ F) (hF : ∀ i ∈ F', i ∈ F) : Turn w w' F F' :=
 ⟨h.os, h.tape, h.out, h.size, fun i hi hf => h.blk i hi fun e => hf (e ▸ hb), fun i hi => .inl (hF i hi)⟩
theorem MbAt.but {w w' : World} {x : MRec} {b : Nat} (h : MbAt w x) (hw : But w w' b) (hb : b ∉ x.foot) : MbAt w' x :=
 h.keep hw.size fun i hi => hw.blk i (h.lt i hi) fun e => hb (e ▸ hi)
/-- The set of those that are in has turned. -/
theorem RollAt.turn_i {w w' : World} {y : Lay} {s : RS} (h : RollAt w y s) (hw : But w w' y.i) {ins' gone' : List Int} (hi : MapV KI w' y.i (setV ins')) (hn : (ins' ++ gone').Nodup) (hm : ∀ a, a ∈ ins' ++ gone' ↔ a ∈ s.ins ++ s.gone) :
  RollAt w' y ⟨ins', gone', s.ms, s.bk⟩ := by
 have k := Lay.ne h.nd
 refine ⟨(hw.blk _ (blk_lt h.blk) k.r.2.1).trans h.blk, h.cards.keep (hw.blk _ h.cards.lt k.c.1), hi, setV_congr (h.was.keep (hw.blk _ h.was.lt k.i.1.symm)) hn hm, h.ms.keep (hw.blk _ h.ms.lt k.i.2.1.symm), fun x hx => (h.mb x hx).but hw (k.i.2.2 x hx), h.eq, h.nd⟩
/-- The members' map has turned: some are there no more. -/
theorem foot_sub {l l' : List MRec} (h : l'.Sublist l) : (l'.flatMap MRec.foot).Sublist (l.flatMap MRec.foot) := by
 induction h with
 | slnil => exact List.Sublist.refl _
 | cons x _ ih => rw [List.flatMap_cons]; exact ih.trans (List.sublist_append_right _ _)
 | cons_cons x _ ih => rw [List.flatMap_cons, List.flatMap_cons]; exact (List.Sublist.refl _).append ih
theorem Lay.sub {y : Lay} {l' : List MRec} (h : l'.Sublist y.l) : (Lay.foot ⟨y.r, y.c, y.i, y.w, y.m, l'⟩).Sublist y.foot := by
 unfold Lay.foot
 exact ((((foot_sub h).cons_cons _).cons_cons _).cons_cons _).cons_cons _ |>.cons_cons _
theorem RollAt.turn_m {w w' : World} {y : Lay} {s : RS} (h : RollAt w y s) (hw : But w w' y.m) {l' : List MRec} (hl : l'.Sublist y.l) (hm : MapV KI w' y.m (memV l')) : RollAt w' ⟨y.r, y.c, y.i, y.w, y.m, l'⟩ ⟨s.ins, s.gone, l'.map (fun x => (x.n, x.m)), s.bk⟩ := by
 have k := Lay.ne h.nd
 refine ⟨(hw.blk _ (blk_lt h.blk) k.r.2.2.2.1).trans h.blk, h.cards.keep (hw.blk _ h.cards.lt k.c.2.2.1), h.ins.keep (hw.blk _ h.ins.lt k.i.2.1), h.was.keep (hw.blk _ h.was.lt k.w.1), hm, fun x hx => (h.mb x (hl.subset hx)).but hw (k.m x (hl.subset hx)), rfl, h.nd.sublist (Lay.sub hl)⟩
section
variable {α : Type} [DecidableEq α] {K : KeyT α} (w : World) {ops : Array Oper} {rest : List Oper} {o : Oper} {a : Act} {Q : Exit → Act → World → Prop}
set_option maxRecDepth 100000 in
/-- delete(m, k). -/
theorem wp_del (hg : o.guard = none) (m x : Operand) (t kt : TypeId) (hop : o.op = Op.call { callee := Callee.builtin Builtin.delete, args := #[m, x], argTypes := #[t, kt] }) (hkt : kt = K.kt) (e : TypeId) (ht : Tryd.prog.underlying t = some (.map K.kt e)) (b : Nat) (ks : List (α × Value))
  (hm : a.eval m = .map (some b)) (h : MapV K w b ks) (k : α) (hx : a.eval x = K.val k) (hk : K.ok k) (hK : ∀ w', MapV K w' b (dropL ks k) → But w w' b → w'.heap.size = w.heap.size → wpList Tryd.prog ops Q rest (a.put o.dst (.tuple #[])) w') : wpList Tryd.prog ops Q (o :: rest) a w := by
 refine wpList_plain hg fun K' hK' => ?_
 obtain ⟨w', hrun, r1, r2⟩ := h.del ht hk o.type
 unfold Oper.wp
 subst hkt
 simp [execOp, hop, resolve, invoke, builtin, hm, hx, hrun, Result.andThen]
 exact hK' _ _ (hK w' r1 (But.of_turned r2) (mapTurned_block r2).1)
set_option maxRecDepth 100000 in
/-- m[k] = v. -/
theorem wp_upd (hg : o.guard = none) (m x v : Operand) (t : TypeId) (hop : o.op = Op.mapUpdate t m x v) (e : TypeId) (ht : Tryd.prog.underlying t = some (.map K.kt e)) (b : Nat) (ks : List (α × Value)) (hl : ks.length ≤ 1000000)
  (hm : a.eval m = .map (some b)) (h : MapV K w b ks) (k : α) (val : Value) (hx : a.eval x = K.val k) (hv : a.eval v = val) (hk : K.ok k) (hK : ∀ w', MapV K w' b (putL ks k val) → But w w' b → w'.heap.size = w.heap.size → wpList Tryd.prog ops Q rest (a.put o.dst undef) w') : wpList Tryd.prog ops Q (o :: rest) a w := by
 refine wpList_plain hg fun K' hK' => ?_
 obtain ⟨w', hrun, r1, r2⟩ := h.put ht hl hk val
 unfold Oper.wp
 simp [execOp, hop, hm, hx, hv, hrun, Result.andThen]
 exact hK' _ _ (hK w' r1 (But.of_turned r2) (mapTurned_block r2).1)
end
theorem RollAt.u {w : World} {y : Lay} {s : RS} (h : RollAt w y s) : (s.ins ++ s.gone).Nodup := by
 have := h.was.nd
 rwa [keys_setV] at this
/-- Nobody of a member's devices is among some. -/
def NoneIs (m : Int) (pre : List Int) : Prop := ∀ e ∈ pre, ofD e ≠ m
theorem NoneIs.snoc {m : Int} {pre : List Int} {d : Int} (h : NoneIs m pre) (hd : ofD d ≠ m) : NoneIs m (pre ++ [d]) := fun e he => by
 rcases List.mem_append.1 he with he | he
 ·exact h e he
 ·rw [List.mem_singleton] at he; rw [he]; exact hd
theorem swap_mem {a b : List Int} {d : Int} (hd : d ∈ a) (e : Int) : e ∈ (a.filter fun e => decide (e ≠ d)) ++ (b ++ [d]) ↔ e ∈ a ++ b := by
 simp only [List.mem_append, List.mem_filter, decide_eq_true_eq, List.mem_singleton]
 constructor
 ·rintro (⟨h, _⟩ | h | h)
  ·exact .inl h
  ·exact .inr h
  ·exact .inl (h ▸ hd)
 ·rintro (h | h)
  ·by_cases e2 : e = d
   ·exact .inr (.inr e2)
   ·exact .inl ⟨h, e2⟩
  ·exact .inr (.inl h)
theorem swap_nodup {a b : List Int} {d : Int} (h : (a ++ b).Nodup) (hd : d ∈ a) : ((a.filter fun e => decide (e ≠ d)) ++ (b ++ [d])).Nodup := by
 obtain ⟨h1, h2, h3⟩ := List.nodup_append.1 h
 refine List.nodup_append.2 ⟨h1.filter _, List.nodup_append.2 ⟨h2, by simp, fun x hx y hy e => ?_⟩, fun x hx y hy e => ?_⟩
 ·rw [List.mem_singleton] at hy
  exact h3 d hd x hx (by rw [e, hy])
 ·rw [List.mem_filter, decide_eq_true_eq] at hx
  rcases List.mem_append.1 hy with hy | hy
  ·exact h3 x hx.1 y hy e
  ·rw [List.mem_singleton] at hy
   exact hx.2 (by rw [e, hy])
def GoesTo (w : World) (y : Lay) (s : RS) (w' : World) : Prop := ∃ y', RollAt w' y' s ∧ y'.r = y.r ∧ Turn w w' y.foot y'.foot
set_option maxRecDepth 100000 in
set_option maxHeartbeats 4000000 in
theorem goes_any (w : World) (y : Lay) (s : RS) (d : Int) (hR : RollAt w y s) (hd : i64ok d) :
  Calls Tryd.prog 40 #[.pointer (some ⟨y.r, 0, none⟩), .int .i64 d] w fun e w' => e = .returned (.tuple #[]) ∧ GoesTo w y (s.goes d) w' := by
 have hl := hR.inn hd
 have h1 := hR.c1
 by_cases hin : d ∈ s.ins
 ·have ein : s.inB d = true := decide_eq_true hin
  rw [ein] at hl
  have hnd := hR.u
  have hdz := (List.nodup_append.1 hnd)
  go_enter Tryd.func40, Tryd.ntmps40
  go_wp2_with (first
   | (at_delete; refine wp_del (K := KI) _ rfl _ _ 78 3 rfl rfl 4 Tryd.underlying78 y.i (setV s.ins) rfl hR.ins d rfl hd ?_; intro w1 hM1 hB1 hz1)
   | fail)
  obtain ⟨ins', hins⟩ : ∃ ins', Hid ((s.ins.filter fun e => decide (e ≠ d)) = ins') := ⟨_, Lib.hid rfl⟩
  have hR1 : RollAt w1 y ⟨s.ins.filter fun e => decide (e ≠ d), s.gone ++ [d], s.ms, s.bk⟩ := hR.turn_i hB1 (by rw [← dropL_setV]; exact hM1) (swap_nodup hnd hin) (swap_mem hin)
  rw [hins.out] at hR1
  have hin' : ∀ e, e ∈ ins' ↔ e ∈ s.ins ∧ e ≠ d := fun e => by rw [← hins.out, List.mem_filter, decide_eq_true_eq]
  replace hin' := Lib.hid hin'
  have hT1 : Turn w w1 y.foot y.foot := hB1.turn (by unfold Lay.foot; simp) fun _ h => h
  refine (of_any w1 y _ d hR1 hd).mono ?_
  rintro e w' ⟨rfl, rfl⟩
  have h1 := hR1.c1
  obtain ⟨m, hm⟩ : ∃ m, Hid (ofD d = m) := ⟨_, Lib.hid rfl⟩
  have hmb := ofD_bd d
  rw [hm.out] at hmb ⊢
  have hmok : i64ok m := by unfold i64ok; omega
  clear hl ein hB1 hM1 hz1 hdz
  go_wp2_with (first
   | (at_range; refine wp_rng (K := KI) _ rfl _ 78 rfl 4 Tryd.underlying78 y.i _ rfl hR1.ins ?_; intro w2 hrg2 hb2)
   | fail)
  (try go_frame)
  go_loopw [5] (fun _ wr => ∃ pre, Rng KI wr y.i w1.heap.size (setV ins') pre ∧ NoneIs m pre ∧ Below w1.heap.size w1 wr)
   (fun _ wr => wr.rangeLeft y.i w1.heap.size)
  case atStart => exact ⟨[], hrg2, fun _ h => (by cases h), hb2⟩
  case round =>
   clear hrg2 hb2
   obtain ⟨pre, hrg, hpre, hb⟩ := hrel
   have hRr := hR1.below hb
   have hTr := hT1.trans (Turn.of_below (F := y.foot) hb)
   have h3 := hRr.c3
   go_wp2_with (first
    | (at_next; refine wp_nxt (K := KI) _ rfl _ rfl y.i w1.heap.size _ pre rfl hrg ?_ ?_)
    | fail)
   ·intro hperm
    have hno : Hid (¬ ∃ e ∈ s.ins, e ≠ d ∧ ofD e = ofD d) := Lib.hid (by
     rintro ⟨e, he, hne, ho⟩
     rw [keys_setV] at hperm
     exact hpre e (hperm.mem_iff.2 ((hin'.out e).2 ⟨he, hne⟩)) (by rw [ho]; exact hm.out))
    go_wp2_with (first
     | (at_delete; refine wp_del (K := KI) _ rfl _ _ 79 3 rfl rfl 82 Tryd.underlying79 y.m (memV y.l) rfl hRr.ms m rfl hmok ?_; intro w3 hM3 hB3 hz3)
     | fail)
    go_returns
    refine ⟨rfl, ⟨y.r, y.c, y.i, y.w, y.m, y.l.filter fun x => decide (x.n ≠ m)⟩, ?_, rfl, hTr.trans (hB3.turn (by unfold Lay.foot; simp) fun i hi => (Lay.sub (y := y) (List.filter_sublist (p := fun x : MRec => decide (x.n ≠ m)))).subset hi)⟩
    have hr := hRr.turn_m hB3 (l' := y.l.filter fun x => decide (x.n ≠ m)) List.filter_sublist (by rw [← dropL_memV]; exact hM3)
    have e : s.goes d = ⟨ins', s.gone ++ [d], (y.l.filter fun x => decide (x.n ≠ m)).map (fun x => (x.n, x.m)), s.bk⟩ := by
     unfold RS.goes
     rw [if_pos hin, if_neg hno.out, ← hR.eq, hm.out, hins.out]
     congr 1
     unfold dropL
     rw [List.filter_map]
     rfl
    rw [e]
    exact hr
   ·intro n v w2 hmem hnp hok hrg2 hlt hgr hen
    have hn : n ∈ ins' := by
     have := List.mem_map_of_mem (f := Prod.fst) hmem
     rwa [keys_setV] at this
    have hb2 : Below w1.heap.size w1 w2 := hb.grown hgr hb.size fun k e => by injection e with e; omega
    have hR2 := hR1.below hb2
    by_cases ho : ofD n = m
    ·have hyes : Hid (∃ e ∈ s.ins, e ≠ d ∧ ofD e = ofD d) := Lib.hid (by
      rw [hin'.out] at hn
      exact ⟨n, hn.1, hn.2, by rw [ho]; exact hm.out.symm⟩)
     have t : (ofD n == m) = true := beq_iff_eq.2 ho
     clear ho
     go_wp2_with (go_at_call 37; refine (of_any _ y _ n hR2 hok).mono ?_; rintro e w' ⟨rfl, rfl⟩)
     go_returns
     refine ⟨rfl, y, ?_, rfl, hT1.trans (Turn.of_below hb2)⟩
     have e : s.goes d = ⟨ins', s.gone ++ [d], s.ms, s.bk⟩ := by
      unfold RS.goes
      rw [if_pos hin, if_pos hyes.out, hins.out]
     rw [e]
     exact hR2
    ·have t : (ofD n == m) = false := beq_eq_false_iff_ne.2 ho
     have hpre2 := hpre.snoc ho
     clear ho
     go_wp2_with (go_at_call 37; refine (of_any _ y _ n hR2 hok).mono ?_; rintro e w' ⟨rfl, rfl⟩)
     go_roundw
     case rel => exact ⟨pre ++ [n], hrg2, hpre2, hb2⟩
     case measure => exact hlt
 ·have ein : s.inB d = false := decide_eq_false hin
  rw [ein] at hl
  have hs : s.goes d = s := by unfold RS.goes; rw [if_neg hin]
  rw [hs]
  replace ein := Lib.hid ein
  go_enter Tryd.func40, Tryd.ntmps40
  go_wp2_with fail
  go_returns
  exact ⟨rfl, y, hR, rfl, Turn.refl _ _⟩
end Go.Proofs.YtkolilbebkkpdaaDoor

namespace Go.Proofs.YtkolilbebkkpdaaDoor
open Go.RowKit Go.Maps

theorem But.trans {w v u : World} {b : Nat} (h : But w v b) (k : But v u b) : But w u b :=
 ⟨k.os.trans h.os, k.tape.trans h.tape, k.out.trans h.out, Nat.le_trans h.size k.size, fun i hi hb => (k.blk i (Nat.lt_of_lt_of_le hi h.size) hb).trans (h.blk i hi hb)⟩
/-- One more is in. -/
theorem RollAt.more {w w2 w4 : World} {y : Lay} {s : RS} (h : RollAt w y s) (h1 : But w w2 y.i) (h2 : But w2 w4 y.w) {d : Int} (hi : MapV KI w2 y.i (setV (s.ins ++ [d]))) (hw : MapV KI w4 y.w (setV (s.ins ++ [d] ++ s.gone))) :
  RollAt w4 y ⟨s.ins ++ [d], s.gone, s.ms, s.bk⟩ := by
 have k := Lay.ne h.nd
 have b : ∀ i, i < w.heap.size → i ≠ y.i → i ≠ y.w → w4.heap[i]? = w.heap[i]? := fun i hi e1 e2 => (h2.blk i (Nat.lt_of_lt_of_le hi h1.size) e2).trans (h1.blk i hi e1)
 have hz := Nat.le_trans h1.size h2.size
 refine ⟨(b _ (blk_lt h.blk) k.r.2.1 k.r.2.2.1).trans h.blk, h.cards.keep (b _ h.cards.lt k.c.1 k.c.2.1), hi.keep (h2.blk _ hi.lt k.i.1), hw, h.ms.keep (b _ h.ms.lt k.i.2.1.symm k.w.1.symm), fun x hx => (h.mb x hx).keep hz fun i hi2 => b i ((h.mb x hx).lt i hi2) (fun e => k.i.2.2 x hx (e ▸ hi2)) (fun e => k.w.2 x hx (e ▸ hi2)), h.eq, h.nd⟩
theorem memV_put {l : List MRec} {x : MRec} (h : lk (l.map fun x => (x.n, x.m)) x.n = none) : putL (memV l) x.n (.pointer (some ⟨x.a, 0, none⟩)) = memV (l ++ [x]) := by
 have e : lk (memV l) x.n = none := by
  rw [lk_none] at h ⊢
  intro p hp
  obtain ⟨z, hz, rfl⟩ := List.mem_map.1 hp
  exact h (z.n, z.m) (List.mem_map.2 ⟨z, hz, rfl⟩)
 unfold putL
 rw [e]
 unfold memV
 simp
/-- A new member. -/
theorem RollAt.newM {w w' : World} {y : Lay} {s : RS} (h : RollAt w y s) {n r : Int} (hn : s.memb n = none) {w1 : World} (hw1 : w.alloc (.cells #[.int .i64 r, .pointer none] 87) = w1) (h2 : But w1 w' y.m) (hm : MapV KI w' y.m (putL (memV y.l) n (.pointer (some ⟨w.heap.size, 0, none⟩)))) :
  ∃ y', RollAt w' y' ⟨s.ins, s.gone, s.ms ++ [(n, ⟨r, none⟩)], s.bk⟩ ∧ y'.r = y.r ∧ Turn w w' y.foot y'.foot := by
 have k := Lay.ne h.nd
 have hb1 : Below w.heap.size w w1 := by rw [← hw1]; exact Below.lit w _
 have hA : w1.heap[w.heap.size]? = some (.cells #[.int .i64 r, .pointer none] 87 (0, 0)) := by rw [← hw1]; exact (MapKept.heap_alloc w _).1
 have h1 := h.below hb1
 have hlt := h.lt
 have e : putL (memV y.l) n (.pointer (some ⟨w.heap.size, 0, none⟩)) = memV (y.l ++ [⟨n, ⟨r, none⟩, w.heap.size, 0, 0, 0, 0⟩]) := memV_put (x := ⟨n, ⟨r, none⟩, w.heap.size, 0, 0, 0, 0⟩) (by rw [h.eq]; exact hn)
 rw [e] at hm
 have hym : y.m < w.heap.size := h.ms.lt
 have hff : Lay.foot ⟨y.r, y.c, y.i, y.w, y.m, y.l ++ [⟨n, ⟨r, none⟩, w.heap.size, 0, 0, 0, 0⟩]⟩ = y.foot ++ [w.heap.size] := by
  unfold Lay.foot
  simp [MRec.foot, gfoot]
 refine ⟨⟨y.r, y.c, y.i, y.w, y.m, y.l ++ [⟨n, ⟨r, none⟩, w.heap.size, 0, 0, 0, 0⟩]⟩, ⟨?_, ?_, ?_, ?_, hm, ?_, ?_, ?_⟩, rfl, ?_⟩
 ·exact (h2.blk _ (blk_lt h1.blk) k.r.2.2.2.1).trans h1.blk
 ·exact h1.cards.keep (h2.blk _ h1.cards.lt k.c.2.2.1)
 ·exact h1.ins.keep (h2.blk _ h1.ins.lt k.i.2.1)
 ·exact h1.was.keep (h2.blk _ h1.was.lt k.w.1)
 ·intro x hx
  rcases List.mem_append.1 hx with hx | hx
  ·exact (h1.mb x hx).but h2 (k.m x hx)
  ·rw [List.mem_singleton] at hx
   subst hx
   exact ⟨(h2.blk _ (blk_lt hA) (by show w.heap.size ≠ y.m; omega)).trans hA, fun d hd => by cases hd⟩
 ·show (y.l ++ [_]).map _ = _
  rw [List.map_append, h.eq]; rfl
 ·rw [hff]
  exact List.nodup_append.2 ⟨h.nd, by simp, fun a ha b hb e => by
   rw [List.mem_singleton] at hb
   have := hlt a ha
   omega⟩
 ·rw [hff]
  refine ⟨h2.os.trans hb1.os, h2.tape.trans hb1.tape, h2.out.trans hb1.output, Nat.le_trans hb1.size h2.size, fun i hi hf => (h2.blk i (Nat.lt_of_lt_of_le hi hb1.size) fun e2 => hf (by rw [e2]; unfold Lay.foot; simp)).trans (hb1.block i hi), fun i hi => ?_⟩
  rcases List.mem_append.1 hi with hi | hi
  ·exact .inl hi
  ·rw [List.mem_singleton] at hi; exact .inr (by omega)
theorem more_perm (a b : List Int) (d : Int) : (a ++ [d] ++ b).Perm (a ++ b ++ [d]) := by
 rw [List.append_assoc, List.append_assoc]; exact List.Perm.append_left _ List.perm_append_comm
theorem nodup_snoc {a : List Int} {d : Int} (h : a.Nodup) (hd : d ∉ a) : (a ++ [d]).Nodup :=
 List.nodup_append.2 ⟨h, by simp, fun x hx y hy e => hd (by rw [List.mem_singleton] at hy; rw [← hy, ← e]; exact hx)⟩
set_option maxRecDepth 100000 in
set_option maxHeartbeats 4000000 in
theorem comes_any (w : World) (y : Lay) (s : RS) (d r : Int) (hR : RollAt w y s) (hd : i64ok d) (hf1 : (s.ins ++ s.gone).length ≤ 1000) (hf2 : s.ms.length ≤ 1000) :
  Calls Tryd.prog 39 #[.pointer (some ⟨y.r, 0, none⟩), .int .i64 d, .int .i64 r] w fun e w' => e = .returned (.tuple #[]) ∧ GoesTo w y (s.comes d r) w' := by
 have hmb := ofD_bd d
 have hmok : i64ok (ofD d) := by unfold i64ok; omega
 cases hfr : s.fresh d with
 | false =>
  have hs : s.comes d r = s := by unfold RS.comes; rw [hfr]; rfl
  rw [hs]
  go_enter Tryd.func39, Tryd.ntmps39
  go_wp2_with (go_at_call 38; refine (fresh_any _ y s d hR hd).mono ?_; rintro e w' ⟨rfl, rfl⟩; rw [hfr])
  go_returns
  exact ⟨rfl, y, hR, rfl, Turn.refl _ _⟩
 | true =>
  have hnw : d ∉ s.ins ++ s.gone := by
   unfold RS.fresh RS.wasB at hfr
   rw [Bool.and_eq_true, Bool.not_eq_true', decide_eq_false_iff_not] at hfr
   exact hfr.2
  have hni : d ∉ s.ins := fun h => hnw (List.mem_append_left _ h)
  have hRd := hR.drew
  have c1 := hR.c1
  have c2 := hR.c2
  have hlen1 : (setV s.ins).length ≤ 1000000 := by unfold setV; rw [List.length_map]; rw [List.length_append] at hf1; omega
  have hlen2 : (setV (s.ins ++ s.gone)).length ≤ 1000000 := by unfold setV; rw [List.length_map]; omega
  obtain ⟨v0, st0, w1, w2, e1, e2, hM2, ht1, ht2⟩ := hRd.ins.entry (K := KI) Tryd.underlying78 hlen1 zero_bool hd (.bool true)
  have k := Lay.ne hR.nd
  have hB2 := But.of_turned ht2
  have hw2 : MapV KI w2 y.w (setV (s.ins ++ s.gone)) := hRd.was.keep (hB2.blk _ hRd.was.lt k.i.1.symm)
  obtain ⟨v1, st1, w3, w4, e3, e4, hM4, ht3, ht4⟩ := hw2.entry (K := KI) Tryd.underlying78 hlen2 zero_bool hd (.bool true)
  have hB4 := But.of_turned ht4
  have hp := more_perm s.ins s.gone d
  have hR4 := hRd.more hB2 hB4 (setV_put hM2 hni) (setV_congr (setV_put hM4 hnw) (hp.nodup_iff.2 (nodup_snoc hR.u hnw)) (fun a => hp.mem_iff))
  have hT4 : Turn w w4 y.foot y.foot := ((Turn.of_below (F := y.foot) (Below.refl w.heap.size w).drew).trans (hB2.turn (by unfold Lay.foot; simp) fun _ h => h)).trans (hB4.turn (by unfold Lay.foot; simp) fun _ h => h)
  have hs1 : s.comes d r = ⟨s.ins ++ [d], s.gone, if (s.memb (ofD d)).isSome = true then s.ms else s.ms ++ [(ofD d, ⟨r, none⟩)], s.bk⟩ := by unfold RS.comes; rw [hfr]; rfl
  have c3 := hR4.c3
  have hlen3 : (memV y.l).length ≤ 1000000 := by
   have e := congrArg List.length hR.eq
   rw [List.length_map] at e
   unfold memV
   rw [List.length_map]; omega
  go_enter Tryd.func39, Tryd.ntmps39
  go_wp2_with (go_at_call 38; refine (fresh_any _ y s d hR hd).mono ?_; rintro e w' ⟨rfl, rfl⟩; rw [hfr])
  replace e1 : (Instr.mapEntry 78 (.map (some y.i)) (.int .i64 d)).run Tryd.prog w.drew = .ok (.tuple #[v0, .int .i64 st0]) w1 := e1
  replace e3 : (Instr.mapEntry 78 (.map (some y.w)) (.int .i64 d)).run Tryd.prog w2 = .ok (.tuple #[v1, .int .i64 st1]) w3 := e3
  go_region
  clear e1 e2 e3 e4 hM2 hM4 ht1 ht2 ht3 ht4 hw2 hRd c1 c2
  replace hB2 := Lib.hid hB2
  replace hB4 := Lib.hid hB4
  rcases hR4.mem hmok with ⟨h1, hl⟩ | ⟨x, hx, hxn, h1, hl⟩
  ·have hs2 : s.comes d r = ⟨s.ins ++ [d], s.gone, s.ms ++ [(ofD d, ⟨r, none⟩)], s.bk⟩ := by
    rw [hs1]
    have : s.memb (ofD d) = none := h1
    rw [this]; rfl
   replace h1 := Lib.hid h1
   replace hs1 := Lib.hid hs1
   replace hs2 := Lib.hid hs2
   have hR5 := hR4.below (Below.lit w4 (.cells #[.int .i64 r, .pointer none] 87))
   have c35 := hR5.c3
   go_wp2_with (first
    | (go_at_call 37; refine (of_any _ y _ d hR4 hd).mono ?_; rintro e w' ⟨rfl, rfl⟩)
    | (at_mapUpdate; refine wp_upd (K := KI) _ rfl _ _ _ 79 rfl 82 Tryd.underlying79 y.m (memV y.l) hlen3 rfl hR5.ms (ofD d) (.pointer (some ⟨w4.heap.size, 0, none⟩)) rfl rfl hmok ?_; intro w6 hM6 hB6 hz6)
    | fail)
   go_returns
   rw [hs2.out]
   obtain ⟨y', hR', hr', hT'⟩ := hR4.newM h1.out rfl hB6 hM6
   exact ⟨rfl, y', hR', hr', hT4.trans hT'⟩
  ·have hs2 : s.comes d r = ⟨s.ins ++ [d], s.gone, s.ms, s.bk⟩ := by
    rw [hs1]
    have : s.memb (ofD d) = some x.m := h1
    rw [this]; rfl
   replace h1 := Lib.hid h1
   replace hs1 := Lib.hid hs1
   replace hs2 := Lib.hid hs2
   go_wp2_with (go_at_call 37; refine (of_any _ y _ d hR4 hd).mono ?_; rintro e w' ⟨rfl, rfl⟩)
   go_returns
   rw [hs2.out]
   exact ⟨rfl, y, hR4, rfl, hT4⟩
end Go.Proofs.YtkolilbebkkpdaaDoor

namespace Go.Proofs.YtkolilbebkkpdaaDoor
open Go.RowKit

/-- The record of a loop over a function. -/
def lrec (fn : FuncId) (tmps : Array Value) (ps : Array Tmp) (assign body : Code) (D : Nat) (st : LoopState) (pe : Option Code) : Loop :=
 { state := st, pending := pe, fn, tmps, params := ps, assign, body, defers := D }

variable {F : Fence} {n : Nat} {P : Program}

/-- How a round's body may be left: off its end, by a return, by a break or continue of an outer loop. -/
def lpost (l : Nat) (r : LoopState → Option Code → Loop) (R : Ending → World → Prop) : Exit → Act → World → Prop
 | .normal, _, W => W.heap[l]? = some (.loop (r .busy none)) ∧ R (.returned (.bool true)) (W.putObj l (.loop (r .ready none)))
 | .ret, _, W => W.heap[l]? = some (.loop (r .busy none)) ∧ R (.returned (.bool false)) (W.putObj l (.loop (r .done (some .ret))))
 | .exit id, _, W => W.heap[l]? = some (.loop (r .busy none)) ∧ R (.returned (.bool false)) (W.putObj l (.loop (r .done (some (.exit id)))))
 | _, _, _ => False

/-- One round. -/
theorem yield_round {l : Nat} {fn : FuncId} {tmps : Array Value} {ps : Array Tmp} {assign body : Code} {D : Nat} {args : Array Value} {W : World} {R : Ending → World → Prop} (hF : F.fn fn)
  (hl : W.heap[l]? = some (.loop (lrec fn tmps ps assign body D .ready none))) (hs : args.size = ps.size) (a₁ : Act)
  (hassign : ∀ K : Act → World → Prop, K a₁ W → assign.wpIn (F.inRound l) n P (Exit.then K (fun _ _ _ => False)) { tmps := (ps.zip args).foldl (fun t (p, v) => t.setIfInBounds p v) tmps, defers := [] } W)
  (hbody : body.wpIn (F.inRound l) n P (lpost l (lrec fn tmps ps assign body D) R) a₁ (W.putObj l (.loop (lrec fn tmps ps assign body D .busy none)))) :
  YieldAt F n P l args W R := by
 have hy := run_yield (P := P) (args := args) hl hs
 refine ⟨fn, _, assign, body, hy, roundIn_of_wpIn hF (hassign _ ⟨_, run_beginRound hl rfl, ?_⟩)⟩
 refine wpIn_mono hbody ?_
 rintro e a3 W3 hp
 cases e with
 | normal => exact ⟨_, _, run_endRound none hp.1, hp.2⟩
 | ret => exact ⟨_, _, run_endRound (some .ret) hp.1, hp.2⟩
 | exit id => exact ⟨_, _, run_endRound (some (.exit id)) hp.1, hp.2⟩
 | goto t => exact hp.elim
 | panic ch => exact hp.elim
 | outgrown => exact hp.elim

/-- Where the iterator has returned. -/
def lend (F : Fence) (n : Nat) (P : Program) (l : Nat) (r : LoopState → Option Code → Loop) (Q : Exit → Act → World → Prop) (a : Act) (W : World) : Prop :=
 (W.heap[l]? = some (.loop (r .ready none)) ∧ Q .normal a (W.putObj l (.loop (r .exhausted none)))) ∨
 (∃ c : Code, W.heap[l]? = some (.loop (r .done (some c))) ∧ c.wpIn F n P Q a (W.putObj l (.loop (r .exhausted (some c)))))

/-- The statement. -/
theorem range_enter {g : Operand} {ps : Array Tmp} {assign body : Code} {Q : Exit → Act → World → Prop} {a : Act} {w : World}
  (hro : F.round = none) (h1 : 1 ≤ n) (gf : Nat) (lb : Array Value) (hg : a.eval g = .func (.func gf) #[] lb) (hFg : F.fn gf) (eg : ∀ args w, (callFunc gf args).run P w = .ok (.enter gf args) w)
  (hcall : ∀ fn, F.fn fn → CallsIn F (n - 1) P gf (#[.func (.yield (w.heap.size + 1)) #[] #[]] ++ lb) ((w.alloc (.deferred (some []))).alloc (.loop (lrec fn a.tmps ps assign body w.heap.size .ready none))) fun e W =>
   (∃ v, e = .returned v) ∧ lend F n P (w.heap.size + 1) (lrec fn a.tmps ps assign body w.heap.size) Q { a with defers := { target := .collected w.heap.size, args := #[] } :: a.defers } W) :
  (Code.rangeFunc g ps assign body).wpIn F n P Q a w := by
 refine wpIn_rangeFunc ?_
 intro fn hfn
 rw [hro]
 have hrun : (Instr.enterLoop fn a.tmps ps assign body none).run P w = .ok (w.heap.size + 1, [{ target := .collected w.heap.size, args := #[] }]) ((w.alloc (.deferred (some []))).alloc (.loop (lrec fn a.tmps ps assign body w.heap.size .ready none))) := run_enterLoop_outer _ _ _ _ _
 have hc := hcall fn hfn
 generalize (w.alloc (.deferred (some []))).alloc (.loop (lrec fn a.tmps ps assign body w.heap.size .ready none)) = W1 at hrun hc
 refine ⟨w.heap.size + 1, [{ target := .collected w.heap.size, args := #[] }], W1, { target := .fn (.func gf) lb, args := #[.func (.yield (w.heap.size + 1)) #[] #[]] }, W1, gf,
  #[.func (.yield (w.heap.size + 1)) #[] #[]] ++ lb, W1, hrun, ?_, ?_, ?_, fun _ => h1, ?_⟩
 ·simp only [resolve, hg]
  simp [go_sem]
 ·intro f' hf'; simp [Target.leads] at hf'; subst hf'; exact hFg
 ·simp [invoke, go_sem, eg]
 ·refine hc.mono ?_
  rintro e W ⟨⟨v, rfl⟩, (⟨hl, hq⟩ | ⟨c, hl, hq⟩)⟩
  ·exact ⟨none, _, run_endLoop hl (by intro h; cases h), hq⟩
  ·exact ⟨some c, _, run_endLoop hl (by intro h; cases h), hq⟩
end Go.Proofs.YtkolilbebkkpdaaDoor

namespace Go.Proofs
open Go.Shelf
def Tryd.lays189_ren : Go.Shelf.Ren := ⟨fun | 189 => 68 | 125 => 80 | 257 => 79 | 128 => 95 | 129 => 96 | 294 => 86 | 295 => 87 | 296 => 88 | 297 => 89 | 298 => 90 | 299 => 91 | 216 => 92 | 300 => 93 | 301 => 94 | 328 => 97 | 329 => 98 | 330 => 99 | 331 => 100 | 332 => 101 | 215 => 102 | 343 => 103 | n => n, fun | 28 => 22 | 3 => 3 | 46 => 134 | 0 => 0 | 51 => 149 | 53 => 32 | 4 => 4 | 183 => 142 | 182 => 141 | 131 => 94 | 5 => 5 | 9 => 9 | 218 => 151 | 222 => 155 | 228 => 157 | 229 => 158 | n => n, fun | n => n⟩
theorem Tryd.lays189 : Go.Proofs.Lays.n189 Tryd.prog Tryd.lays189_ren := {
 mixed := by kernel_rfl
 f125 := Tryd.func80.trans (congrArg some (by kernel_rfl))
 f128 := Tryd.func95.trans (congrArg some (by kernel_rfl))
 f129 := Tryd.func96.trans (congrArg some (by kernel_rfl))
 f189 := Tryd.func68.trans (congrArg some (by kernel_rfl))
 f215 := Tryd.func102.trans (congrArg some (by kernel_rfl))
 f216 := Tryd.func92.trans (congrArg some (by kernel_rfl))
 f257 := Tryd.func79.trans (congrArg some (by kernel_rfl))
 f294 := Tryd.func86.trans (congrArg some (by kernel_rfl))
 f295 := Tryd.func87.trans (congrArg some (by kernel_rfl))
 f296 := Tryd.func88.trans (congrArg some (by kernel_rfl))
 f297 := Tryd.func89.trans (congrArg some (by kernel_rfl))
 f298 := Tryd.func90.trans (congrArg some (by kernel_rfl))
 f299 := Tryd.func91.trans (congrArg some (by kernel_rfl))
 f300 := Tryd.func93.trans (congrArg some (by kernel_rfl))
 f301 := Tryd.func94.trans (congrArg some (by kernel_rfl))
 f328 := Tryd.func97.trans (congrArg some (by kernel_rfl))
 f329 := Tryd.func98.trans (congrArg some (by kernel_rfl))
 f330 := Tryd.func99.trans (congrArg some (by kernel_rfl))
 f331 := Tryd.func100.trans (congrArg some (by kernel_rfl))
 f332 := Tryd.func101.trans (congrArg some (by kernel_rfl))
 f343 := Tryd.func103.trans (congrArg some (by kernel_rfl))
 t0 := Tryd.underlying0
 a0 := Tryd.isAgg0
 z0 := Tryd.sizeOf0
 v0 := Tryd.zeroValue0
 t3 := Tryd.underlying3
 a3 := Tryd.isAgg3
 z3 := Tryd.sizeOf3
 v3 := Tryd.zeroValue3
 t4 := Tryd.underlying4
 a4 := Tryd.isAgg4
 z4 := Tryd.sizeOf4
 v4 := Tryd.zeroValue4
 t5 := Tryd.underlying5
 a5 := Tryd.isAgg5
 z5 := Tryd.sizeOf5
 v5 := Tryd.zeroValue5
 t9 := Tryd.underlying9
 a9 := Tryd.isAgg9
 z9 := Tryd.sizeOf9
 v9 := Tryd.zeroValue9
 t28 := Tryd.underlying22
 a28 := Tryd.isAgg22
 z28 := Tryd.sizeOf22
 v28 := Tryd.zeroValue22
 t46 := Tryd.underlying134
 a46 := Tryd.isAgg134
 z46 := Tryd.sizeOf134
 v46 := Tryd.zeroValue134
 t51 := Tryd.underlying149
 a51 := Tryd.isAgg149
 z51 := Tryd.sizeOf149
 v51 := Tryd.zeroValue149
 t53 := Tryd.underlying32
 a53 := Tryd.isAgg32
 z53 := Tryd.sizeOf32
 v53 := Tryd.zeroValue32
 t131 := Tryd.underlying94
 a131 := Tryd.isAgg94
 z131 := Tryd.sizeOf94
 v131 := Tryd.zeroValue94
 t182 := Tryd.underlying141
 a182 := Tryd.isAgg141
 z182 := Tryd.sizeOf141
 v182 := Tryd.zeroValue141
 t183 := Tryd.underlying142
 a183 := Tryd.isAgg142
 z183 := Tryd.sizeOf142
 v183 := Tryd.zeroValue142
 t218 := Tryd.underlying151
 a218 := Tryd.isAgg151
 z218 := Tryd.sizeOf151
 v218 := Tryd.zeroValue151
 t222 := Tryd.underlying155
 a222 := Tryd.isAgg155
 z222 := Tryd.sizeOf155
 v222 := Tryd.zeroValue155
 t228 := Tryd.underlying157
 a228 := Tryd.isAgg157
 z228 := Tryd.sizeOf157
 v228 := Tryd.zeroValue157
 t229 := Tryd.underlying158
 a229 := Tryd.isAgg158
 z229 := Tryd.sizeOf158
 v229 := Tryd.zeroValue158 }
open Go.Sort Go.RowKit in
theorem Tryd.slices_Sort_int (blk off cap : Nat) (zs : List Int) (w : World) (hH : Holds (Value.int .i64) w blk off zs.toArray) (hblk : blk < w.heap.size) (hsz : zs.length < 4611686018427387904) :
  Calls Tryd.prog 68 #[.slice (some ⟨blk, off, none⟩) zs.length cap] w fun e w' =>
   e = .returned (.tuple #[]) ∧ ∃ n os, w' = grow (putRow (Value.int .i64) (Sort.ahead w n) blk off (zs.mergeSort fun x y => decide (x ≤ y)).toArray) os := Any.slices_Sort_int Tryd.lays189 blk off cap zs w hH hblk hsz
open Go.RowKit Go.Sort in
/-- .. and plain. (LAID: no walk: one application.) -/
theorem Tryd.slices_Sort_int_none (p : Option Addr) (cap : Nat) (w : World) :
  Calls Tryd.prog 68 #[.slice p 0 cap] w fun e w' => e = .returned (.tuple #[]) ∧ w' = w := Any.slices_Sort_int_none Tryd.lays189 p cap w

end Go.Proofs

