/-
  Rolls in memory: where a roll lies, and how it reads.
-/
import Derived.Test.YtkolilbebkkpdaaDoorRoK
import Derived.Test.YtkolilbebkkpdaaDoorUI
import Derived.BigQuiet
import Derived.Deep.QuietTactic
import Derived.Deep.RegionHeld3
import Derived.Deep.RegionLaw
import Derived.Handy
import Derived.Laws.EntriesVeiled
import Derived.Laws.Externs
import Derived.Lib.Slices
import Derived.Lib.Small
import Derived.Lib.Walk
import Derived.Maps.AppendAt
import Derived.StillTailTactics
import Derived.Deep.DeepCutAuto
import Derived.Outline
import Derived.Deep.AppendLies
import Derived.Laws.OwnMore
namespace Go.Proofs.YtkolilbebkkpdaaDoor
open Go.RowKit Go.Maps

theorem Below.lit (w : World) (o : Obj) : Below w.heap.size w (w.alloc o) := (Below.refl _ _).alloc (Nat.le_refl _) _
/-- The cards. -/
def cardV (d m : Int) : Value := .agg #[.int .i64 d, .int .i64 m, .int .u64 5, .int .u64 6, .int .u64 7]
def cardsL : List (Int × Value) := [(1, cardV 1 1), (2, cardV 2 2), (3, cardV 3 3), (4, cardV 4 1), (5, cardV 5 2), (6, cardV 6 4), (7, cardV 7 1)]
def card0 : Value := .agg #[.int .i64 0, .int .i64 0, .int .u64 0, .int .u64 0, .int .u64 0]
theorem cards_look (d : Int) : ∃ a b c e : Int, lkv cardsL d card0 = .agg #[.int .i64 a, .int .i64 (ofD d), .int .u64 b, .int .u64 c, .int .u64 e] := by
  unfold lkv cardsL
  simp only [lk_cons, lk_nil]
  by_cases h1 : d = 1
  · subst h1; exact ⟨1, 5, 6, 7, rfl⟩
  by_cases h2 : d = 2
  · subst h2; exact ⟨2, 5, 6, 7, rfl⟩
  by_cases h3 : d = 3
  · subst h3; exact ⟨3, 5, 6, 7, rfl⟩
  by_cases h4 : d = 4
  · subst h4; exact ⟨4, 5, 6, 7, rfl⟩
  by_cases h5 : d = 5
  · subst h5; exact ⟨5, 5, 6, 7, rfl⟩
  by_cases h6 : d = 6
  · subst h6; exact ⟨6, 5, 6, 7, rfl⟩
  by_cases h7 : d = 7
  · subst h7; exact ⟨7, 5, 6, 7, rfl⟩
  have e : ofD d = 0 := by unfold ofD; omega
  rw [e, if_neg (fun h => h1 h.symm), if_neg (fun h => h2 h.symm), if_neg (fun h => h3 h.symm), if_neg (fun h => h4 h.symm), if_neg (fun h => h5 h.symm), if_neg (fun h => h6 h.symm), if_neg (fun h => h7 h.symm)]
  exact ⟨0, 0, 0, 0, rfl⟩
/-- Where a member lies: its block; its guard's; that one's map, and devices. -/
structure MRec where
  n : Int
  m : Mb
  a : Nat
  g : Nat
  v : Nat
  e : Nat
  c : Nat
def voV (vo : List ((Int × Int) × Int)) : List ((Int × Int) × Value) := vo.map fun p => (p.1, .int .i64 p.2)
def gdCells (v e c : Nat) (d : Gd) : Array Value :=
  #[.int .i64 d.id.b, .int .i64 d.id.s, .int .u64 d.id.u, .slice (some ⟨e, 0, none⟩) d.gs.length c, .int .i64 d.n, .int .i64 d.t, .map (some v), .bool d.ob, .int .i64 d.la]
structure GdAt (w : World) (g v e c : Nat) (d : Gd) : Prop where
  blk : w.heap[g]? = some (.cells (gdCells v e c d) 90 (0, 0))
  gs : UI w (some ⟨e, 0, none⟩) d.gs.length d.gs
  lt : e < w.heap.size
  cap : d.gs.length ≤ c
  vo : MapV KV w v (voV d.vo)
def gptr (o : Option Gd) (g : Nat) : Value := match o with | some _ => .pointer (some ⟨g, 0, none⟩) | none => .pointer none
structure MbAt (w : World) (x : MRec) : Prop where
  blk : w.heap[x.a]? = some (.cells #[.int .i64 x.m.r, gptr x.m.g x.g] 87 (0, 0))
  gd : ∀ d, x.m.g = some d → GdAt w x.g x.v x.e x.c d
structure Lay where
  r : Nat
  c : Nat
  i : Nat
  w : Nat
  m : Nat
  l : List MRec
def gfoot (o : Option Gd) (g v e : Nat) : List Nat := match o with | some _ => [g, v, e] | none => []
def MRec.foot (x : MRec) : List Nat := x.a :: gfoot x.m.g x.g x.v x.e
def Lay.foot (y : Lay) : List Nat := y.r :: y.c :: y.i :: y.w :: y.m :: y.l.flatMap MRec.foot
def setV (l : List Int) : List (Int × Value) := l.map fun d => (d, .bool true)
def memV (l : List MRec) : List (Int × Value) := l.map fun x => (x.n, .pointer (some ⟨x.a, 0, none⟩))
def rollCells (y : Lay) (bk : Int) : Array Value := #[.map (some y.c), .map (some y.i), .map (some y.w), .map (some y.m), .int .i64 bk]
structure RollAt (w : World) (y : Lay) (s : RS) : Prop where
  blk : w.heap[y.r]? = some (.cells (rollCells y s.bk) 81 (0, 0))
  cards : MapV KI w y.c cardsL
  ins : MapV KI w y.i (setV s.ins)
  was : MapV KI w y.w (setV (s.ins ++ s.gone))
  ms : MapV KI w y.m (memV y.l)
  mb : ∀ x ∈ y.l, MbAt w x
  eq : y.l.map (fun x => (x.n, x.m)) = s.ms
  nd : y.foot.Nodup
theorem blk_lt {w : World} {b : Nat} {o : Obj} (h : w.heap[b]? = some o) : b < w.heap.size := (Array.getElem?_eq_some_iff.1 h).1
theorem Rd.block {w w' : World} {e : Nat} {xs : List Value} (h : Rd w (some ⟨e, 0, none⟩) xs) (hb : w'.heap[e]? = w.heap[e]?) : Rd w' (some ⟨e, 0, none⟩) xs := by
  rcases h with h | ⟨b, off, he, hc⟩
  · exact .inl h
  · injection he with he
    injection he with h1 h2
    subst h1; subst h2
    refine .inr ⟨e, 0, rfl, fun i hi => ?_⟩
    rw [← hc i hi]
    unfold World.cell?
    simp only [hb]
theorem UI.block {w w' : World} {e n : Nat} {xs : List Int} (h : UI w (some ⟨e, 0, none⟩) n xs) (hb : w'.heap[e]? = w.heap[e]?) : UI w' (some ⟨e, 0, none⟩) n xs := ⟨h.len, h.rd.block hb, h.bd⟩
theorem GdAt.keep {w w' : World} {g v e c : Nat} {d : Gd} (h : GdAt w g v e c d) (hz : w.heap.size ≤ w'.heap.size) (hg : w'.heap[g]? = w.heap[g]?) (hv : w'.heap[v]? = w.heap[v]?) (he : w'.heap[e]? = w.heap[e]?) : GdAt w' g v e c d :=
  ⟨hg.trans h.blk, h.gs.block he, Nat.lt_of_lt_of_le h.lt hz, h.cap, h.vo.keep hv⟩
theorem MbAt.keep {w w' : World} {x : MRec} (h : MbAt w x) (hz : w.heap.size ≤ w'.heap.size) (hb : ∀ i ∈ x.foot, w'.heap[i]? = w.heap[i]?) : MbAt w' x := by
  refine ⟨(hb _ (List.mem_cons_self ..)).trans h.blk, fun d hd => ?_⟩
  have hf : x.foot = [x.a, x.g, x.v, x.e] := by unfold MRec.foot gfoot; rw [hd]
  rw [hf] at hb
  exact (h.gd d hd).keep hz (hb _ (by simp)) (hb _ (by simp)) (hb _ (by simp))
theorem MbAt.lt {w : World} {x : MRec} (h : MbAt w x) : ∀ i ∈ x.foot, i < w.heap.size := by
  intro i hi
  unfold MRec.foot at hi
  rcases List.mem_cons.1 hi with rfl | hi
  · exact blk_lt h.blk
  · cases hd : x.m.g with
    | none => rw [hd] at hi; cases hi
    | some d =>
      rw [hd] at hi
      have k := h.gd d hd
      simp only [gfoot, List.mem_cons, List.not_mem_nil, or_false] at hi
      rcases hi with rfl | rfl | rfl
      · exact blk_lt k.blk
      · exact k.vo.lt
      · exact k.lt
theorem RollAt.lt {w : World} {y : Lay} {s : RS} (h : RollAt w y s) : ∀ i ∈ y.foot, i < w.heap.size := by
  intro i hi
  unfold Lay.foot at hi
  simp only [List.mem_cons, List.mem_flatMap] at hi
  rcases hi with rfl | rfl | rfl | rfl | rfl | ⟨x, hx, hi⟩
  · exact blk_lt h.blk
  · exact h.cards.lt
  · exact h.ins.lt
  · exact h.was.lt
  · exact h.ms.lt
  · exact (h.mb x hx).lt i hi
theorem RollAt.keep {w w' : World} {y : Lay} {s : RS} (h : RollAt w y s) (hz : w.heap.size ≤ w'.heap.size) (hb : ∀ i ∈ y.foot, w'.heap[i]? = w.heap[i]?) : RollAt w' y s := by
  have hm : ∀ x ∈ y.l, ∀ i ∈ x.foot, w'.heap[i]? = w.heap[i]? := fun x hx i hi => hb i (by
    unfold Lay.foot
    simp only [List.mem_cons, List.mem_flatMap]
    exact .inr (.inr (.inr (.inr (.inr ⟨x, hx, hi⟩)))))
  unfold Lay.foot at hb
  exact ⟨(hb _ (by simp)).trans h.blk, h.cards.keep (hb _ (by simp)), h.ins.keep (hb _ (by simp)), h.was.keep (hb _ (by simp)), h.ms.keep (hb _ (by simp)), fun x hx => (h.mb x hx).keep hz (hm x hx), h.eq, h.nd⟩
theorem RollAt.below {w w' : World} {y : Lay} {s : RS} (h : RollAt w y s) (hb : Below w.heap.size w w') : RollAt w' y s := h.keep hb.size fun i hi => hb.block i (h.lt i hi)
theorem RollAt.drew {w : World} {y : Lay} {s : RS} (h : RollAt w y s) : RollAt w.drew y s := h.below (Below.refl _ _).drew
/-- What a call that works on some blocks leaves: all else lies as it did; of the new blocks each is an old one, or new. -/
structure Turn (w w' : World) (F F' : List Nat) : Prop where
  os : w'.os = w.os
  tape : w'.tape = w.tape
  out : w'.output = w.output
  size : w.heap.size ≤ w'.heap.size
  blk : ∀ i, i < w.heap.size → i ∉ F → w'.heap[i]? = w.heap[i]?
  new : ∀ i ∈ F', i ∈ F ∨ w.heap.size ≤ i
theorem Turn.refl (w : World) (F : List Nat) : Turn w w F F := ⟨rfl, rfl, rfl, Nat.le_refl _, fun _ _ _ => rfl, fun _ h => .inl h⟩
theorem Turn.trans {w v u : World} {F G H : List Nat} (h : Turn w v F G) (k : Turn v u G H) : Turn w u F H := by
  refine ⟨k.os.trans h.os, k.tape.trans h.tape, k.out.trans h.out, Nat.le_trans h.size k.size, fun i hi hF => ?_, fun i hi => ?_⟩
  · refine (k.blk i (Nat.lt_of_lt_of_le hi h.size) fun hg => ?_).trans (h.blk i hi hF)
    rcases h.new i hg with h1 | h1
    · exact hF h1
    · omega
  · rcases k.new i hi with h1 | h1
    · exact h.new i h1
    · exact .inr (Nat.le_trans h.size h1)
theorem Turn.of_below {w w' : World} {F : List Nat} (h : Below w.heap.size w w') : Turn w w' F F := ⟨h.os, h.tape, h.output, h.size, fun i hi _ => h.block i hi, fun _ h => .inl h⟩
theorem Turn.below {w w' : World} {F F' : List Nat} {B : Nat} (h : Turn w w' F F') (hF : ∀ i ∈ F, B ≤ i) (hB : B ≤ w.heap.size) : Below B w w' :=
  ⟨h.os, h.tape, h.out, h.size, fun i hi => h.blk i (by omega) fun hf => by have := hF i hf; omega⟩
theorem Turn.above {w w' : World} {F F' : List Nat} {B : Nat} (h : Turn w w' F F') (hF : ∀ i ∈ F, B ≤ i) (hB : B ≤ w.heap.size) : ∀ i ∈ F', B ≤ i := fun i hi => by
  rcases h.new i hi with h1 | h1
  · exact hF i h1
  · omega
/-- One roll beside another one. -/
def Apart (F G : List Nat) : Prop := ∀ i ∈ F, i ∉ G
theorem Apart.symm {F G : List Nat} (h : Apart F G) : Apart G F := fun i hi hf => h i hf hi
theorem Turn.other {w w' : World} {F F' : List Nat} (h : Turn w w' F F') {y : Lay} {s : RS} (hr : RollAt w y s) (ha : Apart y.foot F) : RollAt w' y s ∧ Apart y.foot F' :=
  ⟨hr.keep h.size fun i hi => h.blk i (hr.lt i hi) (ha i hi), fun i hi hf => by
    rcases h.new i hf with h1 | h1
    · exact ha i hi h1
    · have := hr.lt i hi; omega⟩
theorem RollAt.cell {w : World} {y : Lay} {s : RS} (h : RollAt w y s) (i : Nat) : w.cell? ⟨y.r, i, none⟩ = (rollCells y s.bk)[i]? := by
  simp [World.cell?, h.blk]
theorem RollAt.free {w : World} {y : Lay} {s : RS} (h : RollAt w y s) (i : Nat) : w.frozen? ⟨y.r, i, none⟩ = false := by simp [World.frozen?, h.blk]
theorem RollAt.c0 {w : World} {y : Lay} {s : RS} (h : RollAt w y s) : w.cell? ⟨y.r, 0, none⟩ = some (.map (some y.c)) := by rw [h.cell]; rfl
theorem RollAt.c1 {w : World} {y : Lay} {s : RS} (h : RollAt w y s) : w.cell? ⟨y.r, 1, none⟩ = some (.map (some y.i)) := by rw [h.cell]; rfl
theorem RollAt.c2 {w : World} {y : Lay} {s : RS} (h : RollAt w y s) : w.cell? ⟨y.r, 2, none⟩ = some (.map (some y.w)) := by rw [h.cell]; rfl
theorem RollAt.c3 {w : World} {y : Lay} {s : RS} (h : RollAt w y s) : w.cell? ⟨y.r, 3, none⟩ = some (.map (some y.m)) := by rw [h.cell]; rfl
theorem RollAt.c4 {w : World} {y : Lay} {s : RS} (h : RollAt w y s) : w.cell? ⟨y.r, 4, none⟩ = some (.int .i64 s.bk) := by rw [h.cell]; rfl
/-! What the maps' look-ups give. -/
theorem zero_card (w : World) : (zeroValue 69).run Tryd.prog w = .ok card0 w := by kernel_rfl
theorem zero_bool (w : World) : (zeroValue 4).run Tryd.prog w = .ok (.bool false) w := by kernel_rfl
theorem zero_ptr (w : World) : (zeroValue 82).run Tryd.prog w = .ok (.pointer none) w := by kernel_rfl
theorem zero_int (w : World) : (zeroValue 3).run Tryd.prog w = .ok (.int .i64 0) w := by kernel_rfl
theorem RollAt.of {w : World} {y : Lay} {s : RS} (h : RollAt w y s) {d : Int} (hd : i64ok d) : ∃ a b c e : Int, (Instr.lookup 77 (.map (some y.c)) (.int .i64 d) false).run Tryd.prog w = .ok (.agg #[.int .i64 a, .int .i64 (ofD d), .int .u64 b, .int .u64 c, .int .u64 e]) w := by
  obtain ⟨a, b, c, e, he⟩ := cards_look d
  refine ⟨a, b, c, e, ?_⟩
  rw [← he]
  exact h.cards.look (K := KI) Tryd.underlying77 (zero_card w) hd
theorem lkv_set (l : List Int) (d : Int) : lkv (setV l) d (.bool false) = .bool (decide (d ∈ l)) := by
  unfold lkv setV
  induction l with
  | nil => simp [lk_nil]
  | cons x l ih =>
    rw [List.map_cons, lk_cons]
    by_cases h : x = d
    · subst h; simp
    · rw [if_neg h, ih]
      have : d ≠ x := fun e => h e.symm
      simp [this]
theorem RollAt.inn {w : World} {y : Lay} {s : RS} (h : RollAt w y s) {d : Int} (hd : i64ok d) : (Instr.lookup 78 (.map (some y.i)) (.int .i64 d) false).run Tryd.prog w = .ok (.bool (s.inB d)) w := by
  have := h.ins.look (K := KI) Tryd.underlying78 (zero_bool w) hd
  rwa [lkv_set] at this
theorem RollAt.wasn {w : World} {y : Lay} {s : RS} (h : RollAt w y s) {d : Int} (hd : i64ok d) : (Instr.lookup 78 (.map (some y.w)) (.int .i64 d) false).run Tryd.prog w = .ok (.bool (s.wasB d)) w := by
  have := h.was.look (K := KI) Tryd.underlying78 (zero_bool w) hd
  rwa [lkv_set] at this
/-- A member is there, or none. -/
theorem lay_look {l : List MRec} {n : Int} : (lk (l.map fun x => (x.n, x.m)) n = none ∧ lkv (memV l) n (.pointer none) = .pointer none) ∨ ∃ x ∈ l, x.n = n ∧ lk (l.map fun x => (x.n, x.m)) n = some x.m ∧ lkv (memV l) n (.pointer none) = .pointer (some ⟨x.a, 0, none⟩) := by
  unfold lkv memV
  induction l with
  | nil => exact .inl ⟨rfl, rfl⟩
  | cons x l ih =>
    rw [List.map_cons, List.map_cons, lk_cons, lk_cons]
    by_cases h : x.n = n
    · refine .inr ⟨x, List.mem_cons_self .., h, ?_, ?_⟩
      · rw [if_pos h]
      · rw [if_pos h]
    · rw [if_neg h, if_neg h]
      rcases ih with ih | ⟨z, hz, h1, h2⟩
      · exact .inl ih
      · exact .inr ⟨z, List.mem_cons_of_mem _ hz, h1, h2⟩
theorem RollAt.mem {w : World} {y : Lay} {s : RS} (h : RollAt w y s) {n : Int} (hn : i64ok n) :
    (s.memb n = none ∧ (Instr.lookup 79 (.map (some y.m)) (.int .i64 n) false).run Tryd.prog w = .ok (.pointer none) w) ∨
    ∃ x ∈ y.l, x.n = n ∧ s.memb n = some x.m ∧ (Instr.lookup 79 (.map (some y.m)) (.int .i64 n) false).run Tryd.prog w = .ok (.pointer (some ⟨x.a, 0, none⟩)) w := by
  have hl := h.ms.look (K := KI) Tryd.underlying79 (zero_ptr w) hn
  unfold RS.memb
  rw [← h.eq]
  rcases lay_look (l := y.l) (n := n) with ⟨h1, h2⟩ | ⟨x, hx, h1, h2, h3⟩
  · rw [h2] at hl; exact .inl ⟨h1, hl⟩
  · rw [h3] at hl; exact .inr ⟨x, hx, h1, h2, hl⟩
theorem MbAt.c0 {w : World} {x : MRec} (h : MbAt w x) : w.cell? ⟨x.a, 0, none⟩ = some (.int .i64 x.m.r) := by simp [World.cell?, h.blk]
theorem MbAt.c1 {w : World} {x : MRec} (h : MbAt w x) : w.cell? ⟨x.a, 1, none⟩ = some (gptr x.m.g x.g) := by simp [World.cell?, h.blk]
theorem MbAt.free {w : World} {x : MRec} (h : MbAt w x) (i : Nat) : w.frozen? ⟨x.a, i, none⟩ = false := by simp [World.frozen?, h.blk]
end Go.Proofs.YtkolilbebkkpdaaDoor
