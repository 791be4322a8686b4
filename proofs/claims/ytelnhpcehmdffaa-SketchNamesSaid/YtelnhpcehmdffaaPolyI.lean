/-
  The contracts of the program's polynomials (9): the closure that splits a polynomial into its roots: what it keeps, its leaves.
-/
import Derived.Test.YtelnhpcehmdffaaPolyH
import Derived.Test.YtelnhpcehmdffaaGa
import Derived.Test.YtelnhpcehmdffaaApp
import Derived.Deep.RegionLaw
import Derived.Handy
namespace Go.Proofs.Ytelnhpcehmdffaa
open Go.RowKit
attribute [local go_sem] T_V

/-- All that was there stands as it stood, but for two blocks. -/
structure Keep (bo : Nat) (ow : Option Nat) (w w' : World) : Prop where
  os : w'.os = w.os
  tape : w'.tape = w.tape
  output : w'.output = w.output
  size : w.heap.size ≤ w'.heap.size
  block : ∀ k, k < w.heap.size → k ≠ bo → some k ≠ ow → w'.heap[k]? = w.heap[k]?
theorem Keep.of_below {bo : Nat} {ow : Option Nat} {w w' : World} (h : Below w.heap.size w w') : Keep bo ow w w' := ⟨h.os, h.tape, h.output, h.size, fun k hk _ _ => h.block k hk⟩
theorem Keep.trans {bo : Nat} {o1 o2 : Option Nat} {a b c : World} (h : Keep bo o1 a b) (k : Keep bo o2 b c) (ho : o2 = o1 ∨ ∀ g, o2 = some g → a.heap.size ≤ g) : Keep bo o1 a c :=
  ⟨k.os.trans h.os, k.tape.trans h.tape, k.output.trans h.output, Nat.le_trans h.size k.size, fun i hi h1 h2 => by
    refine (k.block i (Nat.lt_of_lt_of_le hi h.size) h1 ?_).trans (h.block i hi h1 h2)
    rcases ho with rfl | ho
    · exact h2
    · exact fun e => by have := ho i e.symm; omega⟩
theorem Keep.cell {bo : Nat} {ow : Option Nat} {w w' : World} (h : Keep bo ow w w') {a : Addr} {u : Value} (hc : w.cell? a = some u) (h1 : a.block ≠ bo) (h2 : some a.block ≠ ow) : w'.cell? a = some u := by
  have := h.block a.block (cell_lt hc) h1 h2
  rw [World.cell?_of_block this]; exact hc
/-- A slice that lies apart from what is written. -/
def Apart (p : Option Addr) (bo : Nat) (ow : Option Nat) : Prop := ∀ a, p = some a → a.block ≠ bo ∧ some a.block ≠ ow
theorem Keep.U {bo : Nat} {ow : Option Nat} {w w' : World} (h : Keep bo ow w w') {p : Option Addr} {n : Nat} {xs : List Int} (hU : U w p n xs) (hp : Apart p bo ow) : U w' p n xs := by
  refine ⟨hU.len, ?_, hU.bd⟩
  rcases hU.rd with h1 | ⟨b, off, rfl, hc⟩
  · exact .inl h1
  · exact .inr ⟨b, off, rfl, fun i hi => h.cell (hc i hi) (hp _ rfl).1 (hp _ rfl).2⟩
/-- The list of the roots told so far, in its variable; the closure in its own, behind it. -/
structure Out (w : World) (bo : Nat) (v : Value) (rs : List F) : Prop where
  cell : Arr w bo 22 [v]
  func : Arr w (bo + 1) 81 [.func (.func 65) #[] #[.pointer (some ⟨bo, 0, none⟩), .pointer (some ⟨bo + 1, 0, none⟩)]]
  own : Own w (bo + 2) v rs.length (rs.map V)
theorem Out.below {w w' : World} {bo : Nat} {v : Value} {rs : List F} (h : Out w bo v rs) (hb : Below w.heap.size w w') : Out w' bo v rs :=
  ⟨h.cell.below hb h.cell.lt, h.func.below hb h.func.lt, h.own.below hb⟩
/-- What the closure does. -/
def SplitTo (bo : Nat) (v : Value) (rs : List F) (L : List F) (w : World) (e : Ending) (w' : World) : Prop :=
  e = .returned (.tuple #[]) ∧ ∃ v' L', L'.Perm L ∧ Out w' bo v' (rs ++ L') ∧ Keep bo v.ownBlock w w' ∧ (v'.ownBlock = v.ownBlock ∨ ∀ g, v'.ownBlock = some g → w.heap.size ≤ g)

set_option maxRecDepth 100000 in
theorem split_small (bo : Nat) (v : Value) (rs : List F) (p : Option Addr) (c : Nat) (s : Int) (n : Nat) (hn : n < 2) (w : World) (hO : Out w bo v rs) :
    Calls Try.prog 65 #[.slice p n c, .int .u64 s, .pointer (some ⟨bo, 0, none⟩), .pointer (some ⟨bo + 1, 0, none⟩)] w (SplitTo bo v rs [] w) := by
  have hfin : Hid (SplitTo bo v rs [] w (.returned (.tuple #[])) w) := Lib.hid ⟨rfl, v, [], List.Perm.refl _, by rw [List.append_nil]; exact hO, Keep.of_below (Below.refl _ _), .inl rfl⟩
  by_cases h0 : n = 0
  · subst h0
    go_enter Try.func65, Try.ntmps65
    go_wp2
    go_returns
    exact hfin.out
  · obtain rfl : n = 1 := by omega
    go_enter Try.func65, Try.ntmps65
    go_wp2
    go_returns
    exact hfin.out

theorem grown_set (w : World) (b : Nat) (v : Value) : w.grownBy (w.setCell ⟨b, 0, none⟩ v) (some b) :=
  ⟨rfl, rfl, rfl, by simp [World.setCell], fun k _ hne => Below.heap_setCell _ _ _ _ (fun e => hne (by rw [e]))⟩
/-- Behind the append and the store. -/
theorem out_step {w W wA : World} {bo : Nat} {v : Value} {rs : List F} {r : F} {g cap : Nat} (hO : Out w bo v rs) (hbW : Below w.heap.size w W) (hA : Own wA (bo + 2) (.slice (some ⟨g, 0, none⟩) (rs.length + 1) cap) (rs.length + 1) (rs.map V ++ [V r])) (hg : W.grownBy wA v.ownBlock) (hat : v.ownBlock = some g ∨ g = W.heap.size) :
    (wA.cell? ⟨bo, 0, none⟩ = some v ∧ wA.frozen? ⟨bo, 0, none⟩ = false) ∧ SplitTo bo v rs [r] w (.returned (.tuple #[])) (wA.setCell ⟨bo, 0, none⟩ (.slice (some ⟨g, 0, none⟩) (rs.length + 1) cap)) := by
  have hne : ∀ k, k < bo + 2 → some k ≠ v.ownBlock := fun k hk e => by have := (hO.own.lt e.symm).1; omega
  have hc1 : Arr wA bo 22 [v] := by
    have h1 := hO.cell.below hbW hO.cell.lt
    exact (hg.block bo h1.lt (hne bo (by omega))).trans h1
  have hf1 : Arr wA (bo + 1) 81 [.func (.func 65) #[] #[.pointer (some ⟨bo, 0, none⟩), .pointer (some ⟨bo + 1, 0, none⟩)]] := by
    have h1 := hO.func.below hbW hO.func.lt
    exact (hg.block (bo + 1) h1.lt (hne _ (by omega))).trans h1
  refine ⟨⟨hc1.cell (i := 0) (by simp), hc1.free 0⟩, rfl, .slice (some ⟨g, 0, none⟩) (rs.length + 1) cap, [r], List.Perm.refl _, ⟨?_, ?_, ?_⟩, ?_, ?_⟩
  · exact hc1.set 0 _
  · have h2 := (grown_set wA bo (.slice (some ⟨g, 0, none⟩) (rs.length + 1) cap)).block (bo + 1) hf1.lt (fun e => by injection e with e; omega)
    exact h2.trans hf1
  · have := hA.far (grown_set wA bo (.slice (some ⟨g, 0, none⟩) (rs.length + 1) cap)) (.inr fun e => by
      have := (hA.lt e).1; omega)
    rw [List.length_append, List.map_append]
    exact this
  · refine ⟨hg.os.trans hbW.os, hg.tape.trans hbW.tape, hg.output.trans hbW.output, Nat.le_trans hbW.size (Nat.le_trans hg.size (by simp [World.setCell])), fun k hk h1 h2 => ?_⟩
    rw [Below.heap_setCell _ _ _ _ h1, hg.block k (Nat.lt_of_lt_of_le hk hbW.size) h2, hbW.block k hk]
  · rcases hat with h | h
    · exact .inl h.symm
    · exact .inr fun g' e => by
        injection e with e
        have := hbW.size
        simp only at e
        omega

set_option maxRecDepth 100000 in
theorem split_one (bo : Nat) (v : Value) (rs : List F) (p : Option Addr) (c : Nat) (s : Int) (r : F) (w : World) (hO : Out w bo v rs) (hU : U w p 2 ([-r, 1].map V)) (hl : rs.length ≤ 1000000) :
    Calls Try.prog 65 #[.slice p 2 c, .int .u64 s, .pointer (some ⟨bo, 0, none⟩), .pointer (some ⟨bo + 1, 0, none⟩)] w (SplitTo bo v rs [r] w) := by
  obtain ⟨b, off, rfl, hbb, hcell, _, _⟩ := hU.look (i := 0) (by omega)
  have hcell : w.cell? ⟨b, off, none⟩ = some (.int .u64 (V (-r))) := hcell
  have hco := hO.cell.cell (i := 0) (by simp)
  have hco : w.cell? ⟨bo, 0, none⟩ = some v := hco
  have hcoa : ∀ o, (w.alloc o).cell? ⟨bo, 0, none⟩ = some v := fun o => (((Below.refl w.heap.size w).alloc (Nat.le_refl _) o).cell (cell_lt hco)).trans hco
  have hrr : Hid (- -r = r) := Lib.hid (by grind)
  have hbs : bo + 2 ≤ w.heap.size := by have := hO.func.lt; omega
  go_enter Try.func65, Try.ntmps65
  go_wp2_with fail
  go_region_law (first
    | (rw [if_pos (by rfl)]; go_simp; go_at_call 43; refine (neg_any _ _ (V_lo _) (V_64 _)).mono ?_; rintro e w' ⟨rfl, rfl⟩)
    | (refine app_step (y := V (- -r)) rfl (.tmp 17) (.tmp 22) rfl (hO.own.below (by go_grown)) rfl rfl (by go_cell) ⟨V_lo _, V_64 _⟩ (by omega) (by simp; omega) ?_
       intro g1 cap1 wA hX1 hgA hatA hltA
       rw [hrr.out] at hX1
       obtain ⟨⟨q1, q2⟩, hfin⟩ := out_step hO (by go_grown) hX1 hgA hatA))
  all_goals
    go_simp
    go_wp2
    go_returns
    exact hfin
end Go.Proofs.Ytelnhpcehmdffaa
