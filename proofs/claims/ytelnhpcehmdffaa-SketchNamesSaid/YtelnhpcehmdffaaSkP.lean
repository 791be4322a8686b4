/-
  The contract of the difference of two sketches (1): what it returns, and what joins the equations' answer to it.
-/
import Derived.Test.YtelnhpcehmdffaaSkR
namespace Go.Proofs.Ytelnhpcehmdffaa
open Go.RowKit
attribute [local go_sem] T_V

theorem new_at (W : World) {B : Nat} (hB : B = W.heap.size) : (W.alloc (.cells #[.int .u64 1] 40)).cell? ⟨B, 0, none⟩ = some (.int .u64 1) := by
  subst hB
  exact (Arr.new W 40 [.int .u64 1]).cell (i := 0) (by simp)
/-- A row's value. -/
def rowF (A : List Int) (k : Nat) : F := T (nth A k)
/-- What Diff returns. -/
def DiffTo (n : Nat) (d : Int) (A B : List Int) (w : World) (e : Ending) (w' : World) : Prop :=
  (∃ X Y : List F, (∃ p1 c1 p2 c2, e = .returned (.tuple #[.slice p1 X.length c1, .slice p2 Y.length c2, .int .i64 0]) ∧ Own w' w.heap.size (.slice p1 X.length c1) X.length (X.map V) ∧ Own w' w.heap.size (.slice p2 Y.length c2) Y.length (Y.map V)) ∧ DiffIs n d (rowF A) (rowF B) true X Y) ∨ (e = .returned (.tuple #[.slice none 0 0, .slice none 0 0, .int .i64 32]) ∧ DiffIs n d (rowF A) (rowF B) false [] [])
theorem parts (n all0 : Nat) (d : Int) (hn : n = all0 + 2) (h1 : 0 ≤ (all0 : Int) + d) (h2 : 0 ≤ (all0 : Int) - d) : ∃ all one two : Nat, Degs n d all one two ∧ ((all0 = all ∧ ((all0 : Int) + d) % 2 = 0) ∨ (all0 = all + 1 ∧ ((all0 : Int) + d) % 2 = 1)) ∧ ((all : Int) + d) / 2 = one ∧ ((all : Int) - d) / 2 = two ∧ 0 ≤ (all : Int) + d ∧ 0 ≤ (all : Int) - d := by
  rcases (by omega : ((all0 : Int) + d) % 2 = 0 ∨ ((all0 : Int) + d) % 2 = 1) with h | h
  · refine ⟨all0, (((all0 : Int) + d) / 2).toNat, (((all0 : Int) - d) / 2).toNat, ⟨by omega, by omega, by omega, by omega⟩, .inl ⟨rfl, h⟩, by omega, by omega, h1, h2⟩
  · refine ⟨all0 - 1, (((all0 : Int) - 1 + d) / 2).toNat, (((all0 : Int) - 1 - d) / 2).toNat, ⟨by omega, by omega, by omega, by omega⟩, .inr ⟨by omega, h⟩, by omega, by omega, by omega, by omega⟩
theorem Clone_b {p : Option Addr} {n c : Nat} {xs : List Int} {w0 w : World} (hb : Below w0.heap.size w0 w) (hU : U w0 p n xs) (hp : p = none → c = 0) (hn : n ≤ 1000000) :
    Calls Try.prog 29 #[.slice p n c] w fun e w' => (∃ v, e = .returned v ∧ Own w' w.heap.size v n xs) ∧ Below w.heap.size w w' ∧ Below w0.heap.size w0 w' :=
  (Clone_any p n xs c w (hU.below hb) hp hn).mono fun _ _ ⟨v, h1, h2, h3⟩ => ⟨⟨v, h1, h2⟩, h3, hb.trans (h3.mono hb.size)⟩
theorem range_take (l : Nat → F) {one k : Nat} (h : one ≤ k) : (((List.range k).map l).map V).take one = ((List.range one).map l).map V := by
  rw [← List.map_take, ← List.map_take, List.take_range, Nat.min_eq_left h]
theorem range_drop (l : Nat → F) {one two k : Nat} (h : one + two = k) : (((List.range k).map l).map V).drop one = ((List.range two).map fun j => l (one + j)).map V := by
  subst h
  apply List.ext_getElem
  · simp
  · intro i h1 h2
    simp
theorem mon_rp {w : World} {p : Option Addr} {m : Nat} {f : Nat → F} (h : U w p (m + 1) (((List.range m).map f).map V ++ [1])) : Rp w p (m + 1) (mon f m) := by
  have e : pol (((List.range m).map f).map V ++ [1]) = mon f m := by
    unfold pol mon
    congr 1
    rw [List.map_append, List.map_map]
    congr 1
    · rw [List.map_map]
      exact List.map_congr_left fun i _ => T_V (f i)
  rw [← e]
  exact h.rp
/-- What is left has few coefficients. -/
theorem Told.small {n : Nat} {d : Int} {a b : Nat → F} {all one two : Nat} {l : Nat → F} {G P Q' : Pol} (t : Told all one two a b l G P Q') (g : Degs n d all one two) (hn : n ≤ 1000) (hb : ∀ i, i < n → b i ≠ 0) (hfew : n ≤ 14 ∨ ∃ X Y, Fits n d a b X Y ∧ X.length ≤ 12 ∧ Y.length ≤ 12) : P.len ≤ 13 ∧ Q'.len ≤ 13 := by
  rcases hfew with h | ⟨X, Y, h, h1, h2⟩
  · have := t.lens
    have := g.sum
    have := g.le
    omega
  · obtain ⟨rfl, rfl⟩ := t.fit h g hn hb
    rw [Pol.len_prodL, Pol.len_prodL]
    omega
theorem Told.yes {n : Nat} {d : Int} {a b : Nat → F} {all one two : Nat} {l : Nat → F} {G P Q' : Pol} {rx ry : List F} (t : Told all one two a b l G P Q') (g : Degs n d all one two) (hx : RootsOk P rx) (hy : RootsOk Q' ry) (cx : rx.length + 1 = P.len ∧ ∀ x, x ∈ rx → 1 ≤ V x ∧ V x ≤ 1152921504606846976) (cy : ry.length + 1 = Q'.len ∧ ∀ x, x ∈ ry → 1 ≤ V x ∧ V x ≤ 1152921504606846976)
    (he : ∀ k, k < n → a k * valF ry (ptF k) = b k * valF rx (ptF k)) : DiffIs n d a b true rx ry :=
  .inl ⟨rfl, t.fits g hx hy cx.1 cy.1 cx.2 cy.2 he, hx.1, hy.1⟩
theorem Told.no {n : Nat} {d : Int} {a b : Nat → F} {all one two : Nat} {l : Nat → F} {G P Q' : Pol} {rx ry : List F} (t : Told all one two a b l G P Q') (g : Degs n d all one two) (hn : n ≤ 1000) (hb : ∀ i, i < n → b i ≠ 0) (hx : RootsOk P rx) (hy : RootsOk Q' ry) (h : ¬ ((rx.length + 1 = P.len ∧ ∀ x, x ∈ rx → 1 ≤ V x ∧ V x ≤ 1152921504606846976) ∧ (ry.length + 1 = Q'.len ∧ ∀ x, x ∈ ry → 1 ≤ V x ∧ V x ≤ 1152921504606846976) ∧ ∀ k, k < n → a k * valF ry (ptF k) = b k * valF rx (ptF k))) : DiffIs n d a b false [] [] :=
  .inr ⟨rfl, fun _ _ k => h (t.roots k g hn hb hx hy)⟩
end Go.Proofs.Ytelnhpcehmdffaa
