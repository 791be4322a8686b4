/-
  Words for memory: what a slice reads as; an array of the call's own. No program in sight.
-/
import Derived.WalkKit
import Derived.Below
import Derived.Laws.MakeOwn
import Derived.Lib.Hide
namespace Go.Proofs.YtkolilbebkkpdaaDoor
open Go.RowKit

/-- A slice's place p reads as the values xs, from its head on. -/
def Rd (w : World) (p : Option Addr) (xs : List Value) : Prop :=
  xs = [] ∨ ∃ b off, p = some ⟨b, off, none⟩ ∧ ∀ i (h : i < xs.length), w.cell? ⟨b, off + i, none⟩ = some xs[i]

theorem cell_lt {w : World} {a : Addr} {v : Value} (h : w.cell? a = some v) : a.block < w.heap.size := by
  rcases Nat.lt_or_ge a.block w.heap.size with hlt | hge
  · exact hlt
  · unfold World.cell? at h
    rw [Array.getElem?_eq_none hge] at h
    cases h

theorem Rd.nil {w : World} {p : Option Addr} : Rd w p [] := .inl rfl
theorem Rd.here {w : World} {p : Option Addr} {xs : List Value} (h : Rd w p xs) {i : Nat} (hi : i < xs.length) :
    ∃ b off, p = some ⟨b, off, none⟩ ∧ b < w.heap.size ∧ ∀ j (h : j < xs.length), w.cell? ⟨b, off + j, none⟩ = some xs[j] := by
  rcases h with rfl | ⟨b, off, rfl, hc⟩
  · cases hi
  · exact ⟨b, off, rfl, cell_lt (hc i hi), hc⟩
theorem Rd.keep {w w' : World} {p : Option Addr} {xs : List Value} (h : Rd w p xs) (hk : ∀ a : Addr, a.block < w.heap.size → w'.cell? a = w.cell? a) : Rd w' p xs := by
  rcases h with rfl | ⟨b, off, rfl, hc⟩
  · exact .inl rfl
  · exact .inr ⟨b, off, rfl, fun i hi => (hk _ (cell_lt (hc i hi))).trans (hc i hi)⟩
theorem Rd.below {w w' : World} {p : Option Addr} {xs : List Value} (h : Rd w p xs) (hb : Below w.heap.size w w') : Rd w' p xs := h.keep fun _ ha => hb.cell ha
theorem Rd.take {w : World} {p : Option Addr} {xs : List Value} (h : Rd w p xs) (k : Nat) : Rd w p (xs.take k) := by
  rcases h with rfl | ⟨b, off, rfl, hc⟩
  · exact .inl (by simp)
  · exact .inr ⟨b, off, rfl, fun i hi => by
      rw [List.length_take] at hi
      rw [List.getElem_take]
      exact hc i (by omega)⟩

/-- .. as n numbers of 64 bits without a sign. -/
structure U (w : World) (p : Option Addr) (n : Nat) (xs : List Int) : Prop where
  len : xs.length = n
  rd : Rd w p (xs.map (Value.int .u64))
  bd : ∀ x ∈ xs, 0 ≤ x ∧ x < 18446744073709551616
theorem U.nil {w : World} {p : Option Addr} : U w p 0 [] := ⟨rfl, .nil, fun _ h => by cases h⟩
theorem U.below {w w' : World} {p : Option Addr} {n : Nat} {xs : List Int} (h : U w p n xs) (hb : Below w.heap.size w w') : U w' p n xs := ⟨h.len, h.rd.below hb, h.bd⟩
theorem U.take {w : World} {p : Option Addr} {n : Nat} {xs : List Int} (h : U w p n xs) {k : Nat} (hk : k ≤ n) : U w p k (xs.take k) :=
  ⟨by rw [List.length_take, h.len]; omega, by rw [List.map_take]; exact h.rd.take k, fun x hx => h.bd x (List.mem_of_mem_take hx)⟩

/-- The i-th number. -/
def nth (xs : List Int) (i : Nat) : Int := xs.getD i 0
theorem nth_eq {xs : List Int} {i : Nat} (h : i < xs.length) : nth xs i = xs[i] := by simp [nth, h]
theorem nth_mem {xs : List Int} {i : Nat} (h : i < xs.length) : nth xs i ∈ xs := by rw [nth_eq h]; exact List.getElem_mem h
theorem U.look {w : World} {p : Option Addr} {n : Nat} {xs : List Int} (h : U w p n xs) {i : Nat} (hi : i < n) :
    ∃ b off, p = some ⟨b, off, none⟩ ∧ b < w.heap.size ∧ w.cell? ⟨b, off + i, none⟩ = some (.int .u64 (nth xs i)) ∧ 0 ≤ nth xs i ∧ nth xs i < 18446744073709551616 := by
  have hi' : i < xs.length := by rw [h.len]; exact hi
  obtain ⟨b, off, hp, hb, hc⟩ := h.rd.here (i := i) (by simpa using hi')
  have hx := h.bd _ (nth_mem hi')
  refine ⟨b, off, hp, hb, ?_, hx⟩
  have := hc i (by simpa using hi')
  rwa [List.getElem_map, ← nth_eq hi'] at this
theorem U.cell {w : World} {b off n : Nat} {xs : List Int} (h : U w (some ⟨b, off, none⟩) n xs) {i : Nat} (hi : i < n) : w.cell? ⟨b, off + i, none⟩ = some (.int .u64 (nth xs i)) := by
  obtain ⟨b', off', he, _, hc, _⟩ := h.look hi
  injection he with he
  injection he with h1 h2
  subst h1; subst h2
  exact hc
theorem U.look_bd {w : World} {p : Option Addr} {n : Nat} {xs : List Int} (h : U w p n xs) {i : Nat} (hi : i < n) : 0 ≤ nth xs i ∧ nth xs i < 18446744073709551616 :=
  h.bd _ (nth_mem (by rw [h.len]; exact hi))

/-- An array of the call's own: block b is these cells, and none is frozen. -/
def Arr (w : World) (b : Nat) (t : TypeId) (vs : List Value) : Prop := w.heap[b]? = some (.cells vs.toArray t (0, 0))
theorem Arr.lt {w : World} {b : Nat} {t : TypeId} {vs : List Value} (h : Arr w b t vs) : b < w.heap.size := (Array.getElem?_eq_some_iff.1 h).1
theorem Arr.cell {w : World} {b : Nat} {t : TypeId} {vs : List Value} (h : Arr w b t vs) {i : Nat} (hi : i < vs.length) : w.cell? ⟨b, i, none⟩ = some vs[i] := by
  unfold Arr at h
  simp [World.cell?, h, hi]
theorem Arr.free {w : World} {b : Nat} {t : TypeId} {vs : List Value} (h : Arr w b t vs) (i : Nat) : w.frozen? ⟨b, i, none⟩ = false := by
  unfold Arr at h
  simp [World.frozen?, h]
theorem Arr.new (w : World) (t : TypeId) (vs : List Value) : Arr (w.alloc (.cells vs.toArray t)) w.heap.size t vs := by
  show (w.heap.push _)[w.heap.size]? = _
  simp
theorem Arr.below {w w' : World} {b : Nat} {t : TypeId} {vs : List Value} {B : Nat} (h : Arr w b t vs) (hb : Below B w w') (hB : b < B) : Arr w' b t vs := (hb.block b hB).trans h
theorem Arr.set {w : World} {b : Nat} {t : TypeId} {vs : List Value} (h : Arr w b t vs) (i : Nat) (v : Value) : Arr (w.setCell ⟨b, i, none⟩ v) b t (vs.set i v) := by
  unfold Arr at h ⊢
  have hlt := (Array.getElem?_eq_some_iff.1 h).1
  show (w.heap.modify b _)[b]? = _
  rw [Array.getElem?_modify, if_pos rfl, h]
  simp
theorem Arr.rd {w : World} {b : Nat} {t : TypeId} {vs : List Value} (h : Arr w b t vs) : Rd w (some ⟨b, 0, none⟩) vs :=
  .inr ⟨b, 0, rfl, fun i hi => by rw [Nat.zero_add]; exact h.cell hi⟩

/-- make([]T, n) of one-cell elements, whatever n is. -/
theorem make_row (P : Program) (t e : TypeId) (i : TypeInfo) (z : Value) (ht : P.underlying t = some (.slice e)) (hi : P.info? e = some i) (hz : i.zero = some z) (h1 : z.cells = #[z]) (hs : i.size = 1) (hby : i.bytes = 8)
    (n : Int) (h0 : 0 ≤ n) (hn : n ≤ 35184372088832) (w : World) :
    (Instr.makeSlice t (.int .i64 n) (.int .i64 n)).run P w = .ok (.slice (some ⟨w.heap.size, 0, none⟩) n.toNat n.toNat) (w.alloc (.cells (List.replicate n.toNat z).toArray e)) := by
  have h := run_make (P := P) w t e i z ht hi hz .i64 .i64 n n h0 (Int.le_refl _) (by rw [hby]; omega) (by omega)
  rw [h, hs, Nat.mul_one, h1]
  congr 3
  apply Array.ext
  · simp [madeCells]
  · intro k h1 h2
    simp [madeCells, Nat.mod_one]
end Go.Proofs.YtkolilbebkkpdaaDoor
