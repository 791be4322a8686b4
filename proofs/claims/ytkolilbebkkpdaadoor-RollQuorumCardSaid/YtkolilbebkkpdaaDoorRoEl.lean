/-
  Lists of structs of the call's own, whatever the struct: how they read; append of one.
-/
import Derived.Test.YtkolilbebkkpdaaDoorRoA3
import Derived.Laws.Rows
namespace Go.Proofs.YtkolilbebkkpdaaDoor
open Go.RowKit Go.Maps Go.Shelf

/-- A kind of struct: its cells. -/
structure El (α : Type) where
  t : TypeId
  st : TypeId
  sz : Nat
  bt : Nat
  z : Value
  c : α → List Value
  hlen : ∀ x, (c x).length = sz
  hone : ∀ x, ∀ u ∈ c x, u.oneCell' = true
  hund : Tryd.prog.underlying st = some (.slice t)
  hinf : (Tryd.prog.info? t).map (fun i => (i.zero, i.size, i.bytes)) = some (some z, sz, bt)
  hz : z.cells.size = sz
  hp : 0 < sz
  hb : bt ≤ 1000
section
variable {α : Type} {E : El α}
def OwnE (E : El α) (w : World) (base : Nat) (v : Value) (l : List α) : Prop := w.ownsRow base E.t E.sz v l.length (l.flatMap E.c)
/-- Behind p the list reads. -/
def RdE (E : El α) (w : World) (p : Option Addr) (l : List α) : Prop := ∀ i (hi : i < l.length), ∃ b off, p = some ⟨b, off, none⟩ ∧ b < w.heap.size ∧ ∀ j u, (E.c l[i])[j]? = some u → w.cell? ⟨b, off + i * E.sz + j, none⟩ = some u
theorem RdE.below {w w' : World} {p : Option Addr} {l : List α} (h : RdE E w p l) (hb : Below w.heap.size w w') : RdE E w' p l := fun i hi => by
  obtain ⟨b, off, hp, hlt, hc⟩ := h i hi
  exact ⟨b, off, hp, Nat.lt_of_lt_of_le hlt hb.size, fun j u hu => (hb.cell (p := ⟨b, _, none⟩) hlt).trans (hc j u hu)⟩
theorem RdE.same {w w' : World} {p : Option Addr} {l : List α} (h : RdE E w p l) (hz : w.heap.size ≤ w'.heap.size) (hb : ∀ a, p = some a → a.block < w.heap.size → w'.heap[a.block]? = w.heap[a.block]?) : RdE E w' p l := fun i hi => by
  obtain ⟨b, off, hp, hlt, hc⟩ := h i hi
  refine ⟨b, off, hp, Nat.lt_of_lt_of_le hlt hz, fun j u hu => ?_⟩
  have := hb _ hp hlt
  rw [← hc j u hu]
  unfold World.cell?
  simp only at this
  simp only [this]
theorem OwnE.nil (w : World) (base : Nat) : OwnE E w base (.slice none 0 0) [] := World.ownsRow_nil w base _ _
theorem OwnE.below {w w' : World} {base : Nat} {v : Value} {l : List α} (h : OwnE E w base v l) (hb : Below w.heap.size w w') : OwnE E w' base v l :=
  World.ownsRow.kept h (row := none) ⟨hb.os, hb.tape, hb.output, hb.size, fun i hi _ => hb.block i hi⟩ (by cases hv : v.ownBlock <;> simp)
theorem OwnE.same {w w' : World} {base : Nat} {v : Value} {l : List α} (h : OwnE E w base v l) (hb : ∀ g, v.ownBlock = some g → w'.heap[g]? = w.heap[g]?) : OwnE E w' base v l := by
  refine ⟨h.1, ?_⟩
  rcases h.2 with h1 | ⟨g, cap, cur, hv, hg, hgb, h2⟩
  · exact .inl h1
  · exact .inr ⟨g, cap, cur, hv, hg, (hb g (by rw [hv]; rfl)).trans hgb, h2⟩
theorem OwnE.lt {w : World} {base : Nat} {v : Value} {l : List α} (h : OwnE E w base v l) {g : Nat} (hg : v.ownBlock = some g) : base ≤ g ∧ g < w.heap.size := World.ownsRow.lt h g hg
theorem flat_at (E : El α) : ∀ (l : List α) (i : Nat) (hi : i < l.length) (j : Nat), j < E.sz → (l.flatMap E.c)[i * E.sz + j]? = (E.c l[i])[j]? := by
  intro l
  induction l with
  | nil => intro i hi; exact absurd hi (Nat.not_lt_zero _)
  | cons a l ih =>
    intro i hi j hj
    rw [List.flatMap_cons]
    cases i with
    | zero =>
      rw [Nat.zero_mul, Nat.zero_add, List.getElem?_append_left (by rw [E.hlen]; exact hj)]
      rfl
    | succ i =>
      have hi' : i < l.length := by simpa using hi
      rw [List.getElem?_append_right (by rw [E.hlen, Nat.succ_mul]; omega), E.hlen, show (i + 1) * E.sz + j - E.sz = i * E.sz + j by rw [Nat.succ_mul]; omega, ih i hi' j hj]
      rfl
theorem flat_len (E : El α) (l : List α) : (l.flatMap E.c).length = l.length * E.sz := by
  induction l with
  | nil => simp
  | cons a l ih => rw [List.flatMap_cons, List.length_append, ih, E.hlen, List.length_cons, Nat.succ_mul]; omega
theorem OwnE.u {w : World} {base : Nat} {v : Value} {l : List α} (h : OwnE E w base v l) : ∃ p c, v = .slice p l.length c ∧ l.length ≤ c ∧ RdE E w p l ∧ FarP base p ∧ (p = none → c = 0) ∧ (∀ a, p = some a → v.ownBlock = some a.block) := by
  rcases h.2 with ⟨hv, hn⟩ | ⟨g, cap, cur, hv, hg, hgb, hnc, _, hcs, htake⟩
  · refine ⟨none, 0, by rw [hv, hn], by omega, fun i hi => (by omega), fun _ h => (by cases h), fun _ => rfl, fun _ h => (by cases h)⟩
  · refine ⟨some ⟨g, 0, none⟩, cap, hv, hnc, fun i hi => ⟨g, 0, rfl, (Array.getElem?_eq_some_iff.1 hgb).1, fun j u hu => ?_⟩, fun a ha => by injection ha with ha; rw [← ha]; exact hg, fun h => (by cases h), fun a ha => by injection ha with ha; rw [← ha, hv]; rfl⟩
    have hj : j < E.sz := by rw [← E.hlen l[i]]; exact (List.getElem?_eq_some_iff.1 hu).1
    have hk : i * E.sz + j < l.length * E.sz := by
      have : (i + 1) * E.sz ≤ l.length * E.sz := Nat.mul_le_mul_right _ hi
      rw [Nat.succ_mul] at this
      omega
    have h1 := flat_at E l i hi j hj
    rw [← htake, List.getElem?_take, if_pos hk, hu] at h1
    rw [Nat.zero_add]
    simp [World.cell?, hgb]
    simpa using h1
/-- append(had, y). -/
theorem app_e {ops : Array Oper} {rest : List Oper} {o : Oper} {a : Act} {Q : Exit → Act → World → Prop} (E : El α) (hgd : o.guard = none) (s x : Operand)
    (ho : o.op = .call { callee := .builtin .append, args := #[s, x], argTypes := #[E.st, E.st] }) {base : Nat} {v : Value} {l : List α} {W : World} (y : α) {cs : Array Value} (hcs : cs = (E.c y).toArray)
    (hown : OwnE E W base v l) (hs : a.eval s = v) (hx : a.eval x = .slice (some ⟨W.heap.size, 0, none⟩) 1 1) (hn : l.length ≤ 1000000) (hbase : base ≤ W.heap.size)
    (h : ∀ v' w', OwnE E w' base v' (l ++ [y]) → W.grownBy w' v.ownBlock → wpList Tryd.prog ops Q rest (a.put o.dst v') w') :
    wpList Tryd.prog ops Q (o :: rest) a (W.alloc (.cells cs E.t)) := by
  obtain ⟨i0, hi, hz0, hz1, hz2⟩ := info_parts E.hinf
  subst hcs
  have hb0 : Below W.heap.size W (W.alloc (.cells (E.c y).toArray E.t)) := Below.lit W _
  have hown' := hown.below hb0
  refine wpList_append_own _ hgd s x E.st ho base E.t i0 E.z E.sz E.bt E.hund hi hz0 hz1 hz2 E.hz E.hp v l.length _ hs hown'
    ⟨W.heap.size, 0, none⟩ 1 1 (E.c y) hx (by rw [E.hlen, Nat.one_mul]) ?_ (E.hone y) (by unfold maxLen; omega) ?_ (by simp; omega) ?_
  · intro j u hj
    have hadd : (⟨W.heap.size, 0, none⟩ : Addr).add j = ⟨W.heap.size, j, none⟩ := by unfold Addr.add; split <;> simp_all
    rw [hadd, cell_of_row _ W.heap.size j _ E.t (0, 0) (World.alloc_heap_new W _)]
    simpa using hj
  · have := E.hb
    have h1 : (l.length + 1) * E.bt ≤ 1000001 * 1000 := Nat.mul_le_mul (by omega) this
    omega
  · intro v' w' h1 h2 _
    refine h v' w' ?_ ⟨h2.os, h2.tape, h2.output, Nat.le_trans hb0.size h2.size, fun i hi hne => (h2.block i (Nat.lt_of_lt_of_le hi hb0.size) hne).trans (hb0.block i hi)⟩
    show w'.ownsRow base E.t E.sz v' (l ++ [y]).length ((l ++ [y]).flatMap E.c)
    rw [List.length_append, List.flatMap_append]
    simpa using h1
end
end Go.Proofs.YtkolilbebkkpdaaDoor
