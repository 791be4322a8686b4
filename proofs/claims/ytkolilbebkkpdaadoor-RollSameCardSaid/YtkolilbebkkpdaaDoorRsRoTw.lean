/-
  Two rolls of one's own among other memory.
-/
import Derived.Test.YtkolilbebkkpdaaDoorRmH
import Derived.Test.YtkolilbebkkpdaaDoorRsRoQp
namespace Go.Proofs.YtkolilbebkkpdaaDoor
open Go.RowKit Go.Maps

structure TwoW (B r1 r2 : Nat) (w0 W : World) (y1 y2 : Lay) (s1 s2 : RS) : Prop where
 a : SitW B r1 w0 W y1 s1
 b : SitW B r2 w0 W y2 s2
 ap : ∀ i ∈ y1.foot, i ∉ y2.foot
/-- What lies in neither roll stays, and stays outside of both. -/
def Kp2 (W W' : World) (y1 y2 z1 z2 : Lay) : Prop := W.heap.size ≤ W'.heap.size ∧ ∀ i, i < W.heap.size → i ∉ y1.foot → i ∉ y2.foot → W'.heap[i]? = W.heap[i]? ∧ i ∉ z1.foot ∧ i ∉ z2.foot
theorem Kp2.refl (W : World) (y1 y2 : Lay) : Kp2 W W y1 y2 y1 y2 := ⟨Nat.le_refl _, fun _ _ h1 h2 => ⟨rfl, h1, h2⟩⟩
theorem Kp2.trans {W V U : World} {x1 x2 y1 y2 z1 z2 : Lay} (h : Kp2 W V x1 x2 y1 y2) (k : Kp2 V U y1 y2 z1 z2) : Kp2 W U x1 x2 z1 z2 := ⟨Nat.le_trans h.1 k.1, fun i hi h1 h2 => by
 obtain ⟨a1, a2, a3⟩ := h.2 i hi h1 h2
 obtain ⟨b1, b2⟩ := k.2 i (Nat.lt_of_lt_of_le hi h.1) a2 a3
 exact ⟨b1.trans a1, b2⟩⟩
theorem Kp2.below {W V : World} (h : Below W.heap.size W V) (y1 y2 : Lay) : Kp2 W V y1 y2 y1 y2 := ⟨h.size, fun i hi h1 h2 => ⟨h.block i hi, h1, h2⟩⟩
section
variable {B r1 r2 : Nat} {w0 W W' : World} {y1 y2 z1 z2 : Lay} {s1 s2 s' : RS}
theorem TwoW.call (h : TwoW B r1 r2 w0 W y1 y2 s1 s2) (hb : Below W.heap.size W W') : TwoW B r1 r2 w0 W' y1 y2 s1 s2 := ⟨h.a.call hb, h.b.call hb, h.ap⟩
end
theorem RdE.kp2 {α : Type} {E : El α} {w w' : World} {y1 y2 z1 z2 : Lay} {p : Option Addr} {l : List α} (h : RdE E w p l) (hk : Kp2 w w' y1 y2 z1 z2) (ho : ∀ a, p = some a → a.block ∉ y1.foot ∧ a.block ∉ y2.foot) : RdE E w' p l :=
 h.same hk.1 fun a ha hlt => (hk.2 a.block hlt (ho a ha).1 (ho a ha).2).1
theorem IdAt.kp2 {w w' : World} {y1 y2 z1 z2 : Lay} {b : Nat} {i : Idn} (h : IdAt w b i) (hk : Kp2 w w' y1 y2 z1 z2) (h1 : b ∉ y1.foot) (h2 : b ∉ y2.foot) : IdAt w' b i := h.block (hk.2 b h.lt h1 h2).1
theorem UI.kp2 {w w' : World} {y1 y2 z1 z2 : Lay} {p : Option Addr} {n : Nat} {xs : List Int} (h : UI w p n xs) (hk : Kp2 w w' y1 y2 z1 z2) (hp : ∀ a, p = some a → a.block < w.heap.size) (ho : ∀ a, p = some a → a.block ∉ y1.foot ∧ a.block ∉ y2.foot) : UI w' p n xs :=
 h.same fun a ha => (hk.2 a.block (hp a ha) (ho a ha).1 (ho a ha).2).1
/-- A list of operations that a roll does not hold. -/
structure OpsAr (w : World) (b : Nat) (l : List (OpI × Option Addr × Nat)) : Prop where
 rd : RdE opE w (some ⟨b, 0, none⟩) l
 lt : b < w.heap.size
theorem OpsAr.block {w w' : World} {b : Nat} {l : List (OpI × Option Addr × Nat)} (h : OpsAr w b l) (hz : w.heap.size ≤ w'.heap.size) (hb : w'.heap[b]? = w.heap[b]?) : OpsAr w' b l :=
 ⟨h.rd.same hz fun a ha _ => by injection ha with ha; rw [← ha]; exact hb, Nat.lt_of_lt_of_le h.lt hz⟩
theorem OpsAr.below {w w' : World} {b : Nat} {l : List (OpI × Option Addr × Nat)} (h : OpsAr w b l) (hb : Below w.heap.size w w') : OpsAr w' b l := h.block hb.size (hb.block b h.lt)
theorem OpsAr.cells {w : World} {b : Nat} {l : List (OpI × Option Addr × Nat)} (h : OpsAr w b l) {k : Nat} {o : OpI} {gp : Option Addr} {gc : Nat} (hk : ∃ h : k < l.length, l[k] = (o, gp, gc)) : ∀ j u, (opC o gp gc)[j]? = some u → w.cell? ⟨b, k * 27 + j, none⟩ = some u := by
 obtain ⟨hk, e⟩ := hk
 obtain ⟨b', off, hp, _, hc⟩ := h.rd.op hk
 injection hp with hp
 injection hp with h1 h2
 subst h1; subst h2
 rw [e] at hc
 simpa using hc
/-- The guards' row, and the operation that names them. -/
structure GAr (w W : World) (n t : Int) : Prop where
 u : UI W (some ⟨w.heap.size, 0, none⟩) 3 [1, 2, 3]
 o : OpAt W (w.heap.size + 1) (qG n t) (some ⟨w.heap.size, 0, none⟩) 3
 hb : Below w.heap.size w W
theorem GAr.made (w : World) (n t : Int) : GAr w ((w.alloc (.cells #[.int .i64 1, .int .i64 2, .int .i64 3] 3)).alloc (.cells (opC (qG n t) (some ⟨w.heap.size, 0, none⟩) 3) 42)) n t := by
 have u : UI (w.alloc (.cells #[.int .i64 1, .int .i64 2, .int .i64 3] 3)) (some ⟨w.heap.size, 0, none⟩) 3 [1, 2, 3] := UI.row w [1, 2, 3] (by decide)
 have b1 := Below.lit w (.cells #[.int .i64 1, .int .i64 2, .int .i64 3] 3)
 have b2 := Below.lit (w.alloc (.cells #[.int .i64 1, .int .i64 2, .int .i64 3] 3)) (.cells (opC (qG n t) (some ⟨w.heap.size, 0, none⟩) 3) 42)
 have o := OpAt.made (w.alloc (.cells #[.int .i64 1, .int .i64 2, .int .i64 3] 3)) (qG n t) (some ⟨w.heap.size, 0, none⟩) 3
 have u2 := u.below b2
 simp only [World.size_alloc] at o b2
 exact ⟨u2, o, b1.trans (b2.mono (by omega))⟩
theorem OpsAr.kp2 {w w' : World} {y1 y2 z1 z2 : Lay} {b : Nat} {l : List (OpI × Option Addr × Nat)} (h : OpsAr w b l) (hk : Kp2 w w' y1 y2 z1 z2) (h1 : b ∉ y1.foot) (h2 : b ∉ y2.foot) : OpsAr w' b l := h.block hk.1 (hk.2 b h.lt h1 h2).1
theorem OpAt.setRow {w : World} {b : Nat} {old n : OpI} {gp gp0 : Option Addr} {gc gc0 : Nat} (h : OpAt w b old gp0 gc0) : OpAt (w.setRow b (opC n gp gc)) b n gp gc := setRow_heap w b _ _ _ _ h
theorem belowSetRow {B b : Nat} {w W : World} (h : Below B w W) (hb : B ≤ b) (cs : Array Value) : Below B w (W.setRow b cs) :=
 h.trans ⟨rfl, rfl, rfl, by simp [World.setRow], fun k hk => setRow_other W b k cs (by omega)⟩
end Go.Proofs.YtkolilbebkkpdaaDoor

