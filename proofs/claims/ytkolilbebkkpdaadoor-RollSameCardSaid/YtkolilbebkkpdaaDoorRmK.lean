/-
  The document's roll: what is needed to change it: lists made anew, stores into a boxed roll.
  The document's roll: a device comes in.
  The document's roll: what may be done.
-/
import Derived.Test.YtkolilbebkkpdaaDoorRmJ
import Derived.Test.YtkolilbebkkpdaaDoorRmI
namespace Go.Proofs.YtkolilbebkkpdaaDoor
open Go.RowKit Go.Maps Go.BigFrame

def LtP (n : Nat) (p : Option Addr) : Prop := ∀ q, p = some q → q.block < n
/-- A row that lies in memory that is there. -/
structure UL (w : World) (p : Option Addr) (n : Nat) (xs : List Int) : Prop where
 u : UI w p n xs
 lt : LtP w.heap.size p
theorem UL.below {w w' : World} {p : Option Addr} {n : Nat} {xs : List Int} (h : UL w p n xs) (hb : Below w.heap.size w w') : UL w' p n xs := ⟨h.u.below hb, fun q e => Nat.lt_of_lt_of_le (h.lt q e) hb.size⟩
structure RL {α : Type} (E : El α) (w : World) (p : Option Addr) (l : List α) : Prop where
 r : RdE E w p l
 lt : LtP w.heap.size p
theorem RL.below {α : Type} {E : El α} {w w' : World} {p : Option Addr} {l : List α} (h : RL E w p l) (hb : Below w.heap.size w w') : RL E w' p l := ⟨h.r.below hb, fun q e => Nat.lt_of_lt_of_le (h.lt q e) hb.size⟩
theorem OwnI.u2 {w : World} {base : Nat} {v : Value} {n : Nat} {xs : List Int} (h : OwnI w base v n xs) : ∃ p c, v = .slice p n c ∧ n ≤ c ∧ UL w p n xs ∧ FarP base p ∧ (p = none → c = 0) := by
 obtain ⟨p, c, rfl, h1, h2, h3⟩ := h.u
 refine ⟨p, c, rfl, h1, ⟨h2, fun q e => ?_⟩, h3, fun e => ?_⟩
 ·exact (h.lt (g := q.block) (by rw [e]; rfl)).2
 ·rcases h.row.2 with ⟨hv, _⟩ | ⟨_, _, _, hv, _⟩
  ·injection hv
  ·injection hv with hv
   rw [e] at hv
   cases hv
theorem OwnE.u2 {α : Type} {E : El α} {w : World} {base : Nat} {v : Value} {l : List α} (h : OwnE E w base v l) : ∃ p c, v = .slice p l.length c ∧ l.length ≤ c ∧ RL E w p l ∧ FarP base p ∧ (p = none → c = 0) ∧ (∀ a, p = some a → v.ownBlock = some a.block) := by
 obtain ⟨p, c, hv, h1, h2, h3, h4, h5⟩ := h.u
 exact ⟨p, c, hv, h1, ⟨h2, fun q e => (h.lt (h5 q e)).2⟩, h3, h4, h5⟩
/-- []int{}. -/
theorem OwnI.empty (w : World) : OwnI (w.alloc (.cells #[] 3)) w.heap.size (.slice (some ⟨w.heap.size, 0, none⟩) 0 0) 0 [] :=
 ⟨rfl, ⟨rfl, .inr ⟨w.heap.size, 0, #[], rfl, Nat.le_refl _, World.alloc_heap_new w _, Nat.le_refl _, Nat.zero_le _, rfl, rfl⟩⟩, fun _ h => by cases h⟩
section
variable {α : Type} {E : El α}
theorem OwnE.empty (E : El α) (w : World) : OwnE E (w.alloc (.cells #[] E.t)) w.heap.size (.slice (some ⟨w.heap.size, 0, none⟩) 0 0) [] :=
 ⟨by simp, .inr ⟨w.heap.size, 0, #[], rfl, Nat.le_refl _, World.alloc_heap_new w _, Nat.le_refl _, Nat.zero_le _, by simp, by simp⟩⟩
/-- append(had, more...). -/
theorem app_manyE {ops : Array Oper} {rest : List Oper} {o : Oper} {a : Act} {Q : Exit → Act → World → Prop} (E : El α) (hgd : o.guard = none) (s x : Operand)
  (ho : o.op = .call { callee := .builtin .append, args := #[s, x], argTypes := #[E.st, E.st] }) {base : Nat} {v : Value} {m c : Nat} {q : Option Addr} {xs ys : List α} {w : World}
  (hown : OwnE E w base v xs) (hs : a.eval s = v) (hx : a.eval x = .slice q m c) (hY : RdE E w q ys) (hm : ys.length = m) (hq : q = none → c = 0) (hn : xs.length + m ≤ 1000000) (hbase : base ≤ w.heap.size)
  (h : ∀ v' w', OwnE E w' base v' (xs ++ ys) → Below base w w' → wpList Tryd.prog ops Q rest (a.put o.dst v') w') :
  wpList Tryd.prog ops Q (o :: rest) a w := by
 obtain ⟨i0, hi, hz0, hz1, hz2⟩ := info_parts E.hinf
 cases q with
 | none =>
  have hm0 : ys = [] := by
   cases ys with
   | nil => rfl
   | cons y ys =>
    obtain ⟨b, off, he, _⟩ := hY 0 (by simp)
    cases he
  subst hm0
  have hm' : m = 0 := hm.symm
  subst hm'
  rw [hq rfl] at hx
  refine wpList_append_own_none hgd s x E.st ho base E.t i0 E.sz E.hund hi v xs.length _ hs hown hx ?_
  exact h v w (by rw [List.append_nil]; exact hown) (Below.refl _ _)
 | some ad =>
  have had : ∀ j u, (ys.flatMap E.c)[j]? = some u → w.cell? (ad.add j) = some u := by
   intro j u hj
   have hjl : j < ys.length * E.sz := by
    rw [← flat_len]
    exact (List.getElem?_eq_some_iff.1 hj).1
   have hi1 : j / E.sz < ys.length := by
    rw [Nat.div_lt_iff_lt_mul E.hp]; exact hjl
   obtain ⟨b, off, he, _, hc⟩ := hY (j / E.sz) hi1
   have he := Option.some.inj he
   subst he
   have hr : j % E.sz < E.sz := Nat.mod_lt _ E.hp
   have hdm : j / E.sz * E.sz + j % E.sz = j := by rw [Nat.mul_comm]; exact Nat.div_add_mod j E.sz
   have h1 := flat_at E ys (j / E.sz) hi1 (j % E.sz) hr
   rw [hdm, hj] at h1
   have h2 := hc (j % E.sz) u h1.symm
   rw [Nat.add_assoc, hdm] at h2
   rw [← h2]
   unfold Addr.add
   by_cases h0 : j = 0
   ·subst h0; rfl
   ·rw [if_neg h0]
  refine wpList_append_own _ hgd s x E.st ho base E.t i0 E.z E.sz E.bt E.hund hi hz0 hz1 hz2 E.hz E.hp v xs.length _ hs hown
   ad m c (ys.flatMap E.c) hx (by rw [flat_len, hm]) had ?_ (by unfold maxLen; omega) ?_ hbase ?_
  ·intro u hu
   obtain ⟨y, _, hy⟩ := List.mem_flatMap.1 hu
   exact E.hone y u hy
  ·have := E.hb
   have h1 : (xs.length + m) * E.bt ≤ 1000000 * 1000 := Nat.mul_le_mul hn this
   omega
  ·intro v' w' h1 h2 _
   refine h v' w' ?_ ((Below.refl base w).grown h2 hbase fun k e => (hown.lt e).1)
   show w'.ownsRow base E.t E.sz v' (xs ++ ys).length ((xs ++ ys).flatMap E.c)
   rw [List.length_append, List.flatMap_append, hm]
   exact h1
/-- append(had, y), memory below kept. -/
theorem app_eb {ops : Array Oper} {rest : List Oper} {o : Oper} {a : Act} {Q : Exit → Act → World → Prop} (E : El α) (hgd : o.guard = none) (s x : Operand)
  (ho : o.op = .call { callee := .builtin .append, args := #[s, x], argTypes := #[E.st, E.st] }) {base : Nat} {v : Value} {l : List α} {W : World} (y : α) {cs : Array Value} (hcs : cs = (E.c y).toArray)
  (hown : OwnE E W base v l) (hs : a.eval s = v) (hx : a.eval x = .slice (some ⟨W.heap.size, 0, none⟩) 1 1) (hn : l.length ≤ 1000000) (hbase : base ≤ W.heap.size)
  (h : ∀ v' w', OwnE E w' base v' (l ++ [y]) → Below base W w' → wpList Tryd.prog ops Q rest (a.put o.dst v') w') :
  wpList Tryd.prog ops Q (o :: rest) a (W.alloc (.cells cs E.t)) := by
 refine app_e E hgd s x ho y hcs hown hs hx hn hbase fun v' w' h1 h2 => h v' w' h1 ?_
 exact (Below.refl base W).grown h2 hbase fun k e => (hown.lt e).1
end
theorem RfAt.withIns {w : World} {a : RfV} {s : RS} {L : List ME} {vs : List VI} (h : RfAt w a s L vs) {p : Option Addr} {c : Nat} {xs : List Int} (hU : UL w p xs.length xs) (hz : p = none → c = 0) : RfAt w { a with pi := p, ci := c } ⟨xs, s.gone, s.ms, s.bk⟩ L vs :=
 ⟨h.cards, hU.u, h.gone, h.lm, h.lq, h.gs, h.vv, ⟨hz, h.nz.2⟩, ⟨h.lt.pc, hU.lt, h.lt.pg, h.lt.pl, h.lt.pv, h.lt.gs⟩⟩
theorem RfAt.withGone {w : World} {a : RfV} {s : RS} {L : List ME} {vs : List VI} (h : RfAt w a s L vs) {p : Option Addr} {c : Nat} {gl xs : List Int} (hU : UL w p xs.length gl) (hg : gl.Perm xs) (hz : p = none → c = 0) : RfAt w { a with pg := p, cg := c } ⟨s.ins, xs, s.ms, s.bk⟩ L vs :=
 ⟨h.cards, h.ins, ⟨gl, hg, hU.u⟩, h.lm, h.lq, h.gs, h.vv, ⟨h.nz.1, hz, h.nz.2.2⟩, ⟨h.lt.pc, h.lt.pi, hU.lt, h.lt.pl, h.lt.pv, h.lt.gs⟩⟩
theorem RfAt.withL {w : World} {a : RfV} {s : RS} {L : List ME} {vs : List VI} (h : RfAt w a s L vs) {p : Option Addr} {c : Nat} {L' : List ME} {ms : List (Int × Mb)} (hL : RL mE w p L') (hq : L'.map Prod.fst = ms) (hz : p = none → c = 0) (hg : ∀ x ∈ L', UI w x.2.1 (gsO x.1.2.g).length (gsO x.1.2.g) ∧ LtP w.heap.size x.2.1) {pv : Option Addr} {cv : Nat} {vs' : List VI} (hv : RL vE w pv vs') (hvz : pv = none → cv = 0) : RfAt w { a with pl := p, cl := c, pv := pv, cv := cv } ⟨s.ins, s.gone, ms, s.bk⟩ L' vs' :=
 ⟨h.cards, h.ins, h.gone, hL.r, hq, fun x hx => (hg x hx).1, hv.r, ⟨h.nz.1, h.nz.2.1, hz, hvz⟩, ⟨h.lt.pc, h.lt.pi, h.lt.pg, hL.lt, hv.lt, fun x hx => (hg x hx).2⟩⟩
theorem RfAt.vvL {w : World} {a : RfV} {s : RS} {L : List ME} {vs : List VI} (h : RfAt w a s L vs) : RL vE w a.pv vs := ⟨h.vv, h.lt.pv⟩
theorem RfAt.gsL {w : World} {a : RfV} {s : RS} {L : List ME} {vs : List VI} (h : RfAt w a s L vs) : ∀ x ∈ L, UI w x.2.1 (gsO x.1.2.g).length (gsO x.1.2.g) ∧ LtP w.heap.size x.2.1 := fun x hx => ⟨h.gs x hx, h.lt.gs x hx⟩
theorem setCell_below {w : World} {b i : Nat} {v : Value} {B : Nat} (h : B ≤ b) (hw : B ≤ w.heap.size) : Below B w (w.setCell ⟨b, i, none⟩ v) :=
 (Below.refl B w).grown (grown_cell w b i v) hw fun k e => by injection e with e; omega
theorem setCell_keep {w : World} {b i : Nat} {v : Value} {j : Nat} (hj : j < w.heap.size) (hne : j ≠ b) : (w.setCell ⟨b, i, none⟩ v).heap[j]? = w.heap[j]? := (grown_cell w b i v).block j hj fun e => by injection e with e; exact hne e
theorem UI.set {w : World} {p : Option Addr} {n : Nat} {xs : List Int} (h : UI w p n xs) {b i : Nat} {v : Value} (hf : FarP (b + 1) p) : UI (w.setCell ⟨b, i, none⟩ v) p n xs := by
 refine ⟨h.len, ?_, h.bd⟩
 rcases h.rd with h1 | ⟨b', off, hp', hc⟩
 ·exact .inl h1
 ·refine .inr ⟨b', off, hp', fun j hj => ?_⟩
  rw [← hc j hj]
  have hv : (w.cell? ⟨b', off + j, none⟩) = _ := hc j hj
  have hlt : b' < w.heap.size := by
   exact cell_lt (a := ⟨b', off + j, none⟩) hv
  have hne : b' ≠ b := by have := hf _ hp'; have : b + 1 ≤ b' := this; omega
  have := setCell_keep (i := i) (v := v) hlt hne
  unfold World.cell?
  simp only [this]
theorem RdE.set {α : Type} {E : El α} {w : World} {p : Option Addr} {l : List α} (h : RdE E w p l) {b i : Nat} {v : Value} (hf : FarP (b + 1) p) : RdE E (w.setCell ⟨b, i, none⟩ v) p l :=
 h.same (grown_cell w b i v).size fun a ha hlt => setCell_keep hlt (by have := hf _ ha; have : b + 1 ≤ a.block := this; omega)
theorem UI.setRow {w : World} {p : Option Addr} {n : Nat} {xs : List Int} (h : UI w p n xs) {b : Nat} {cs : Array Value} (hf : FarP (b + 1) p) : UI (w.setRow b cs) p n xs := by
 refine ⟨h.len, ?_, h.bd⟩
 rcases h.rd with h1 | ⟨b', off, hp', hc⟩
 ·exact .inl h1
 ·refine .inr ⟨b', off, hp', fun j hj => ?_⟩
  rw [← hc j hj]
  have hne : b' ≠ b := by have := hf _ hp'; have : b + 1 ≤ b' := this; omega
  have := setRow_other w b b' cs hne
  unfold World.cell?
  simp only [this]
theorem RdE.setRow {α : Type} {E : El α} {w : World} {p : Option Addr} {l : List α} (h : RdE E w p l) {b : Nat} {cs : Array Value} (hf : FarP (b + 1) p) : RdE E (w.setRow b cs) p l :=
 h.same (by simp [World.setRow]) fun a ha _ => setRow_other w b a.block cs (by have := hf _ ha; have : b + 1 ≤ a.block := this; omega)
theorem UL.set {w : World} {p : Option Addr} {n : Nat} {xs : List Int} (h : UL w p n xs) {b i : Nat} {v : Value} (hf : FarP (b + 1) p) : UL (w.setCell ⟨b, i, none⟩ v) p n xs := ⟨h.u.set hf, fun q e => Nat.lt_of_lt_of_le (h.lt q e) (grown_cell w b i v).size⟩
theorem UL.setRow {w : World} {p : Option Addr} {n : Nat} {xs : List Int} (h : UL w p n xs) {b : Nat} {cs : Array Value} (hf : FarP (b + 1) p) : UL (w.setRow b cs) p n xs := ⟨h.u.setRow hf, fun q e => Nat.lt_of_lt_of_le (h.lt q e) (by simp [World.setRow])⟩
theorem RL.set {α : Type} {E : El α} {w : World} {p : Option Addr} {l : List α} (h : RL E w p l) {b i : Nat} {v : Value} (hf : FarP (b + 1) p) : RL E (w.setCell ⟨b, i, none⟩ v) p l := ⟨h.r.set hf, fun q e => Nat.lt_of_lt_of_le (h.lt q e) (grown_cell w b i v).size⟩
theorem RL.setRow {α : Type} {E : El α} {w : World} {p : Option Addr} {l : List α} (h : RL E w p l) {b : Nat} {cs : Array Value} (hf : FarP (b + 1) p) : RL E (w.setRow b cs) p l := ⟨h.r.setRow hf, fun q e => Nat.lt_of_lt_of_le (h.lt q e) (by simp [World.setRow])⟩
theorem FarP.mono {B B' : Nat} {p : Option Addr} (h : FarP B p) (hB : B' ≤ B) : FarP B' p := fun a ha => Nat.le_trans hB (h a ha)
section
variable {w : World} {b : Nat} {a : RfV} {s : RS} {nv : Nat}
theorem RfBox.free (h : RfBox w b a s nv) (i : Nat) : w.frozen? ⟨b, i, none⟩ = false := by
 have h : w.heap[b]? = _ := h
 simp [World.frozen?, h]
theorem RfBox.setI (h : RfBox w b a s nv) {p : Option Addr} {c n : Nat} {xs : List Int} (hn : xs.length = n) : RfBox (w.setCell ⟨b, 1, none⟩ (.slice p n c)) b { a with pi := p, ci := c } ⟨xs, s.gone, s.ms, s.bk⟩ nv := by
 subst hn; exact setCell_blk h 1 _
theorem RfBox.setG (h : RfBox w b a s nv) {p : Option Addr} {c n : Nat} {xs : List Int} (hn : xs.length = n) : RfBox (w.setCell ⟨b, 2, none⟩ (.slice p n c)) b { a with pg := p, cg := c } ⟨s.ins, xs, s.ms, s.bk⟩ nv := by
 subst hn; exact setCell_blk h 2 _
theorem RfBox.setL (h : RfBox w b a s nv) {p : Option Addr} {c n : Nat} {xs : List (Int × Mb)} (hn : xs.length = n) : RfBox (w.setCell ⟨b, 3, none⟩ (.slice p n c)) b { a with pl := p, cl := c } ⟨s.ins, s.gone, xs, s.bk⟩ nv := by
 subst hn; exact setCell_blk h 3 _
theorem RfBox.setB (h : RfBox w b a s nv) (k : Int) : RfBox (w.setCell ⟨b, 4, none⟩ (.int .i64 k)) b a ⟨s.ins, s.gone, s.ms, k⟩ nv := setCell_blk h 4 _
theorem RfBox.setV (h : RfBox w b a s nv) {p : Option Addr} {c n : Nat} : RfBox (w.setCell ⟨b, 5, none⟩ (.slice p n c)) b { a with pv := p, cv := c } s n := setCell_blk h 5 _
theorem RfBox.keep {w' : World} (h : RfBox w b a s nv) (hb : w'.heap[b]? = w.heap[b]?) : RfBox w' b a s nv := hb.trans h
end
/-- The variable of the result. -/
def ZBox (w : World) (b : Nat) : Prop := w.heap[b]? = some (.cells rZ 60 (0, 0))
theorem ZBox.made (w : World) : ZBox (w.alloc (.cells rZ 60)) w.heap.size := World.alloc_heap_new w _
theorem ZBox.below {w w' : World} {b : Nat} (h : ZBox w b) (hb : Below w.heap.size w w') : ZBox w' b := (hb.block b (blk_lt h)).trans h
theorem ZBox.keep {w w' : World} {b : Nat} (h : ZBox w b) (hb : w'.heap[b]? = w.heap[b]?) : ZBox w' b := hb.trans h
theorem comes_eq {s : RS} {d r : Int} (hf : s.fresh d = true) : s.comes d r = ⟨s.ins ++ [d], s.gone, if (s.memb (ofD d)).isSome = true then s.ms else s.ms ++ [(ofD d, ⟨r, none⟩)], s.bk⟩ := if_pos hf
end Go.Proofs.YtkolilbebkkpdaaDoor

namespace Go.Proofs.YtkolilbebkkpdaaDoor
open Go.RowKit Go.Maps Go.BigFrame
attribute [local go_sem] in_gr

set_option maxRecDepth 100000 in
set_option maxHeartbeats 8000000 in
theorem comesR_any (P : Nat → Prop) (w : World) (a : RfV) (s : RS) (L : List ME) (vs : List VI) (d r : Int) (kk : Nat) (hR : RfAt w a s L vs) (hs : s.Ok kk) (hI : RfIn P a L) (hN : ∀ b, w.heap.size ≤ b → P b) :
  Calls Tryd.prog 52 #[.agg (rfC a s vs.length), .int .i64 d, .int .i64 r] w fun e w' => ∃ a' L', e = .returned (.agg (rfC a' (s.comes d r) vs.length)) ∧ RfAt w' a' (s.comes d r) L' vs ∧ RfIn P a' L' ∧ Below w.heap.size w w' := by
 have hfw := hs.few
 rw [List.length_append] at hfw
 have hfm := hs.fewM
 have hbx := Below.lit w (.cells (rfC a s vs.length) 60)
 have hRb := hR.below hbx
 have hBx := RfBox.made w a s vs.length
 obtain ⟨wb, hwb, hBx⟩ := nameW (p := fun W => RfBox W w.heap.size a s vs.length) hBx
 rw [hwb.out] at hbx hRb
 obtain ⟨bx, hbxn⟩ : ∃ bx, Hid (w.heap.size = bx) := ⟨_, Lib.hid rfl⟩
 rw [hbxn.out] at hBx
 have hbzl := Below.lit wb (.cells rZ 60)
 obtain ⟨wz, hwz, hZ⟩ := nameW (p := fun W => ZBox W wb.heap.size) (ZBox.made wb)
 rw [hwz.out] at hbzl
 have hbz0 : w.heap.size ≤ wb.heap.size := hbx.size
 have hbx0 : w.heap.size ≤ w.heap.size := Nat.le_refl _
 have hbzx : wb.heap.size ≠ w.heap.size := by rw [← hwb.out]; simp
 rw [hbxn.out] at hbzx
 replace hbx0 : w.heap.size ≤ bx := by rw [← hbxn.out]; exact hbx0
 obtain ⟨bz, hbzn⟩ : ∃ bz, Hid (wb.heap.size = bz) := ⟨_, Lib.hid rfl⟩
 rw [hbzn.out] at hZ hbz0 hbzx
 replace hBx := hBx.below hbzl
 have hRz := hRb.below hbzl
 have hB := hbx.trans (hbzl.mono hbx.size)
 clear hbzl hRb
 obtain ⟨x, hx⟩ : ∃ x, Hid (s.fresh d = x) := ⟨_, Lib.hid rfl⟩
 go_enter Tryd.func52, Tryd.ntmps52
 go_upto_region 1 with (first | (rw [hwb.out]) | (rw [hwz.out]) | (refine wpL_allocT 60 rZ rfl rfl (zero_R _) ?_; simp only [Act.put, List.setIfInBounds_toArray, List.set_cons_succ, List.set_cons_zero]) | fail)
 rw [hbxn.out, hbzn.out]
 go_wp2_with (first
  | (refine wpList_load_row rfl 60 _ rfl bx rfl 60 (rfC a s vs.length) (0, 0) _ hBx Tryd.underlying60 rfl (by kernel_rfl) ?_)
  | fail)
 refine (freshR_any wz a s L vs d hRz (by rw [List.length_append]; omega)).mono ?_
 rintro e w1 ⟨rfl, hb1⟩
 rw [hx.out]
 replace hBx := hBx.below hb1
 replace hZ := hZ.below hb1
 replace hB := hB.trans (hb1.mono hB.size)
 cases x with
 | false =>
  have hst : Hid (s.comes d r = s) := Lib.hid (by unfold RS.comes; rw [if_neg (by rw [hx.out]; simp)])
  go_wp2_with (first
   | (refine wpList_load_row rfl 60 _ rfl bx rfl 60 (rfC a s vs.length) (0, 0) _ hBx Tryd.underlying60 rfl (by kernel_rfl) ?_)
   | (refine wpList_store_row rfl 60 _ _ rfl bz (rfC a s vs.length) rfl rfl 60 rZ hZ (rfC_info _ _ _) rfl (rfC_one _ _ _) ?_)
   | fail)
  refine bodyPost_ret (v := .agg (rfC a s vs.length)) ?_ rfl ?_
  ·exact results_cell_row rfl _ _ bz 60 _ (0, 0) _ rfl (setRow_heap _ _ _ _ _ _ hZ) Tryd.underlying60 rfl (rfC_info _ _ _)
  ·have hBf := belowSetRow (cs := rfC a s vs.length) hB hbz0
   rw [hst.out]
   exact ⟨a, L, rfl, hR.below hBf, hI, hBf⟩
 | true =>
  have hst := comes_eq (r := r) hx.out
  have hfd := hx.out
  unfold RS.fresh at hfd
  rw [Bool.and_eq_true, decide_eq_true_eq] at hfd
  have hd7 := ofD_pos hfd.1
  have hdb : -9223372036854775808 ≤ d ∧ d ≤ 9223372036854775807 := by omega
  clear hfd
  obtain ⟨m, hm⟩ : ∃ m, Hid (ofD d = m) := ⟨_, Lib.hid rfl⟩
  rw [hm.out] at hst
  have z1 := hBx.c1
  have he := OwnI.empty w1
  have hbe := Below.lit w1 (.cells #[] 3)
  obtain ⟨we, hwe, he⟩ := nameW (p := fun W => OwnI W w1.heap.size (.slice (some ⟨w1.heap.size, 0, none⟩) 0 0) 0 []) he
  rw [hwe.out] at hbe
  have z1e := (hbe.cell (cell_lt z1)).trans z1
  have hBe := hB.trans (hbe.mono hB.size)
  have hRe := hR.below hBe
  have hins := hRe.ins
  have hinz := hRe.nz.1
  have hxe := hBx.below hbe
  have hze := hZ.below hbe
  have hzz : w1.heap.size ≤ we.heap.size := hbe.size
  have hbxl : bx < w1.heap.size := blk_lt hBx
  have hbzl : bz < w1.heap.size := blk_lt hZ
  obtain ⟨n, hn⟩ : ∃ n, Hid (s.ins.length = n) := ⟨_, Lib.hid rfl⟩
  rw [hn.out] at z1e z1 hins hfw
  replace hst := Lib.hid hst
  replace hx := Lib.hid hx
  replace hd7 := Lib.hid hd7
  go_upto_region 5 with (first
   | (rw [hwe.out])
   | (at_builtin; refine app_manyI rfl _ _ rfl he rfl rfl hins hinz (by omega) hzz ?_; intro v4 W4 hown4 hb4; rw [Nat.zero_add, List.nil_append] at hown4; have hz4 := Nat.le_trans hzz hb4.size)
   | (at_builtin; refine app_i rfl _ _ rfl hown4 rfl rfl hdb (by omega) hz4 ?_; intro v5 W5 hown5 hb5; have hb45 := hb4.trans hb5; have hx5 := hxe.keep (hb45.block bx hbxl); have hz5 := hze.keep (hb45.block bz hbzl); have y1 := hx5.c1; rw [hn.out] at y1; have f1 := hx5.free 1; obtain ⟨p5, c5, rfl, hnc5, hu5, hf5, hnz5⟩ := hown5.u2; obtain ⟨W6, hW6, hbox6⟩ := nameW (p := fun W => RfBox W bx { a with pi := p5, ci := c5 } ⟨s.ins ++ [d], s.gone, s.ms, s.bk⟩ vs.length) (hx5.setI (p := p5) (c := c5) (n := n + 1) (by rw [List.length_append, hn.out]; rfl)))
   | (rw [hW6.out])
   | fail)
  have hbw1 : w.heap.size ≤ w1.heap.size := hB.size
  have hB5 : Below w.heap.size w W5 := hBe.trans (hb45.mono hbw1)
  have hB6 : Below w.heap.size w W6 := by rw [← hW6.out]; exact hB5.trans (setCell_below hbx0 hB5.size)
  have hu6 : UL W6 p5 (n + 1) (s.ins ++ [d]) := by rw [← hW6.out]; exact hu5.set (hf5.mono hbxl)
  have hz6 : ZBox W6 bz := by rw [← hW6.out]; exact hz5.keep (setCell_keep (blk_lt hz5) hbzx)
  have hR6 : RfAt W6 { a with pi := p5, ci := c5 } ⟨s.ins ++ [d], s.gone, s.ms, s.bk⟩ L vs := (hR.below hB6).withIns (by rw [show (s.ins ++ [d]).length = n + 1 by rw [List.length_append, hn.out]; rfl]; exact hu6) hnz5
  have hf6 : FarP w1.heap.size p5 := hf5
  clear hown4 hown5 hb4 hb5 hb45 hx5 hz5 y1 f1 hu5 he hbe hRe hins hxe hze z1e z1 hBx hZ
  replace hu6 := Lib.hid hu6
  go_wp2_with (first
   | (refine wpList_load_row rfl 60 _ rfl bx rfl 60 (rfC { a with pi := p5, ci := c5 } ⟨s.ins ++ [d], s.gone, s.ms, s.bk⟩ vs.length) (0, 0) _ hbox6 Tryd.underlying60 rfl (rfC_info _ _ _) ?_)
   | fail)
  refine (OfR_any W6 a.pc a.cc _ _ _ _ _ d hR6.cards).mono ?_
  rintro e w7 ⟨rfl, hb7⟩
  rw [hm.out]
  have hbox7 := hbox6.below hb7
  have hz7 := hz6.below hb7
  have hR7 := hR6.below hb7
  have hu7 := hu6.out.below hb7
  have hB7 := hB6.trans (hb7.mono hB6.size)
  clear hbox6 hz6 hR6 hu6 hb7
  replace hu7 := Lib.hid hu7
  go_wp2_with (first
   | (refine wpList_load_row rfl 60 _ rfl bx rfl 60 (rfC { a with pi := p5, ci := c5 } ⟨s.ins ++ [d], s.gone, s.ms, s.bk⟩ vs.length) (0, 0) _ hbox7 Tryd.underlying60 rfl (rfC_info _ _ _) ?_)
   | fail)
  refine (MemR_any w7 { a with pi := p5, ci := c5 } ⟨s.ins ++ [d], s.gone, s.ms, s.bk⟩ L vs m hR7 (by show s.ms.length ≤ 1000; omega)).mono ?_
  rintro e w8 ⟨rfl, hb8⟩
  have hbox8 := hbox7.below hb8
  have hz8 := hz7.below hb8
  have hR8 := hR7.below hb8
  have hu8 := hu7.out.below hb8
  have hB8 := hB7.trans (hb8.mono hB7.size)
  clear hbox7 hz7 hR7 hu7 hb8
  replace hu8 := Lib.hid hu8
  rcases memI_cases ⟨s.ins ++ [d], s.gone, s.ms, s.bk⟩ m with ⟨h1, h2⟩ | ⟨k, mb, h1, h2, h3⟩
  ·rw [h1]
   have hmn : s.memb m = none := h2
   have hst2 : Hid (s.comes d r = ⟨s.ins ++ [d], s.gone, s.ms ++ [(m, ⟨r, none⟩)], s.bk⟩) := Lib.hid (by rw [hst.out, hmn]; rfl)
   clear hmn
   replace h2 := Lib.hid h2
   have z3 : w8.cell? ⟨bx, 3, none⟩ = some (.slice a.pl s.ms.length a.cl) := hbox8.c3
   have he := OwnE.empty mE w8
   have hbe := Below.lit w8 (.cells #[] 108)
   obtain ⟨wf, hwf, he⟩ := nameW (p := fun W => OwnE mE W w8.heap.size (.slice (some ⟨w8.heap.size, 0, none⟩) 0 0) []) he
   rw [show mE.t = 108 from rfl] at hwf
   rw [hwf.out] at hbe
   have z3f := (hbe.cell (cell_lt z3)).trans z3
   have hlm : RdE mE wf a.pl L := hR8.lm.below hbe
   have hLl : L.length = s.ms.length := by have := congrArg List.length hR8.lq; rwa [List.length_map] at this
   have hlnz := hR8.nz.2.2.1
   have hxf := hbox8.below hbe
   have hzf := hz8.below hbe
   have hzz8 : w8.heap.size ≤ wf.heap.size := hbe.size
   have hbx8 : bx < w8.heap.size := blk_lt hbox8
   have hbz8 : bz < w8.heap.size := blk_lt hz8
   have huf := hu8.out.below hbe
   have hBf := hB8.trans (hbe.mono hB8.size)
   have hl0 : ([] : List ME).length + s.ms.length ≤ 1000000 := by simp; omega
   have hl1 : L.length ≤ 1000000 := by omega
   have hl2 : (L ++ [(((m, ⟨r, none⟩), none, 0) : ME)]).length = s.ms.length + 1 := by rw [List.length_append, hLl]; rfl
   have hy3 : (s.ms ++ [(m, (⟨r, none⟩ : Mb))]).length = s.ms.length + 1 := by rw [List.length_append]; rfl
   obtain ⟨nm, hnm⟩ : ∃ n, Hid (s.ms.length = n) := ⟨_, Lib.hid rfl⟩
   rw [hnm.out] at z3 z3f hLl hl0 hl2 hy3
   replace hl2 := Lib.hid hl2
   replace hy3 := Lib.hid hy3
   replace hR8 := Lib.hid hR8
   clear hbox8 hz8
   go_upto_region 8 with (first
    | (rw [hwf.out])
    | (at_builtin; refine app_manyE mE rfl _ _ rfl he rfl rfl hlm hLl hlnz hl0 hzz8 ?_; intro v4 W4 hown4 hb4; rw [List.nil_append] at hown4; have hz4 := Nat.le_trans hzz8 hb4.size)
    | (refine wpL_build rfl 108 #[(0, Operand.tmp 34), (1, Operand.tmp 35)] rfl (mC ((m, ⟨r, none⟩), none, 0)) (by kernel_rfl) ?_; simp only [Act.put, List.setIfInBounds_toArray, List.set_cons_succ, List.set_cons_zero])
    | (refine Go.Great.wpList_buildSliceTo rfl 57 108 1 _ rfl W4.heap.size rfl _ rfl Tryd.underlying57 (mC ((m, ⟨r, none⟩), none, 0)) (by kernel_rfl) ?_; simp only [Act.put, List.setIfInBounds_toArray, List.set_cons_succ, List.set_cons_zero])
    | (at_builtin; refine app_eb mE rfl _ _ rfl (y := ((m, ⟨r, none⟩), none, 0)) rfl hown4 rfl rfl hl1 hz4 ?_; intro v5 W5 hown5 hb5; have hb45 := hb4.trans hb5; have hx5 := hxf.keep (hb45.block bx hbx8); have hz5 := hzf.keep (hb45.block bz hbz8); have y3 : W5.cell? ⟨bx, 3, none⟩ = some (.slice a.pl s.ms.length a.cl) := hx5.c3; rw [hnm.out] at y3; have f3 := hx5.free 3; obtain ⟨q5, d5, rfl, hnd5, hr5, hg5, hmz5, _⟩ := hown5.u2; rw [hl2.out]; obtain ⟨W9, hW9, hbox9⟩ := nameW (p := fun W => RfBox W bx { a with pi := p5, ci := c5, pl := q5, cl := d5 } ⟨s.ins ++ [d], s.gone, s.ms ++ [(m, ⟨r, none⟩)], s.bk⟩ vs.length) (hx5.setL (p := q5) (c := d5) (n := nm + 1) hy3.out))
    | (rw [hW9.out])
    | fail)
   have hw08 : w.heap.size ≤ w8.heap.size := hB8.size
   have hB5 : Below w.heap.size w W5 := hBf.trans (hb45.mono hw08)
   have hB9 : Below w.heap.size w W9 := by rw [← hW9.out]; exact hB5.trans (setCell_below hbx0 hB5.size)
   have hu5 := hu8.out.below (hbe.trans hb45)
   have hu9 : UL W9 p5 (n + 1) (s.ins ++ [d]) := by rw [← hW9.out]; exact hu5.set (hf6.mono hbxl)
   have hr9 : RL mE W9 q5 (L ++ [((m, ⟨r, none⟩), none, 0)]) := by rw [← hW9.out]; exact hr5.set (hg5.mono hbx8)
   have hz9 : ZBox W9 bz := by rw [← hW9.out]; exact hz5.keep (setCell_keep (blk_lt hz5) hbzx)
   clear hxf hzf z3 z3f hlm huf hBf hown4 hown5 hb4 hb5 hb45 hx5 hz5 y3 f3 hu5 hr5 he hbe hu8
   go_wp2_with (first
    | (refine wpList_load_row rfl 60 _ rfl bx rfl 60 (rfC { a with pi := p5, ci := c5, pl := q5, cl := d5 } ⟨s.ins ++ [d], s.gone, s.ms ++ [(m, (⟨r, none⟩ : Mb))], s.bk⟩ vs.length) (0, 0) _ hbox9 Tryd.underlying60 rfl (rfC_info _ _ _) ?_)
    | (refine wpList_store_row rfl 60 _ _ rfl bz (rfC { a with pi := p5, ci := c5, pl := q5, cl := d5 } ⟨s.ins ++ [d], s.gone, s.ms ++ [(m, (⟨r, none⟩ : Mb))], s.bk⟩ vs.length) rfl rfl 60 rZ hz9 (rfC_info _ _ _) rfl (rfC_one _ _ _) ?_)
    | fail)
   refine bodyPost_ret (v := .agg (rfC { a with pi := p5, ci := c5, pl := q5, cl := d5 } ⟨s.ins ++ [d], s.gone, s.ms ++ [(m, (⟨r, none⟩ : Mb))], s.bk⟩ vs.length)) ?_ rfl ?_
   ·exact results_cell_row rfl _ _ bz 60 _ (0, 0) _ rfl (setRow_heap _ _ _ _ _ _ hz9) Tryd.underlying60 rfl (rfC_info _ _ _)
   ·obtain ⟨cs, hcs⟩ : ∃ cs, Hid (rfC { a with pi := p5, ci := c5, pl := q5, cl := d5 } ⟨s.ins ++ [d], s.gone, s.ms ++ [(m, ⟨r, none⟩)], s.bk⟩ vs.length = cs) := ⟨_, Lib.hid rfl⟩
    rw [hcs.out]
    have hBf := belowSetRow (cs := cs) hB9 hbz0
    have hRf := hR.below hBf
    have hIn : (s.ins ++ [d]).length = n + 1 := by rw [List.length_append, hn.out]; rfl
    have huf : UL (W9.setRow bz cs) p5 (s.ins ++ [d]).length (s.ins ++ [d]) := by rw [hIn]; exact hu9.setRow (hf6.mono hbzl)
    have hq : (L ++ [(((m, ⟨r, none⟩), none, 0) : ME)]).map Prod.fst = s.ms ++ [(m, ⟨r, none⟩)] := by rw [List.map_append, hR.lq]; rfl
    rw [hst2.out, ← hcs.out]
    refine ⟨{ a with pi := p5, ci := c5, pl := q5, cl := d5 }, L ++ [((m, ⟨r, none⟩), none, 0)], rfl, ?_, ?_, ?_⟩
    ·rw [hcs.out]
     refine (hRf.withIns huf hnz5).withL (hr9.setRow (hg5.mono hbz8)) hq hmz5 (fun x hx => ?_) hRf.vvL hRf.nz.2.2.2
     rcases List.mem_append.1 hx with hx | hx
     ·exact hRf.gsL x hx
     ·rw [List.mem_singleton] at hx
      subst hx
      exact ⟨⟨rfl, .nil, fun _ h => by cases h⟩, fun q e => by cases e⟩
    ·exact ⟨hI.pc, fun q e => hN _ (Nat.le_trans hbw1 (hf6 q e)), hI.pg, fun q e => hN _ (Nat.le_trans hw08 (hg5 q e)), hI.pv, fun x hx q e => by
      rcases List.mem_append.1 hx with hx | hx
      ·exact hI.gs x hx q e
      ·rw [List.mem_singleton] at hx
       subst hx
       cases e⟩
    ·rw [hcs.out]; exact hBf
  ·have hst2 : Hid (s.comes d r = ⟨s.ins ++ [d], s.gone, s.ms, s.bk⟩) := Lib.hid (by
    have h3' : s.memb m = some mb := h3
    rw [hst.out, h3']; rfl)
   rw [h1]
   have t2 : decide ((k : Int) < 0) = false := decide_eq_false (by omega)
   replace h2 := Lib.hid h2
   replace h3 := Lib.hid h3
   go_wp2_with (first
    | (refine wpList_load_row rfl 60 _ rfl bx rfl 60 (rfC { a with pi := p5, ci := c5 } ⟨s.ins ++ [d], s.gone, s.ms, s.bk⟩ vs.length) (0, 0) _ hbox8 Tryd.underlying60 rfl (rfC_info _ _ _) ?_)
    | (refine wpList_store_row rfl 60 _ _ rfl bz (rfC { a with pi := p5, ci := c5 } ⟨s.ins ++ [d], s.gone, s.ms, s.bk⟩ vs.length) rfl rfl 60 rZ hz8 (rfC_info _ _ _) rfl (rfC_one _ _ _) ?_)
    | fail)
   refine bodyPost_ret (v := .agg (rfC { a with pi := p5, ci := c5 } ⟨s.ins ++ [d], s.gone, s.ms, s.bk⟩ vs.length)) ?_ rfl ?_
   ·exact results_cell_row rfl _ _ bz 60 _ (0, 0) _ rfl (setRow_heap _ _ _ _ _ _ hz8) Tryd.underlying60 rfl (rfC_info _ _ _)
   ·obtain ⟨cs, hcs⟩ : ∃ cs, Hid (rfC { a with pi := p5, ci := c5 } ⟨s.ins ++ [d], s.gone, s.ms, s.bk⟩ vs.length = cs) := ⟨_, Lib.hid rfl⟩
    rw [hcs.out]
    have hBf := belowSetRow (cs := cs) hB8 hbz0
    have hIn : (s.ins ++ [d]).length = n + 1 := by rw [List.length_append, hn.out]; rfl
    have huf : UL (w8.setRow bz cs) p5 (s.ins ++ [d]).length (s.ins ++ [d]) := by rw [hIn]; exact hu8.out.setRow (hf6.mono hbzl)
    rw [hst2.out, ← hcs.out]
    refine ⟨{ a with pi := p5, ci := c5 }, L, rfl, ?_, ?_, ?_⟩
    ·rw [hcs.out]
     exact (hR.below hBf).withIns huf hnz5
    ·exact ⟨hI.pc, fun q e => hN _ (Nat.le_trans hbw1 (hf6 q e)), hI.pg, hI.pl, hI.pv, hI.gs⟩
    ·rw [hcs.out]; exact hBf
end Go.Proofs.YtkolilbebkkpdaaDoor

namespace Go.Proofs.YtkolilbebkkpdaaDoor
open Go.RowKit Go.Maps Go.BigFrame
attribute [local go_sem] in_gr

set_option maxRecDepth 100000 in
set_option maxHeartbeats 8000000 in
theorem MayR_1 (w : World) (a : RfV) (s : RS) (L : List ME) (vs : List VI) (o : OpI) (gp : Option Addr) (gc : Nat) (i : Idn) (kk : Nat) (hR : RfAt w a s L vs) (_hV : VsOk s vs) (hs : s.Ok kk) (_hkk : kk ≤ 1000) (hk : o.k = 1) :
  Calls Tryd.prog 28 #[.agg (rfC a s vs.length), .agg (opC o gp gc), .agg #[.int .i64 i.b, .int .i64 i.s, .int .u64 i.u]] w fun e w' => e = .returned (.int .i64 (s.may o)) ∧ Below w.heap.size w w' := by
 have hbx := Below.lit w (.cells (rfC a s vs.length) 60)
 have hRb := hR.below hbx
 have hBx := RfBox.made w a s vs.length
 obtain ⟨wb, hwb, hBx⟩ := nameW (p := fun W => RfBox W w.heap.size a s vs.length) hBx
 rw [hwb.out] at hbx hRb
 obtain ⟨bx, hbxn⟩ : ∃ bx, Hid (w.heap.size = bx) := ⟨_, Lib.hid rfl⟩
 rw [hbxn.out] at hBx
 have hbo := Below.lit wb (.cells (opC o gp gc) 42)
 have hOo := OpAt.made wb o gp gc
 obtain ⟨wo, hwo, hOo⟩ := nameW (p := fun W => OpAt W wb.heap.size o gp gc) hOo
 rw [hwo.out] at hbo
 obtain ⟨bo, hbon⟩ : ∃ bo, Hid (wb.heap.size = bo) := ⟨_, Lib.hid rfl⟩
 rw [hbon.out] at hOo
 have hC : RCtx wo bx bo a s L vs o gp gc := ⟨hRb.below hbo, hBx.below hbo, hOo⟩
 have hB := hbx.trans (hbo.mono hbx.size)
 clear hRb hBx hOo hbo hbx
 have hbi := Below.lit wo (.cells #[.int .i64 i.b, .int .i64 i.s, .int .u64 i.u] 34)
 obtain ⟨wi, hwi, hIi⟩ := nameW (p := fun W => IdAt W wo.heap.size i) (IdAt.made wo i)
 rw [hwi.out] at hbi
 obtain ⟨bi, hbin⟩ : ∃ bi, Hid (wo.heap.size = bi) := ⟨_, Lib.hid rfl⟩
 rw [hbin.out] at hIi
 replace hC := hC.below hbi
 replace hB := hB.trans (hbi.mono hB.size)
 clear hIi hbi
 obtain ⟨r, hr⟩ : ∃ r, Hid (s.may o = r) := ⟨_, Lib.hid rfl⟩
 rw [hr.out]
 have hfw := hs.few
 rw [List.length_append] at hfw
 have hfm := hs.fewM
 have zk := hC.op.ck
 rw [hk] at zk
 have zb := hC.op.cb
 have z1 := hC.box.c1
 go_enter Tryd.func28, Tryd.ntmps28
 go_upto_region 1 with (first | (rw [hwb.out]) | (rw [hwo.out]) | (rw [hwi.out]) | fail)
 rw [hbxn.out, hbon.out, hbin.out]
 go_wp2_with (first
  | (refine wpList_load_row rfl 60 _ rfl bx rfl 60 (rfC a s vs.length) (0, 0) _ hC.box Tryd.underlying60 rfl (by kernel_rfl) ?_)
  | fail)
 refine (OfR_any _ a.pc a.cc _ _ _ _ _ o.b hC.rf.cards).mono ?_
 rintro e w1_ ⟨rfl, hb_⟩
 replace hC := hC.below hb_
 replace hB := hB.trans (hb_.mono hB.size)
 clear hb_
 have zk := hC.op.ck
 rw [hk] at zk
 have zb := hC.op.cb
 have z1 := hC.box.c1
 obtain ⟨m, hm⟩ : ∃ m, Hid (ofD o.b = m) := ⟨_, Lib.hid rfl⟩
 rw [hm.out]
 have hmay : Hid (r = if m = 0 then 17 else if s.ins ++ s.gone ≠ [] then 5 else 0) := Lib.hid (by rw [← hr.out, ← hm.out]; unfold RS.may; rw [if_pos hk])
 have z2 := hC.box.c2
 by_cases hm0 : m = 0
 ·have t5 : (m == 0) = true := beq_iff_eq.2 hm0
  have hq : Hid (r = 17) := Lib.hid (by rw [hmay.out, if_pos hm0])
  replace hm0 := Lib.hid hm0
  go_wp2_with fail
  go_ret
  exact ⟨ret_int hq.out.symm, hB⟩
 ·have t5 : (m == 0) = false := beq_eq_false_iff_ne.2 hm0
  rw [if_neg hm0] at hmay
  replace hm0 := Lib.hid hm0
  obtain ⟨n1, hn1⟩ : ∃ n, Hid (s.ins.length = n) := ⟨_, Lib.hid rfl⟩
  obtain ⟨n2, hn2⟩ : ∃ n, Hid (s.gone.length = n) := ⟨_, Lib.hid rfl⟩
  rw [hn1.out] at z1
  rw [hn2.out] at z2
  by_cases h1 : n1 = 0
  ·skip
   subst h1
   by_cases h2 : n2 = 0
   ·subst h2
    have hq : Hid (r = 0) := Lib.hid (by rw [hmay.out, if_neg]; intro h; exact h (by rw [List.eq_nil_of_length_eq_zero hn1.out, List.eq_nil_of_length_eq_zero hn2.out]; rfl))
    go_wp2_with fail
    go_ret
    exact ⟨ret_int hq.out.symm, hB⟩
   ·have t6 : decide ((0 : Int) < (n2 : Int)) = true := decide_eq_true (by omega)
    have t7 : decide (0 < n2) = true := decide_eq_true (by omega)
    have hq : Hid (r = 5) := Lib.hid (by rw [hmay.out, if_pos]; intro h; rw [List.append_eq_nil_iff] at h; exact h2 (by rw [← hn2.out, h.2]; rfl))
    replace h2 := Lib.hid h2
    go_wp2_with fail
    go_ret
    exact ⟨ret_int hq.out.symm, hB⟩
  ·have t6 : decide ((0 : Int) < (n1 : Int)) = true := decide_eq_true (by omega)
   have t7 : decide (0 < n1) = true := decide_eq_true (by omega)
   have hq : Hid (r = 5) := Lib.hid (by rw [hmay.out, if_pos]; intro h; rw [List.append_eq_nil_iff] at h; exact h1 (by rw [← hn1.out, h.1]; rfl))
   replace h1 := Lib.hid h1
   go_wp2_with fail
   go_ret
   exact ⟨ret_int hq.out.symm, hB⟩
set_option maxRecDepth 100000 in
set_option maxHeartbeats 8000000 in
theorem MayR_2 (w : World) (a : RfV) (s : RS) (L : List ME) (vs : List VI) (o : OpI) (gp : Option Addr) (gc : Nat) (i : Idn) (kk : Nat) (hR : RfAt w a s L vs) (_hV : VsOk s vs) (hs : s.Ok kk) (_hkk : kk ≤ 1000) (hk : o.k = 2) :
  Calls Tryd.prog 28 #[.agg (rfC a s vs.length), .agg (opC o gp gc), .agg #[.int .i64 i.b, .int .i64 i.s, .int .u64 i.u]] w fun e w' => e = .returned (.int .i64 (s.may o)) ∧ Below w.heap.size w w' := by
 have hbx := Below.lit w (.cells (rfC a s vs.length) 60)
 have hRb := hR.below hbx
 have hBx := RfBox.made w a s vs.length
 obtain ⟨wb, hwb, hBx⟩ := nameW (p := fun W => RfBox W w.heap.size a s vs.length) hBx
 rw [hwb.out] at hbx hRb
 obtain ⟨bx, hbxn⟩ : ∃ bx, Hid (w.heap.size = bx) := ⟨_, Lib.hid rfl⟩
 rw [hbxn.out] at hBx
 have hbo := Below.lit wb (.cells (opC o gp gc) 42)
 have hOo := OpAt.made wb o gp gc
 obtain ⟨wo, hwo, hOo⟩ := nameW (p := fun W => OpAt W wb.heap.size o gp gc) hOo
 rw [hwo.out] at hbo
 obtain ⟨bo, hbon⟩ : ∃ bo, Hid (wb.heap.size = bo) := ⟨_, Lib.hid rfl⟩
 rw [hbon.out] at hOo
 have hC : RCtx wo bx bo a s L vs o gp gc := ⟨hRb.below hbo, hBx.below hbo, hOo⟩
 have hB := hbx.trans (hbo.mono hbx.size)
 clear hRb hBx hOo hbo hbx
 have hbi := Below.lit wo (.cells #[.int .i64 i.b, .int .i64 i.s, .int .u64 i.u] 34)
 obtain ⟨wi, hwi, hIi⟩ := nameW (p := fun W => IdAt W wo.heap.size i) (IdAt.made wo i)
 rw [hwi.out] at hbi
 obtain ⟨bi, hbin⟩ : ∃ bi, Hid (wo.heap.size = bi) := ⟨_, Lib.hid rfl⟩
 rw [hbin.out] at hIi
 replace hC := hC.below hbi
 replace hB := hB.trans (hbi.mono hB.size)
 clear hIi hbi
 obtain ⟨r, hr⟩ : ∃ r, Hid (s.may o = r) := ⟨_, Lib.hid rfl⟩
 rw [hr.out]
 have hfw := hs.few
 rw [List.length_append] at hfw
 have hfm := hs.fewM
 have zk := hC.op.ck
 rw [hk] at zk
 have zb := hC.op.cb
 have z1 := hC.box.c1
 have zd := hC.op.cd
 go_enter Tryd.func28, Tryd.ntmps28
 go_upto_region 1 with (first | (rw [hwb.out]) | (rw [hwo.out]) | (rw [hwi.out]) | fail)
 rw [hbxn.out, hbon.out, hbin.out]
 go_wp2_with (first
  | (refine wpList_load_row rfl 60 _ rfl bx rfl 60 (rfC a s vs.length) (0, 0) _ hC.box Tryd.underlying60 rfl (by kernel_rfl) ?_)
  | fail)
 refine (OfR_any _ a.pc a.cc _ _ _ _ _ o.b hC.rf.cards).mono ?_
 rintro e w1_ ⟨rfl, hb_⟩
 replace hC := hC.below hb_
 replace hB := hB.trans (hb_.mono hB.size)
 clear hb_
 have zk := hC.op.ck
 rw [hk] at zk
 have zb := hC.op.cb
 have z1 := hC.box.c1
 have zd := hC.op.cd
 obtain ⟨m, hm⟩ : ∃ m, Hid (ofD o.b = m) := ⟨_, Lib.hid rfl⟩
 rw [hm.out]
 obtain ⟨xi, hxi⟩ : ∃ xi, Hid (decide (o.b ∈ s.ins) = xi) := ⟨_, Lib.hid rfl⟩
 have hmay : Hid (r = if s.inB o.b = false then 15 else s.ask o m) := Lib.hid (by rw [← hr.out, ← hm.out]; unfold RS.may; rw [if_neg (by rw [hk]; decide)])
 go_wp2_with fail
 refine (HasL_any a.pi s.ins.length s.ins a.ci o.b _ hC.rf.ins (by omega)).mono ?_
 rintro e _ ⟨rfl, rfl⟩
 rw [hxi.out]
 cases xi with
 | false =>
  have hq : Hid (r = 15) := Lib.hid (by rw [hmay.out, if_pos (show s.inB o.b = false from hxi.out)])
  go_wp2_with fail
  go_ret
  exact ⟨ret_int hq.out.symm, hB⟩
 | true =>
  have hask : Hid (r = s.askAdd o m) := Lib.hid (by rw [hmay.out, if_neg (by rw [show s.inB o.b = true from hxi.out]; simp)]; unfold RS.ask; rw [if_pos hk])
  go_upto_region 10 with fail
  go_wp2_with (first
   | (refine wpList_load_row rfl 60 _ rfl bx rfl 60 (rfC a s vs.length) (0, 0) _ hC.box Tryd.underlying60 rfl (by kernel_rfl) ?_)
   | fail)
  refine (RoleR_any _ a s L vs m hC.rf (by omega)).mono ?_
  rintro e w3_ ⟨rfl, hb_⟩
  replace hC := hC.below hb_
  replace hB := hB.trans (hb_.mono hB.size)
  clear hb_
  have zk := hC.op.ck
  rw [hk] at zk
  have zb := hC.op.cb
  have z1 := hC.box.c1
  have zd := hC.op.cd
  obtain ⟨rl, hrl⟩ : ∃ rl, Hid (s.role m = rl) := ⟨_, Lib.hid rfl⟩
  rw [hrl.out]
  obtain ⟨ru, hru⟩ : ∃ ru, (rl == 3) = ru := ⟨_, rfl⟩
  have hrules : Hid (s.rules m = ru) := Lib.hid (by unfold RS.rules; rw [hrl.out, ← hru]; rfl)
  obtain ⟨xf, hxf⟩ : ∃ xf, Hid (s.fresh o.d = xf) := ⟨_, Lib.hid rfl⟩
  go_upto_region 13 with fail
  go_wp2_with (first
   | (refine wpList_load_row rfl 60 _ rfl bx rfl 60 (rfC a s vs.length) (0, 0) _ hC.box Tryd.underlying60 rfl (by kernel_rfl) ?_)
   | fail)
  refine (freshR_any _ a s L vs o.d hC.rf (by rw [List.length_append]; omega)).mono ?_
  rintro e w4_ ⟨rfl, hb_⟩
  replace hC := hC.below hb_
  replace hB := hB.trans (hb_.mono hB.size)
  clear hb_
  have zk := hC.op.ck
  rw [hk] at zk
  have zb := hC.op.cb
  have z1 := hC.box.c1
  have zd := hC.op.cd
  rw [hxf.out]
  cases xf with
  | false =>
   have hq : Hid (r = 17) := Lib.hid (by rw [hask.out]; unfold RS.askAdd; rw [if_pos hxf.out])
   go_wp2_with fail
   go_ret
   exact ⟨ret_int hq.out.symm, hB⟩
  | true =>
   obtain ⟨od, hod⟩ : ∃ od, Hid (ofD o.d = od) := ⟨_, Lib.hid rfl⟩
   cases ru with
   | true =>
    have hq : Hid (r = 0) := Lib.hid (by rw [hask.out]; unfold RS.askAdd; rw [if_neg (by rw [hxf.out]; simp), if_neg (fun h => by rw [hrules.out] at h; cases h.1)])
    go_wp2_with fail
    go_ret
    exact ⟨ret_int hq.out.symm, hB⟩
   | false =>
    go_upto_region 16 with fail
    go_wp2_with (first
     | (refine wpL_loadRG _ rfl bx rfl hC.box (by kernel_rfl) ?_)
     | fail)
    refine (OfR_any _ a.pc a.cc _ _ _ _ _ o.d hC.rf.cards).mono ?_
    rintro e w5_ ⟨rfl, hb_⟩
    replace hC := hC.below hb_
    replace hB := hB.trans (hb_.mono hB.size)
    clear hb_
    have zk := hC.op.ck
    rw [hk] at zk
    have zb := hC.op.cb
    have z1 := hC.box.c1
    have zd := hC.op.cd
    rw [hod.out]
    by_cases hde : od = m
    ·have t6 : (od != m) = false := by rw [hde]; exact bne_self_eq_false _
     replace hde := Lib.hid hde
     have hq : Hid (r = 0) := Lib.hid (by rw [hask.out]; unfold RS.askAdd; rw [if_neg (by rw [hxf.out]; simp), if_neg (fun h => h.2 (by rw [hod.out]; exact hde.out))])
     go_wp2_with fail
     go_ret
     exact ⟨ret_int hq.out.symm, hB⟩
    ·have t6 : (od != m) = true := bne_iff_ne.2 hde
     replace hde := Lib.hid hde
     have hq : Hid (r = 14) := Lib.hid (by rw [hask.out]; unfold RS.askAdd; rw [if_neg (by rw [hxf.out]; simp), if_pos ⟨hrules.out, by rw [hod.out]; exact hde.out⟩])
     go_wp2_with fail
     go_ret
     exact ⟨ret_int hq.out.symm, hB⟩
set_option maxRecDepth 100000 in
set_option maxHeartbeats 8000000 in
theorem MayR_3 (w : World) (a : RfV) (s : RS) (L : List ME) (vs : List VI) (o : OpI) (gp : Option Addr) (gc : Nat) (i : Idn) (kk : Nat) (hR : RfAt w a s L vs) (_hV : VsOk s vs) (hs : s.Ok kk) (_hkk : kk ≤ 1000) (hk : o.k = 3) :
  Calls Tryd.prog 28 #[.agg (rfC a s vs.length), .agg (opC o gp gc), .agg #[.int .i64 i.b, .int .i64 i.s, .int .u64 i.u]] w fun e w' => e = .returned (.int .i64 (s.may o)) ∧ Below w.heap.size w w' := by
 have hbx := Below.lit w (.cells (rfC a s vs.length) 60)
 have hRb := hR.below hbx
 have hBx := RfBox.made w a s vs.length
 obtain ⟨wb, hwb, hBx⟩ := nameW (p := fun W => RfBox W w.heap.size a s vs.length) hBx
 rw [hwb.out] at hbx hRb
 obtain ⟨bx, hbxn⟩ : ∃ bx, Hid (w.heap.size = bx) := ⟨_, Lib.hid rfl⟩
 rw [hbxn.out] at hBx
 have hbo := Below.lit wb (.cells (opC o gp gc) 42)
 have hOo := OpAt.made wb o gp gc
 obtain ⟨wo, hwo, hOo⟩ := nameW (p := fun W => OpAt W wb.heap.size o gp gc) hOo
 rw [hwo.out] at hbo
 obtain ⟨bo, hbon⟩ : ∃ bo, Hid (wb.heap.size = bo) := ⟨_, Lib.hid rfl⟩
 rw [hbon.out] at hOo
 have hC : RCtx wo bx bo a s L vs o gp gc := ⟨hRb.below hbo, hBx.below hbo, hOo⟩
 have hB := hbx.trans (hbo.mono hbx.size)
 clear hRb hBx hOo hbo hbx
 have hbi := Below.lit wo (.cells #[.int .i64 i.b, .int .i64 i.s, .int .u64 i.u] 34)
 obtain ⟨wi, hwi, hIi⟩ := nameW (p := fun W => IdAt W wo.heap.size i) (IdAt.made wo i)
 rw [hwi.out] at hbi
 obtain ⟨bi, hbin⟩ : ∃ bi, Hid (wo.heap.size = bi) := ⟨_, Lib.hid rfl⟩
 rw [hbin.out] at hIi
 replace hC := hC.below hbi
 replace hB := hB.trans (hbi.mono hB.size)
 clear hIi hbi
 obtain ⟨r, hr⟩ : ∃ r, Hid (s.may o = r) := ⟨_, Lib.hid rfl⟩
 rw [hr.out]
 have hfw := hs.few
 rw [List.length_append] at hfw
 have hfm := hs.fewM
 have zk := hC.op.ck
 rw [hk] at zk
 have zb := hC.op.cb
 have z1 := hC.box.c1
 go_enter Tryd.func28, Tryd.ntmps28
 go_upto_region 1 with (first | (rw [hwb.out]) | (rw [hwo.out]) | (rw [hwi.out]) | fail)
 rw [hbxn.out, hbon.out, hbin.out]
 go_wp2_with (first
  | (refine wpList_load_row rfl 60 _ rfl bx rfl 60 (rfC a s vs.length) (0, 0) _ hC.box Tryd.underlying60 rfl (by kernel_rfl) ?_)
  | fail)
 refine (OfR_any _ a.pc a.cc _ _ _ _ _ o.b hC.rf.cards).mono ?_
 rintro e w1_ ⟨rfl, hb_⟩
 replace hC := hC.below hb_
 replace hB := hB.trans (hb_.mono hB.size)
 clear hb_
 have zk := hC.op.ck
 rw [hk] at zk
 have zb := hC.op.cb
 have z1 := hC.box.c1
 obtain ⟨m, hm⟩ : ∃ m, Hid (ofD o.b = m) := ⟨_, Lib.hid rfl⟩
 rw [hm.out]
 obtain ⟨xi, hxi⟩ : ∃ xi, Hid (decide (o.b ∈ s.ins) = xi) := ⟨_, Lib.hid rfl⟩
 have hmay : Hid (r = if s.inB o.b = false then 15 else s.ask o m) := Lib.hid (by rw [← hr.out, ← hm.out]; unfold RS.may; rw [if_neg (by rw [hk]; decide)])
 go_wp2_with fail
 refine (HasL_any a.pi s.ins.length s.ins a.ci o.b _ hC.rf.ins (by omega)).mono ?_
 rintro e _ ⟨rfl, rfl⟩
 rw [hxi.out]
 cases xi with
 | false =>
  have hq : Hid (r = 15) := Lib.hid (by rw [hmay.out, if_pos (show s.inB o.b = false from hxi.out)])
  go_wp2_with fail
  go_ret
  exact ⟨ret_int hq.out.symm, hB⟩
 | true =>
  have hask : Hid (r = s.askRemove o m) := Lib.hid (by rw [hmay.out, if_neg (by rw [show s.inB o.b = true from hxi.out]; simp)]; unfold RS.ask; rw [if_neg (by rw [hk]; decide), if_pos hk])
  go_upto_region 10 with fail
  go_wp2_with (first
   | (refine wpList_load_row rfl 60 _ rfl bx rfl 60 (rfC a s vs.length) (0, 0) _ hC.box Tryd.underlying60 rfl (by kernel_rfl) ?_)
   | fail)
  refine (RoleR_any _ a s L vs m hC.rf (by omega)).mono ?_
  rintro e w3_ ⟨rfl, hb_⟩
  replace hC := hC.below hb_
  replace hB := hB.trans (hb_.mono hB.size)
  clear hb_
  have zk := hC.op.ck
  rw [hk] at zk
  have zb := hC.op.cb
  have z1 := hC.box.c1
  obtain ⟨rl, hrl⟩ : ∃ rl, Hid (s.role m = rl) := ⟨_, Lib.hid rfl⟩
  rw [hrl.out]
  obtain ⟨ru, hru⟩ : ∃ ru, (rl == 3) = ru := ⟨_, rfl⟩
  have hrules : Hid (s.rules m = ru) := Lib.hid (by unfold RS.rules; rw [hrl.out, ← hru]; rfl)
  go_upto_region 19 with fail
  go_wp2_with (first
   | (refine wpList_load_row rfl 60 _ rfl bx rfl 60 (rfC a s vs.length) (0, 0) _ hC.box Tryd.underlying60 rfl (by kernel_rfl) ?_)
   | (refine wpList_load_row rfl 42 _ rfl bo rfl 42 (opC o gp gc) (0, 0) _ hC.op Tryd.underlying42 rfl (by kernel_rfl) ?_)
   | fail)
  refine (remR_any _ a s L vs o gp gc m ru kk hC.rf hs).mono ?_
  rintro e w4_ ⟨rfl, hb_⟩
  replace hC := hC.below hb_
  replace hB := hB.trans (hb_.mono hB.size)
  clear hb_
  have zk := hC.op.ck
  rw [hk] at zk
  have zb := hC.op.cb
  have z1 := hC.box.c1
  obtain ⟨rr, hrr⟩ : ∃ rr, Hid (remI s o m ru = rr) := ⟨_, Lib.hid rfl⟩
  rw [hrr.out]
  have hq : Hid (r = rr) := Lib.hid (by rw [hask.out]; rw [← hrr.out, ← hrules.out]; exact (remI_eq s o m).symm)
  go_wp2_with fail
  go_ret
  exact ⟨ret_int hq.out.symm, hB⟩
set_option maxRecDepth 100000 in
set_option maxHeartbeats 8000000 in
theorem MayR_5 (w : World) (a : RfV) (s : RS) (L : List ME) (vs : List VI) (o : OpI) (gp : Option Addr) (gc : Nat) (i : Idn) (kk : Nat) (hR : RfAt w a s L vs) (_hV : VsOk s vs) (hs : s.Ok kk) (_hkk : kk ≤ 1000) (hk : o.k = 5) :
  Calls Tryd.prog 28 #[.agg (rfC a s vs.length), .agg (opC o gp gc), .agg #[.int .i64 i.b, .int .i64 i.s, .int .u64 i.u]] w fun e w' => e = .returned (.int .i64 (s.may o)) ∧ Below w.heap.size w w' := by
 have hbx := Below.lit w (.cells (rfC a s vs.length) 60)
 have hRb := hR.below hbx
 have hBx := RfBox.made w a s vs.length
 obtain ⟨wb, hwb, hBx⟩ := nameW (p := fun W => RfBox W w.heap.size a s vs.length) hBx
 rw [hwb.out] at hbx hRb
 obtain ⟨bx, hbxn⟩ : ∃ bx, Hid (w.heap.size = bx) := ⟨_, Lib.hid rfl⟩
 rw [hbxn.out] at hBx
 have hbo := Below.lit wb (.cells (opC o gp gc) 42)
 have hOo := OpAt.made wb o gp gc
 obtain ⟨wo, hwo, hOo⟩ := nameW (p := fun W => OpAt W wb.heap.size o gp gc) hOo
 rw [hwo.out] at hbo
 obtain ⟨bo, hbon⟩ : ∃ bo, Hid (wb.heap.size = bo) := ⟨_, Lib.hid rfl⟩
 rw [hbon.out] at hOo
 have hC : RCtx wo bx bo a s L vs o gp gc := ⟨hRb.below hbo, hBx.below hbo, hOo⟩
 have hB := hbx.trans (hbo.mono hbx.size)
 clear hRb hBx hOo hbo hbx
 have hbi := Below.lit wo (.cells #[.int .i64 i.b, .int .i64 i.s, .int .u64 i.u] 34)
 obtain ⟨wi, hwi, hIi⟩ := nameW (p := fun W => IdAt W wo.heap.size i) (IdAt.made wo i)
 rw [hwi.out] at hbi
 obtain ⟨bi, hbin⟩ : ∃ bi, Hid (wo.heap.size = bi) := ⟨_, Lib.hid rfl⟩
 rw [hbin.out] at hIi
 replace hC := hC.below hbi
 replace hB := hB.trans (hbi.mono hB.size)
 clear hIi hbi
 obtain ⟨r, hr⟩ : ∃ r, Hid (s.may o = r) := ⟨_, Lib.hid rfl⟩
 rw [hr.out]
 have hfw := hs.few
 rw [List.length_append] at hfw
 have hfm := hs.fewM
 have zk := hC.op.ck
 rw [hk] at zk
 have zb := hC.op.cb
 have z1 := hC.box.c1
 have zm := hC.op.cm
 go_enter Tryd.func28, Tryd.ntmps28
 go_upto_region 1 with (first | (rw [hwb.out]) | (rw [hwo.out]) | (rw [hwi.out]) | fail)
 rw [hbxn.out, hbon.out, hbin.out]
 go_wp2_with (first
  | (refine wpList_load_row rfl 60 _ rfl bx rfl 60 (rfC a s vs.length) (0, 0) _ hC.box Tryd.underlying60 rfl (by kernel_rfl) ?_)
  | fail)
 refine (OfR_any _ a.pc a.cc _ _ _ _ _ o.b hC.rf.cards).mono ?_
 rintro e w1_ ⟨rfl, hb_⟩
 replace hC := hC.below hb_
 replace hB := hB.trans (hb_.mono hB.size)
 clear hb_
 have zk := hC.op.ck
 rw [hk] at zk
 have zb := hC.op.cb
 have z1 := hC.box.c1
 have zm := hC.op.cm
 obtain ⟨m, hm⟩ : ∃ m, Hid (ofD o.b = m) := ⟨_, Lib.hid rfl⟩
 rw [hm.out]
 obtain ⟨xi, hxi⟩ : ∃ xi, Hid (decide (o.b ∈ s.ins) = xi) := ⟨_, Lib.hid rfl⟩
 have hmay : Hid (r = if s.inB o.b = false then 15 else s.ask o m) := Lib.hid (by rw [← hr.out, ← hm.out]; unfold RS.may; rw [if_neg (by rw [hk]; decide)])
 go_wp2_with fail
 refine (HasL_any a.pi s.ins.length s.ins a.ci o.b _ hC.rf.ins (by omega)).mono ?_
 rintro e _ ⟨rfl, rfl⟩
 rw [hxi.out]
 cases xi with
 | false =>
  have hq : Hid (r = 15) := Lib.hid (by rw [hmay.out, if_pos (show s.inB o.b = false from hxi.out)])
  go_wp2_with fail
  go_ret
  exact ⟨ret_int hq.out.symm, hB⟩
 | true =>
  have hask : Hid (r = s.askPromote o m) := Lib.hid (by rw [hmay.out, if_neg (by rw [show s.inB o.b = true from hxi.out]; simp)]; unfold RS.ask; rw [if_neg (by rw [hk]; decide), if_neg (by rw [hk]; decide), if_pos hk])
  go_upto_region 10 with fail
  go_wp2_with (first
   | (refine wpList_load_row rfl 60 _ rfl bx rfl 60 (rfC a s vs.length) (0, 0) _ hC.box Tryd.underlying60 rfl (by kernel_rfl) ?_)
   | fail)
  refine (RoleR_any _ a s L vs m hC.rf (by omega)).mono ?_
  rintro e w3_ ⟨rfl, hb_⟩
  replace hC := hC.below hb_
  replace hB := hB.trans (hb_.mono hB.size)
  clear hb_
  have zk := hC.op.ck
  rw [hk] at zk
  have zb := hC.op.cb
  have z1 := hC.box.c1
  have zm := hC.op.cm
  obtain ⟨rl, hrl⟩ : ∃ rl, Hid (s.role m = rl) := ⟨_, Lib.hid rfl⟩
  rw [hrl.out]
  obtain ⟨ru, hru⟩ : ∃ ru, (rl == 3) = ru := ⟨_, rfl⟩
  have hrules : Hid (s.rules m = ru) := Lib.hid (by unfold RS.rules; rw [hrl.out, ← hru]; rfl)
  cases ru with
  | false =>
   have hq : Hid (r = 14) := Lib.hid (by rw [hask.out]; unfold RS.askPromote; rw [if_pos hrules.out])
   go_wp2_with fail
   go_ret
   exact ⟨ret_int hq.out.symm, hB⟩
  | true =>
   go_upto_region 23 with fail
   go_wp2_with (first
    | (refine wpList_load_row rfl 60 _ rfl bx rfl 60 (rfC a s vs.length) (0, 0) _ hC.box Tryd.underlying60 rfl (by kernel_rfl) ?_)
    | fail)
   refine (MemR_any _ a s L vs o.m hC.rf (by omega)).mono ?_
   rintro e w4_ ⟨rfl, hb_⟩
   replace hC := hC.below hb_
   replace hB := hB.trans (hb_.mono hB.size)
   clear hb_
   have zk := hC.op.ck
   rw [hk] at zk
   have zb := hC.op.cb
   have z1 := hC.box.c1
   have zm := hC.op.cm
   rcases memI_cases s o.m with ⟨h1, h2⟩ | ⟨k, mb, h1, h2, h3⟩
   ·rw [h1]
    replace h2 := Lib.hid h2
    have hq : Hid (r = 16) := Lib.hid (by rw [hask.out]; unfold RS.askPromote; rw [if_neg (by rw [hrules.out]; simp), if_pos h2.out])
    go_wp2_with fail
    go_ret
    exact ⟨ret_int hq.out.symm, hB⟩
   ·rw [h1]
    have t2 : decide ((k : Int) < 0) = false := decide_eq_false (by omega)
    replace h2 := Lib.hid h2
    replace h3 := Lib.hid h3
    have hq : Hid (r = 0) := Lib.hid (by rw [hask.out]; unfold RS.askPromote; rw [if_neg (by rw [hrules.out]; simp), if_neg (by rw [h3.out]; simp)])
    go_wp2_with fail
    go_ret
    exact ⟨ret_int hq.out.symm, hB⟩
set_option maxRecDepth 100000 in
set_option maxHeartbeats 8000000 in
theorem MayR_6 (w : World) (a : RfV) (s : RS) (L : List ME) (vs : List VI) (o : OpI) (gp : Option Addr) (gc : Nat) (i : Idn) (kk : Nat) (hR : RfAt w a s L vs) (_hV : VsOk s vs) (hs : s.Ok kk) (_hkk : kk ≤ 1000) (hk : o.k = 6) :
  Calls Tryd.prog 28 #[.agg (rfC a s vs.length), .agg (opC o gp gc), .agg #[.int .i64 i.b, .int .i64 i.s, .int .u64 i.u]] w fun e w' => e = .returned (.int .i64 (s.may o)) ∧ Below w.heap.size w w' := by
 have hbx := Below.lit w (.cells (rfC a s vs.length) 60)
 have hRb := hR.below hbx
 have hBx := RfBox.made w a s vs.length
 obtain ⟨wb, hwb, hBx⟩ := nameW (p := fun W => RfBox W w.heap.size a s vs.length) hBx
 rw [hwb.out] at hbx hRb
 obtain ⟨bx, hbxn⟩ : ∃ bx, Hid (w.heap.size = bx) := ⟨_, Lib.hid rfl⟩
 rw [hbxn.out] at hBx
 have hbo := Below.lit wb (.cells (opC o gp gc) 42)
 have hOo := OpAt.made wb o gp gc
 obtain ⟨wo, hwo, hOo⟩ := nameW (p := fun W => OpAt W wb.heap.size o gp gc) hOo
 rw [hwo.out] at hbo
 obtain ⟨bo, hbon⟩ : ∃ bo, Hid (wb.heap.size = bo) := ⟨_, Lib.hid rfl⟩
 rw [hbon.out] at hOo
 have hC : RCtx wo bx bo a s L vs o gp gc := ⟨hRb.below hbo, hBx.below hbo, hOo⟩
 have hB := hbx.trans (hbo.mono hbx.size)
 clear hRb hBx hOo hbo hbx
 have hbi := Below.lit wo (.cells #[.int .i64 i.b, .int .i64 i.s, .int .u64 i.u] 34)
 obtain ⟨wi, hwi, hIi⟩ := nameW (p := fun W => IdAt W wo.heap.size i) (IdAt.made wo i)
 rw [hwi.out] at hbi
 obtain ⟨bi, hbin⟩ : ∃ bi, Hid (wo.heap.size = bi) := ⟨_, Lib.hid rfl⟩
 rw [hbin.out] at hIi
 replace hC := hC.below hbi
 replace hB := hB.trans (hbi.mono hB.size)
 clear hIi hbi
 obtain ⟨r, hr⟩ : ∃ r, Hid (s.may o = r) := ⟨_, Lib.hid rfl⟩
 rw [hr.out]
 have hfw := hs.few
 rw [List.length_append] at hfw
 have hfm := hs.fewM
 have zk := hC.op.ck
 rw [hk] at zk
 have zb := hC.op.cb
 have z1 := hC.box.c1
 go_enter Tryd.func28, Tryd.ntmps28
 go_upto_region 1 with (first | (rw [hwb.out]) | (rw [hwo.out]) | (rw [hwi.out]) | fail)
 rw [hbxn.out, hbon.out, hbin.out]
 go_wp2_with (first
  | (refine wpList_load_row rfl 60 _ rfl bx rfl 60 (rfC a s vs.length) (0, 0) _ hC.box Tryd.underlying60 rfl (by kernel_rfl) ?_)
  | fail)
 refine (OfR_any _ a.pc a.cc _ _ _ _ _ o.b hC.rf.cards).mono ?_
 rintro e w1_ ⟨rfl, hb_⟩
 replace hC := hC.below hb_
 replace hB := hB.trans (hb_.mono hB.size)
 clear hb_
 have zk := hC.op.ck
 rw [hk] at zk
 have zb := hC.op.cb
 have z1 := hC.box.c1
 obtain ⟨m, hm⟩ : ∃ m, Hid (ofD o.b = m) := ⟨_, Lib.hid rfl⟩
 rw [hm.out]
 obtain ⟨xi, hxi⟩ : ∃ xi, Hid (decide (o.b ∈ s.ins) = xi) := ⟨_, Lib.hid rfl⟩
 have hmay : Hid (r = if s.inB o.b = false then 15 else s.ask o m) := Lib.hid (by rw [← hr.out, ← hm.out]; unfold RS.may; rw [if_neg (by rw [hk]; decide)])
 go_wp2_with fail
 refine (HasL_any a.pi s.ins.length s.ins a.ci o.b _ hC.rf.ins (by omega)).mono ?_
 rintro e _ ⟨rfl, rfl⟩
 rw [hxi.out]
 cases xi with
 | false =>
  have hq : Hid (r = 15) := Lib.hid (by rw [hmay.out, if_pos (show s.inB o.b = false from hxi.out)])
  go_wp2_with fail
  go_ret
  exact ⟨ret_int hq.out.symm, hB⟩
 | true =>
  have hask : Hid (r = s.askMessage o m) := Lib.hid (by rw [hmay.out, if_neg (by rw [show s.inB o.b = true from hxi.out]; simp)]; unfold RS.ask; rw [if_neg (by rw [hk]; decide), if_neg (by rw [hk]; decide), if_neg (by rw [hk]; decide), if_pos hk])
  go_upto_region 10 with fail
  go_wp2_with (first
   | (refine wpList_load_row rfl 60 _ rfl bx rfl 60 (rfC a s vs.length) (0, 0) _ hC.box Tryd.underlying60 rfl (by kernel_rfl) ?_)
   | fail)
  refine (RoleR_any _ a s L vs m hC.rf (by omega)).mono ?_
  rintro e w3_ ⟨rfl, hb_⟩
  replace hC := hC.below hb_
  replace hB := hB.trans (hb_.mono hB.size)
  clear hb_
  have zk := hC.op.ck
  rw [hk] at zk
  have zb := hC.op.cb
  have z1 := hC.box.c1
  obtain ⟨rl, hrl⟩ : ∃ rl, Hid (s.role m = rl) := ⟨_, Lib.hid rfl⟩
  rw [hrl.out]
  obtain ⟨ru, hru⟩ : ∃ ru, (rl == 3) = ru := ⟨_, rfl⟩
  have hrules : Hid (s.rules m = ru) := Lib.hid (by unfold RS.rules; rw [hrl.out, ← hru]; rfl)
  go_upto_region 26 with fail
  go_wp2_with (first
   | (refine wpList_load_row rfl 60 _ rfl bx rfl 60 (rfC a s vs.length) (0, 0) _ hC.box Tryd.underlying60 rfl (by kernel_rfl) ?_)
   | fail)
  refine (RoleR_any _ a s L vs m hC.rf (by omega)).mono ?_
  rintro e w4_ ⟨rfl, hb_⟩
  replace hC := hC.below hb_
  replace hB := hB.trans (hb_.mono hB.size)
  clear hb_
  have zk := hC.op.ck
  rw [hk] at zk
  have zb := hC.op.cb
  have z1 := hC.box.c1
  rw [hrl.out]
  by_cases hl : rl < 2
  ·have t6 : decide (rl < 2) = true := decide_eq_true hl
   replace hl := Lib.hid hl
   have hq : Hid (r = 14) := Lib.hid (by rw [hask.out]; unfold RS.askMessage; rw [if_pos (by rw [hrl.out]; exact hl.out)])
   go_wp2_with fail
   go_ret
   exact ⟨ret_int hq.out.symm, hB⟩
  ·have t6 : decide (rl < 2) = false := decide_eq_false hl
   replace hl := Lib.hid hl
   have hq : Hid (r = 0) := Lib.hid (by rw [hask.out]; unfold RS.askMessage; rw [if_neg (by rw [hrl.out]; exact hl.out)])
   go_wp2_with fail
   go_ret
   exact ⟨ret_int hq.out.symm, hB⟩
set_option maxRecDepth 100000 in
set_option maxHeartbeats 8000000 in
theorem MayR_8 (w : World) (a : RfV) (s : RS) (L : List ME) (vs : List VI) (o : OpI) (gp : Option Addr) (gc : Nat) (i : Idn) (kk : Nat) (hR : RfAt w a s L vs) (_hV : VsOk s vs) (hs : s.Ok kk) (_hkk : kk ≤ 1000) (hk : o.k = 8) :
  Calls Tryd.prog 28 #[.agg (rfC a s vs.length), .agg (opC o gp gc), .agg #[.int .i64 i.b, .int .i64 i.s, .int .u64 i.u]] w fun e w' => e = .returned (.int .i64 (s.may o)) ∧ Below w.heap.size w w' := by
 have hbx := Below.lit w (.cells (rfC a s vs.length) 60)
 have hRb := hR.below hbx
 have hBx := RfBox.made w a s vs.length
 obtain ⟨wb, hwb, hBx⟩ := nameW (p := fun W => RfBox W w.heap.size a s vs.length) hBx
 rw [hwb.out] at hbx hRb
 obtain ⟨bx, hbxn⟩ : ∃ bx, Hid (w.heap.size = bx) := ⟨_, Lib.hid rfl⟩
 rw [hbxn.out] at hBx
 have hbo := Below.lit wb (.cells (opC o gp gc) 42)
 have hOo := OpAt.made wb o gp gc
 obtain ⟨wo, hwo, hOo⟩ := nameW (p := fun W => OpAt W wb.heap.size o gp gc) hOo
 rw [hwo.out] at hbo
 obtain ⟨bo, hbon⟩ : ∃ bo, Hid (wb.heap.size = bo) := ⟨_, Lib.hid rfl⟩
 rw [hbon.out] at hOo
 have hC : RCtx wo bx bo a s L vs o gp gc := ⟨hRb.below hbo, hBx.below hbo, hOo⟩
 have hB := hbx.trans (hbo.mono hbx.size)
 clear hRb hBx hOo hbo hbx
 have hbi := Below.lit wo (.cells #[.int .i64 i.b, .int .i64 i.s, .int .u64 i.u] 34)
 obtain ⟨wi, hwi, hIi⟩ := nameW (p := fun W => IdAt W wo.heap.size i) (IdAt.made wo i)
 rw [hwi.out] at hbi
 obtain ⟨bi, hbin⟩ : ∃ bi, Hid (wo.heap.size = bi) := ⟨_, Lib.hid rfl⟩
 rw [hbin.out] at hIi
 replace hC := hC.below hbi
 replace hB := hB.trans (hbi.mono hB.size)
 clear hIi hbi
 obtain ⟨r, hr⟩ : ∃ r, Hid (s.may o = r) := ⟨_, Lib.hid rfl⟩
 rw [hr.out]
 have hfw := hs.few
 rw [List.length_append] at hfw
 have hfm := hs.fewM
 have zk := hC.op.ck
 rw [hk] at zk
 have zb := hC.op.cb
 have z1 := hC.box.c1
 have zf := hC.op.cfb
 go_enter Tryd.func28, Tryd.ntmps28
 go_upto_region 1 with (first | (rw [hwb.out]) | (rw [hwo.out]) | (rw [hwi.out]) | fail)
 rw [hbxn.out, hbon.out, hbin.out]
 go_wp2_with (first
  | (refine wpList_load_row rfl 60 _ rfl bx rfl 60 (rfC a s vs.length) (0, 0) _ hC.box Tryd.underlying60 rfl (by kernel_rfl) ?_)
  | fail)
 refine (OfR_any _ a.pc a.cc _ _ _ _ _ o.b hC.rf.cards).mono ?_
 rintro e w1_ ⟨rfl, hb_⟩
 replace hC := hC.below hb_
 replace hB := hB.trans (hb_.mono hB.size)
 clear hb_
 have zk := hC.op.ck
 rw [hk] at zk
 have zb := hC.op.cb
 have z1 := hC.box.c1
 have zf := hC.op.cfb
 obtain ⟨m, hm⟩ : ∃ m, Hid (ofD o.b = m) := ⟨_, Lib.hid rfl⟩
 rw [hm.out]
 obtain ⟨xi, hxi⟩ : ∃ xi, Hid (decide (o.b ∈ s.ins) = xi) := ⟨_, Lib.hid rfl⟩
 have hmay : Hid (r = if s.inB o.b = false then 15 else s.ask o m) := Lib.hid (by rw [← hr.out, ← hm.out]; unfold RS.may; rw [if_neg (by rw [hk]; decide)])
 go_wp2_with fail
 refine (HasL_any a.pi s.ins.length s.ins a.ci o.b _ hC.rf.ins (by omega)).mono ?_
 rintro e _ ⟨rfl, rfl⟩
 rw [hxi.out]
 cases xi with
 | false =>
  have hq : Hid (r = 15) := Lib.hid (by rw [hmay.out, if_pos (show s.inB o.b = false from hxi.out)])
  go_wp2_with fail
  go_ret
  exact ⟨ret_int hq.out.symm, hB⟩
 | true =>
  have hask : Hid (r = s.askErase o m) := Lib.hid (by rw [hmay.out, if_neg (by rw [show s.inB o.b = true from hxi.out]; simp)]; unfold RS.ask; rw [if_neg (by rw [hk]; decide), if_neg (by rw [hk]; decide), if_neg (by rw [hk]; decide), if_neg (by rw [hk]; decide), if_pos hk])
  go_upto_region 10 with fail
  go_wp2_with (first
   | (refine wpList_load_row rfl 60 _ rfl bx rfl 60 (rfC a s vs.length) (0, 0) _ hC.box Tryd.underlying60 rfl (by kernel_rfl) ?_)
   | fail)
  refine (RoleR_any _ a s L vs m hC.rf (by omega)).mono ?_
  rintro e w3_ ⟨rfl, hb_⟩
  replace hC := hC.below hb_
  replace hB := hB.trans (hb_.mono hB.size)
  clear hb_
  have zk := hC.op.ck
  rw [hk] at zk
  have zb := hC.op.cb
  have z1 := hC.box.c1
  have zf := hC.op.cfb
  obtain ⟨rl, hrl⟩ : ∃ rl, Hid (s.role m = rl) := ⟨_, Lib.hid rfl⟩
  rw [hrl.out]
  obtain ⟨ru, hru⟩ : ∃ ru, (rl == 3) = ru := ⟨_, rfl⟩
  have hrules : Hid (s.rules m = ru) := Lib.hid (by unfold RS.rules; rw [hrl.out, ← hru]; rfl)
  obtain ⟨od, hod⟩ : ∃ od, Hid (ofD o.f.b = od) := ⟨_, Lib.hid rfl⟩
  cases ru with
  | true =>
   have hq : Hid (r = 0) := Lib.hid (by rw [hask.out]; unfold RS.askErase; rw [if_neg (fun h => by rw [hrules.out] at h; cases h.1)])
   go_wp2_with fail
   go_ret
   exact ⟨ret_int hq.out.symm, hB⟩
  | false =>
   go_upto_region 29 with fail
   go_wp2_with (first
    | (refine wpL_loadRG _ rfl bx rfl hC.box (by kernel_rfl) ?_)
    | fail)
   refine (OfR_any _ a.pc a.cc _ _ _ _ _ o.f.b hC.rf.cards).mono ?_
   rintro e w4_ ⟨rfl, hb_⟩
   replace hC := hC.below hb_
   replace hB := hB.trans (hb_.mono hB.size)
   clear hb_
   have zk := hC.op.ck
   rw [hk] at zk
   have zb := hC.op.cb
   have z1 := hC.box.c1
   have zf := hC.op.cfb
   rw [hod.out]
   by_cases hde : od = m
   ·have t6 : (od != m) = false := by rw [hde]; exact bne_self_eq_false _
    replace hde := Lib.hid hde
    have hq : Hid (r = 0) := Lib.hid (by rw [hask.out]; unfold RS.askErase; rw [if_neg (fun h => h.2 (by rw [hod.out]; exact hde.out))])
    go_wp2_with fail
    go_ret
    exact ⟨ret_int hq.out.symm, hB⟩
   ·have t6 : (od != m) = true := bne_iff_ne.2 hde
    replace hde := Lib.hid hde
    have hq : Hid (r = 14) := Lib.hid (by rw [hask.out]; unfold RS.askErase; rw [if_pos ⟨hrules.out, by rw [hod.out]; exact hde.out⟩])
    go_wp2_with fail
    go_ret
    exact ⟨ret_int hq.out.symm, hB⟩
set_option maxRecDepth 100000 in
set_option maxHeartbeats 8000000 in
theorem MayR_9 (w : World) (a : RfV) (s : RS) (L : List ME) (vs : List VI) (o : OpI) (gp : Option Addr) (gc : Nat) (i : Idn) (kk : Nat) (hR : RfAt w a s L vs) (_hV : VsOk s vs) (hs : s.Ok kk) (_hkk : kk ≤ 1000) (hU : UI w gp o.gs.length o.gs) (hgl : o.gs.length ≤ 1000) (hk : o.k = 9) :
  Calls Tryd.prog 28 #[.agg (rfC a s vs.length), .agg (opC o gp gc), .agg #[.int .i64 i.b, .int .i64 i.s, .int .u64 i.u]] w fun e w' => e = .returned (.int .i64 (s.may o)) ∧ Below w.heap.size w w' := by
 have hbx := Below.lit w (.cells (rfC a s vs.length) 60)
 have hRb := hR.below hbx
 have hBx := RfBox.made w a s vs.length
 obtain ⟨wb, hwb, hBx⟩ := nameW (p := fun W => RfBox W w.heap.size a s vs.length) hBx
 rw [hwb.out] at hbx hRb
 obtain ⟨bx, hbxn⟩ : ∃ bx, Hid (w.heap.size = bx) := ⟨_, Lib.hid rfl⟩
 rw [hbxn.out] at hBx
 have hbo := Below.lit wb (.cells (opC o gp gc) 42)
 have hOo := OpAt.made wb o gp gc
 obtain ⟨wo, hwo, hOo⟩ := nameW (p := fun W => OpAt W wb.heap.size o gp gc) hOo
 rw [hwo.out] at hbo
 obtain ⟨bo, hbon⟩ : ∃ bo, Hid (wb.heap.size = bo) := ⟨_, Lib.hid rfl⟩
 rw [hbon.out] at hOo
 have hC : RCtx wo bx bo a s L vs o gp gc := ⟨hRb.below hbo, hBx.below hbo, hOo⟩
 have hB := hbx.trans (hbo.mono hbx.size)
 clear hRb hBx hOo hbo hbx
 have hbi := Below.lit wo (.cells #[.int .i64 i.b, .int .i64 i.s, .int .u64 i.u] 34)
 obtain ⟨wi, hwi, hIi⟩ := nameW (p := fun W => IdAt W wo.heap.size i) (IdAt.made wo i)
 rw [hwi.out] at hbi
 obtain ⟨bi, hbin⟩ : ∃ bi, Hid (wo.heap.size = bi) := ⟨_, Lib.hid rfl⟩
 rw [hbin.out] at hIi
 replace hC := hC.below hbi
 replace hB := hB.trans (hbi.mono hB.size)
 clear hIi hbi
 obtain ⟨r, hr⟩ : ∃ r, Hid (s.may o = r) := ⟨_, Lib.hid rfl⟩
 rw [hr.out]
 have hfw := hs.few
 rw [List.length_append] at hfw
 have hfm := hs.fewM
 have zk := hC.op.ck
 rw [hk] at zk
 have zb := hC.op.cb
 have z1 := hC.box.c1
 have zg := hC.op.cgs
 go_enter Tryd.func28, Tryd.ntmps28
 go_upto_region 1 with (first | (rw [hwb.out]) | (rw [hwo.out]) | (rw [hwi.out]) | fail)
 rw [hbxn.out, hbon.out, hbin.out]
 go_wp2_with (first
  | (refine wpList_load_row rfl 60 _ rfl bx rfl 60 (rfC a s vs.length) (0, 0) _ hC.box Tryd.underlying60 rfl (by kernel_rfl) ?_)
  | fail)
 refine (OfR_any _ a.pc a.cc _ _ _ _ _ o.b hC.rf.cards).mono ?_
 rintro e w1_ ⟨rfl, hb_⟩
 replace hC := hC.below hb_
 replace hB := hB.trans (hb_.mono hB.size)
 clear hb_
 have zk := hC.op.ck
 rw [hk] at zk
 have zb := hC.op.cb
 have z1 := hC.box.c1
 have zg := hC.op.cgs
 obtain ⟨m, hm⟩ : ∃ m, Hid (ofD o.b = m) := ⟨_, Lib.hid rfl⟩
 rw [hm.out]
 obtain ⟨xi, hxi⟩ : ∃ xi, Hid (decide (o.b ∈ s.ins) = xi) := ⟨_, Lib.hid rfl⟩
 have hmay : Hid (r = if s.inB o.b = false then 15 else s.ask o m) := Lib.hid (by rw [← hr.out, ← hm.out]; unfold RS.may; rw [if_neg (by rw [hk]; decide)])
 go_wp2_with fail
 refine (HasL_any a.pi s.ins.length s.ins a.ci o.b _ hC.rf.ins (by omega)).mono ?_
 rintro e _ ⟨rfl, rfl⟩
 rw [hxi.out]
 cases xi with
 | false =>
  have hq : Hid (r = 15) := Lib.hid (by rw [hmay.out, if_pos (show s.inB o.b = false from hxi.out)])
  go_wp2_with fail
  go_ret
  exact ⟨ret_int hq.out.symm, hB⟩
 | true =>
  have hask : Hid (r = s.askGuard o m) := Lib.hid (by rw [hmay.out, if_neg (by rw [show s.inB o.b = true from hxi.out]; simp)]; unfold RS.ask; rw [if_neg (by rw [hk]; decide), if_neg (by rw [hk]; decide), if_neg (by rw [hk]; decide), if_neg (by rw [hk]; decide), if_neg (by rw [hk]; decide), if_pos hk])
  go_upto_region 10 with fail
  go_wp2_with (first
   | (refine wpList_load_row rfl 60 _ rfl bx rfl 60 (rfC a s vs.length) (0, 0) _ hC.box Tryd.underlying60 rfl (by kernel_rfl) ?_)
   | fail)
  refine (RoleR_any _ a s L vs m hC.rf (by omega)).mono ?_
  rintro e w3_ ⟨rfl, hb_⟩
  replace hC := hC.below hb_
  replace hB := hB.trans (hb_.mono hB.size)
  clear hb_
  have zk := hC.op.ck
  rw [hk] at zk
  have zb := hC.op.cb
  have z1 := hC.box.c1
  have zg := hC.op.cgs
  obtain ⟨rl, hrl⟩ : ∃ rl, Hid (s.role m = rl) := ⟨_, Lib.hid rfl⟩
  rw [hrl.out]
  obtain ⟨ru, hru⟩ : ∃ ru, (rl == 3) = ru := ⟨_, rfl⟩
  have hrules : Hid (s.rules m = ru) := Lib.hid (by unfold RS.rules; rw [hrl.out, ← hru]; rfl)
  replace hU := hU.below hB
  have hlU := Lib.hid hU.len
  go_upto_region 32 with fail
  go_wp2_with fail
  go_loopw [10] (fun i' wr => ∃ j : Nat, j ≤ o.gs.length ∧ i' = .int .i64 j ∧ Hid (∀ x ∈ o.gs.take j, x ∈ s.ins) ∧ Hid (RCtx wr bx bo a s L vs o gp gc) ∧ Hid (UI wr gp o.gs.length o.gs) ∧ Hid (Below w.heap.size w wr)) (fun i' _ => o.gs.length - (intOf i').toNat)
  case atStart => exact ⟨0, Nat.zero_le _, rfl, Lib.hid (fun x h => by cases h), Lib.hid hC, Lib.hid hU, Lib.hid hB⟩
  case round =>
   clear hC hU hB zk zb z1 zg
   obtain ⟨j, hj, rfl, hall, hC, hU, hB⟩ := hrel
   have z1 := hC.out.box.c1
   have zg := hC.out.op.cgs
   by_cases hlt : j < o.gs.length
   ·obtain ⟨b, off, hgpe, _, hcx, _⟩ := hU.out.look hlt
    have hix1 : (0 : Int) ≤ (j : Int) := by omega
    have hix2 : (j : Int) < (o.gs.length : Int) := by omega
    obtain ⟨x, hx⟩ : ∃ x, Hid (nth o.gs j = x) := ⟨_, Lib.hid rfl⟩
    rw [hx.out] at hcx
    rw [hgpe] at zg
    replace hgpe := Lib.hid hgpe
    have hxj : Hid (o.gs.take (j + 1) = o.gs.take j ++ [x]) := Lib.hid (by rw [List.take_add_one, List.getElem?_eq_getElem hlt, ← nth_eq hlt, hx.out]; rfl)
    go_upto_region 35 with fail
    obtain ⟨wd, hwd⟩ : ∃ wd, Hid (wr.drew = wd) := ⟨_, Lib.hid rfl⟩
    have hw0 : Below wr.heap.size wr wd := by rw [← hwd.out]; exact (Below.refl _ _).drew
    replace z1 := (hw0.cell (cell_lt z1)).trans z1
    replace zg := (hw0.cell (cell_lt zg)).trans zg
    replace hcx := (hw0.cell (cell_lt hcx)).trans hcx
    have hID := hC.out.rf.ins.below hw0
    have hCd := Lib.hid (hC.out.below hw0)
    have hUd := Lib.hid (hU.out.below hw0)
    have hBd := Lib.hid (hB.out.trans (hw0.mono hB.out.size))
    have hb0 : Below wd.heap.size wd wd := Below.refl _ _
    refine wp_region_D (D := fun T => Below wd.heap.size wd T) (by kernel_rfl) ?_
    rw [hwd.out]
    change wpAnyD _ _ _ _ _ 9 _ _ _
    apply tkD 0 hb0 rfl
    ·intro T hT
     have hT0 := (hT.cell (cell_lt z1)).trans z1
     go_simp
     try rfl
    try go_frame
    apply tkD 1 hb0 rfl
    ·intro T hT
     have hT0 := (hT.cell (cell_lt z1)).trans z1
     go_simp
     try rfl
    try go_frame
    apply tkD 2 hb0 rfl
    ·intro T hT
     have hT0 := (hT.cell (cell_lt zg)).trans zg
     go_simp
     try rfl
    try go_frame
    apply tkD 3 hb0 rfl
    ·intro T hT
     have hT0 := (hT.cell (cell_lt zg)).trans zg
     go_simp
     try rfl
    try go_frame
    apply tkD 4 hb0 rfl
    ·intro T hT
     have hT0 := (hT.cell (cell_lt zg)).trans zg
     go_simp
     try rfl
    try go_frame
    apply tkD 5 hb0 rfl
    ·intro T hT
     have hT0 := (hT.cell (cell_lt zg)).trans zg
     go_simp
     try rfl
    try go_frame
    apply tkD 6 hb0 rfl
    ·intro T hT
     have hT0 := (hT.cell (cell_lt hcx)).trans hcx
     go_simp
     try rfl
    try go_frame
    refine oneD 7 (by kernel_rfl) rfl (by kernel_rfl) (fun K hK => ?_)
    go_simp
    refine (HasL_any a.pi s.ins.length s.ins a.ci x wd hID (by omega)).mono ?_
    rintro e _ ⟨rfl, rfl⟩
    obtain ⟨xb, hxb⟩ : ∃ xb, Hid (decide (x ∈ s.ins) = xb) := ⟨_, Lib.hid rfl⟩
    rw [hxb.out]
    refine hK _ _ ⟨hb0, ?_⟩
    clear hK K
    try go_frame
    apply tkD 8 hb0 rfl
    ·intro T hT
     go_simp
     try rfl
    try go_frame
    refine wpAnyD_done (by kernel_rfl) ?_ _
    cases xb with
    | false =>
     have hq : Hid (r = 17) := Lib.hid (by
      rw [hask.out]; unfold RS.askGuard; rw [if_neg]
      intro h
      have hm' : x ∈ o.gs := by rw [← hx.out, nth_eq hlt]; exact List.getElem_mem hlt
      exact of_decide_eq_false hxb.out (h x hm'))
     go_wp2_with fail
     go_ret
     exact ⟨ret_int hq.out.symm, hBd.out⟩
    | true =>
     go_wp2_with fail
     go_roundw
     case rel => exact ⟨j + 1, by omega, by go_num, Lib.hid (fun y hy => by
      rw [hxj.out] at hy
      rcases List.mem_append.1 hy with hy | hy
      ·exact hall.out y hy
      ·rw [List.mem_singleton] at hy; subst hy; exact of_decide_eq_true hxb.out), hCd, hUd, hBd⟩
     case measure => simp [intOf]; omega
   ·have hjn : j = o.gs.length := by omega
    have hq : Hid (r = 0) := Lib.hid (by
     rw [hask.out]; unfold RS.askGuard; rw [if_pos]
     intro x hx
     exact hall.out x (by rw [hjn, List.take_length]; exact hx))
    go_wp2_with fail
    go_ret
    exact ⟨ret_int hq.out.symm, hB.out⟩
set_option maxRecDepth 100000 in
set_option maxHeartbeats 8000000 in
theorem MayR_10 (w : World) (a : RfV) (s : RS) (L : List ME) (vs : List VI) (o : OpI) (gp : Option Addr) (gc : Nat) (i : Idn) (kk : Nat) (hR : RfAt w a s L vs) (_hV : VsOk s vs) (hs : s.Ok kk) (_hkk : kk ≤ 1000) (hk : o.k = 10) :
  Calls Tryd.prog 28 #[.agg (rfC a s vs.length), .agg (opC o gp gc), .agg #[.int .i64 i.b, .int .i64 i.s, .int .u64 i.u]] w fun e w' => e = .returned (.int .i64 (s.may o)) ∧ Below w.heap.size w w' := by
 have hbx := Below.lit w (.cells (rfC a s vs.length) 60)
 have hRb := hR.below hbx
 have hBx := RfBox.made w a s vs.length
 obtain ⟨wb, hwb, hBx⟩ := nameW (p := fun W => RfBox W w.heap.size a s vs.length) hBx
 rw [hwb.out] at hbx hRb
 obtain ⟨bx, hbxn⟩ : ∃ bx, Hid (w.heap.size = bx) := ⟨_, Lib.hid rfl⟩
 rw [hbxn.out] at hBx
 have hbo := Below.lit wb (.cells (opC o gp gc) 42)
 have hOo := OpAt.made wb o gp gc
 obtain ⟨wo, hwo, hOo⟩ := nameW (p := fun W => OpAt W wb.heap.size o gp gc) hOo
 rw [hwo.out] at hbo
 obtain ⟨bo, hbon⟩ : ∃ bo, Hid (wb.heap.size = bo) := ⟨_, Lib.hid rfl⟩
 rw [hbon.out] at hOo
 have hC : RCtx wo bx bo a s L vs o gp gc := ⟨hRb.below hbo, hBx.below hbo, hOo⟩
 have hB := hbx.trans (hbo.mono hbx.size)
 clear hRb hBx hOo hbo hbx
 have hbi := Below.lit wo (.cells #[.int .i64 i.b, .int .i64 i.s, .int .u64 i.u] 34)
 obtain ⟨wi, hwi, hIi⟩ := nameW (p := fun W => IdAt W wo.heap.size i) (IdAt.made wo i)
 rw [hwi.out] at hbi
 obtain ⟨bi, hbin⟩ : ∃ bi, Hid (wo.heap.size = bi) := ⟨_, Lib.hid rfl⟩
 rw [hbin.out] at hIi
 replace hC := hC.below hbi
 replace hB := hB.trans (hbi.mono hB.size)
 clear hIi hbi
 obtain ⟨r, hr⟩ : ∃ r, Hid (s.may o = r) := ⟨_, Lib.hid rfl⟩
 rw [hr.out]
 have hfw := hs.few
 rw [List.length_append] at hfw
 have hfm := hs.fewM
 have zk := hC.op.ck
 rw [hk] at zk
 have zb := hC.op.cb
 have z1 := hC.box.c1
 go_enter Tryd.func28, Tryd.ntmps28
 go_upto_region 1 with (first | (rw [hwb.out]) | (rw [hwo.out]) | (rw [hwi.out]) | fail)
 rw [hbxn.out, hbon.out, hbin.out]
 go_wp2_with (first
  | (refine wpList_load_row rfl 60 _ rfl bx rfl 60 (rfC a s vs.length) (0, 0) _ hC.box Tryd.underlying60 rfl (by kernel_rfl) ?_)
  | fail)
 refine (OfR_any _ a.pc a.cc _ _ _ _ _ o.b hC.rf.cards).mono ?_
 rintro e w1_ ⟨rfl, hb_⟩
 replace hC := hC.below hb_
 replace hB := hB.trans (hb_.mono hB.size)
 clear hb_
 have zk := hC.op.ck
 rw [hk] at zk
 have zb := hC.op.cb
 have z1 := hC.box.c1
 obtain ⟨m, hm⟩ : ∃ m, Hid (ofD o.b = m) := ⟨_, Lib.hid rfl⟩
 rw [hm.out]
 obtain ⟨xi, hxi⟩ : ∃ xi, Hid (decide (o.b ∈ s.ins) = xi) := ⟨_, Lib.hid rfl⟩
 have hmay : Hid (r = if s.inB o.b = false then 15 else s.ask o m) := Lib.hid (by rw [← hr.out, ← hm.out]; unfold RS.may; rw [if_neg (by rw [hk]; decide)])
 go_wp2_with fail
 refine (HasL_any a.pi s.ins.length s.ins a.ci o.b _ hC.rf.ins (by omega)).mono ?_
 rintro e _ ⟨rfl, rfl⟩
 rw [hxi.out]
 cases xi with
 | false =>
  have hq : Hid (r = 15) := Lib.hid (by rw [hmay.out, if_pos (show s.inB o.b = false from hxi.out)])
  go_wp2_with fail
  go_ret
  exact ⟨ret_int hq.out.symm, hB⟩
 | true =>
  have hask : Hid (r = s.askOwn o m) := Lib.hid (by rw [hmay.out, if_neg (by rw [show s.inB o.b = true from hxi.out]; simp)]; unfold RS.ask; rw [if_neg (by rw [hk]; decide), if_neg (by rw [hk]; decide), if_neg (by rw [hk]; decide), if_neg (by rw [hk]; decide), if_neg (by rw [hk]; decide), if_neg (by rw [hk]; decide), if_pos hk])
  go_upto_region 10 with fail
  go_wp2_with (first
   | (refine wpList_load_row rfl 60 _ rfl bx rfl 60 (rfC a s vs.length) (0, 0) _ hC.box Tryd.underlying60 rfl (by kernel_rfl) ?_)
   | fail)
  refine (RoleR_any _ a s L vs m hC.rf (by omega)).mono ?_
  rintro e w3_ ⟨rfl, hb_⟩
  replace hC := hC.below hb_
  replace hB := hB.trans (hb_.mono hB.size)
  clear hb_
  have zk := hC.op.ck
  rw [hk] at zk
  have zb := hC.op.cb
  have z1 := hC.box.c1
  obtain ⟨rl, hrl⟩ : ∃ rl, Hid (s.role m = rl) := ⟨_, Lib.hid rfl⟩
  rw [hrl.out]
  obtain ⟨ru, hru⟩ : ∃ ru, (rl == 3) = ru := ⟨_, rfl⟩
  have hrules : Hid (s.rules m = ru) := Lib.hid (by unfold RS.rules; rw [hrl.out, ← hru]; rfl)
  go_upto_region 39 with fail
  go_wp2_with (first
   | (refine wpList_load_row rfl 60 _ rfl bx rfl 60 (rfC a s vs.length) (0, 0) _ hC.box Tryd.underlying60 rfl (by kernel_rfl) ?_)
   | fail)
  refine (MemR_any _ a s L vs m hC.rf (by omega)).mono ?_
  rintro e w4_ ⟨rfl, hb_⟩
  replace hC := hC.below hb_
  replace hB := hB.trans (hb_.mono hB.size)
  clear hb_
  have zk := hC.op.ck
  rw [hk] at zk
  have zb := hC.op.cb
  have z1 := hC.box.c1
  rcases memI_cases s m with ⟨h1, h2⟩ | ⟨k, mb, h1, h2, h3⟩
  ·rw [h1]
   replace h2 := Lib.hid h2
   have hq : Hid (r = 25) := Lib.hid (by rw [hask.out]; unfold RS.askOwn; rw [h2.out]; rfl)
   go_wp2_with fail
   go_ret
   exact ⟨ret_int hq.out.symm, hB⟩
  ·rw [h1]
   obtain ⟨hk', h2e⟩ := List.getElem?_eq_some_iff.1 h2
   obtain ⟨b, off, x, hxL, hxs, hp, _, _, hc⟩ := hC.rf.at_ hk'
   obtain ⟨xm, xp, xc⟩ := x
   obtain rfl : xm = (m, mb) := hxs.trans h2e
   obtain ⟨mr, go⟩ := mb
   have hix1 : (0 : Int) ≤ (k : Int) := by omega
   have hix2 : (k : Int) < (s.ms.length : Int) := by omega
   have t2 : decide ((k : Int) < 0) = false := decide_eq_false (by omega)
   have k3 := hC.box.c3
   rw [hp] at k3
   have f0 := hC.op.cfb
   have f1 := hC.op.cfs
   have f2 := hC.op.cfu
   have c2 := hc 2 _ rfl
   have c3 := hc 3 _ rfl
   have c4 := hc 4 _ rfl
   have c5 := hc 5 _ rfl
   replace c4 : w4_.cell? ⟨b, off + k * 11 + 3 + 1, none⟩ = _ := c4
   replace c5 : w4_.cell? ⟨b, off + k * 11 + 3 + 2, none⟩ = _ := c5
   replace f1 : w4_.cell? ⟨bo, 16 + 1, none⟩ = _ := f1
   replace f2 : w4_.cell? ⟨bo, 16 + 2, none⟩ = _ := f2
   replace h2 := Lib.hid h2
   replace h2e := Lib.hid h2e
   replace hc := Lib.hid hc
   replace hxs := Lib.hid hxs
   replace h1 := Lib.hid h1
   replace hxL := Lib.hid hxL
   have hst := id_stood
   have hgd := id_guard
   go_upto_region 42 with fail
   obtain ⟨wd, hwd⟩ : ∃ wd, Hid (w4_.drew = wd) := ⟨_, Lib.hid rfl⟩
   have hw0 : Below w4_.heap.size w4_ wd := by rw [← hwd.out]; exact (Below.refl _ _).drew
   replace k3 := (hw0.cell (cell_lt k3)).trans k3
   replace f0 := (hw0.cell (cell_lt f0)).trans f0
   replace f1 := (hw0.cell (cell_lt f1)).trans f1
   replace f2 := (hw0.cell (cell_lt f2)).trans f2
   replace c2 := (hw0.cell (cell_lt c2)).trans c2
   replace c3 := (hw0.cell (cell_lt c3)).trans c3
   replace c4 := (hw0.cell (cell_lt c4)).trans c4
   replace c5 := (hw0.cell (cell_lt c5)).trans c5
   have hBd := hB.trans (hw0.mono hB.size)
   have hb0 : Below wd.heap.size wd wd := Below.refl _ _
   refine wp_region_D (D := fun T => Below wd.heap.size wd T) (by kernel_rfl) ?_
   rw [hwd.out]
   change wpAnyD _ _ _ _ _ 18 _ _ _
   cases go with
   | none =>
    replace c2 : wd.cell? ⟨b, off + k * 11 + 2, none⟩ = some (.bool false) := c2
    have hq : Hid (r = 25) := Lib.hid (by rw [hask.out]; unfold RS.askOwn; rw [h3]; rfl)
    replace h3 := Lib.hid h3
    apply tkD 0 hb0 rfl
    ·intro T hT
     have hT0 := (hT.cell (cell_lt k3)).trans k3
     go_simp
     try rfl
    try go_frame
    apply tkD 1 hb0 rfl
    ·intro T hT
     have hT0 := (hT.cell (cell_lt k3)).trans k3
     go_simp
     try rfl
    try go_frame
    apply tkD 2 hb0 rfl
    ·intro T hT
     have hT0 := (hT.cell (cell_lt k3)).trans k3
     go_simp
     try rfl
    try go_frame
    apply tkD 3 hb0 rfl
    ·intro T hT
     have hT0 := (hT.cell (cell_lt k3)).trans k3
     go_simp
     try rfl
    try go_frame
    apply tkD 4 hb0 rfl
    ·intro T hT
     have hT0 := (hT.cell (cell_lt k3)).trans k3
     go_simp
     try rfl
    try go_frame
    apply tkD 5 hb0 rfl
    ·intro T hT
     have hT0 := (hT.cell (cell_lt c2)).trans c2
     go_simp
     try rfl
    try go_frame
    apply tkD 6 hb0 rfl
    ·intro T hT
     go_simp
     try rfl
    try go_frame
    apply tkD 7 hb0 rfl
    ·intro T hT
     go_simp
     try rfl
    try go_frame
    apply noD 8 hb0 rfl
    try go_frame
    apply noD 9 hb0 rfl
    try go_frame
    apply noD 10 hb0 rfl
    try go_frame
    apply noD 11 hb0 rfl
    try go_frame
    apply noD 12 hb0 rfl
    try go_frame
    apply noD 13 hb0 rfl
    try go_frame
    apply noD 14 hb0 rfl
    try go_frame
    apply noD 15 hb0 rfl
    try go_frame
    apply noD 16 hb0 rfl
    try go_frame
    apply tkD 17 hb0 rfl
    ·intro T hT
     go_simp
     try rfl
    try go_frame
    refine wpAnyD_done (by kernel_rfl) ?_ _
    go_wp2_with fail
    go_ret
    exact ⟨ret_int hq.out.symm, hBd⟩
   | some g =>
    replace c2 : wd.cell? ⟨b, off + k * 11 + 2, none⟩ = some (.bool true) := c2
    replace c3 : wd.cell? ⟨b, off + k * 11 + 3, none⟩ = some (.int .i64 g.id.b) := c3
    replace c4 : wd.cell? ⟨b, off + k * 11 + 3 + 1, none⟩ = some (.int .i64 g.id.s) := c4
    replace c5 : wd.cell? ⟨b, off + k * 11 + 3 + 2, none⟩ = some (.int .u64 g.id.u) := c5
    have hid := fun T => id_neq g.id o.f T
    obtain ⟨xb, hxb⟩ : ∃ xb, Hid (decide (g.id = o.f) = xb) := ⟨_, Lib.hid rfl⟩
    rw [hxb.out] at hid
    have hq' : Hid (r = if xb = true then 0 else 25) := Lib.hid (by rw [hask.out]; unfold RS.askOwn; rw [h3, ← hxb.out]; rfl)
    replace h3 := Lib.hid h3
    apply tkD 0 hb0 rfl
    ·intro T hT
     have hT0 := (hT.cell (cell_lt k3)).trans k3
     go_simp
     try rfl
    try go_frame
    apply tkD 1 hb0 rfl
    ·intro T hT
     have hT0 := (hT.cell (cell_lt k3)).trans k3
     go_simp
     try rfl
    try go_frame
    apply tkD 2 hb0 rfl
    ·intro T hT
     have hT0 := (hT.cell (cell_lt k3)).trans k3
     go_simp
     try rfl
    try go_frame
    apply tkD 3 hb0 rfl
    ·intro T hT
     have hT0 := (hT.cell (cell_lt k3)).trans k3
     go_simp
     try rfl
    try go_frame
    apply tkD 4 hb0 rfl
    ·intro T hT
     have hT0 := (hT.cell (cell_lt k3)).trans k3
     go_simp
     try rfl
    try go_frame
    apply tkD 5 hb0 rfl
    ·intro T hT
     have hT0 := (hT.cell (cell_lt c2)).trans c2
     go_simp
     try rfl
    try go_frame
    apply tkD 6 hb0 rfl
    ·intro T hT
     go_simp
     try rfl
    try go_frame
    apply tkD 7 hb0 rfl
    ·intro T hT
     go_simp
     try rfl
    try go_frame
    apply tkD 8 hb0 rfl
    ·intro T hT
     have hT0 := (hT.cell (cell_lt k3)).trans k3
     go_simp
     try rfl
    try go_frame
    apply tkD 9 hb0 rfl
    ·intro T hT
     have hT0 := (hT.cell (cell_lt k3)).trans k3
     go_simp
     try rfl
    try go_frame
    apply tkD 10 hb0 rfl
    ·intro T hT
     have hT0 := (hT.cell (cell_lt k3)).trans k3
     go_simp
     try rfl
    try go_frame
    apply tkD 11 hb0 rfl
    ·intro T hT
     have hT0 := (hT.cell (cell_lt k3)).trans k3
     go_simp
     try rfl
    try go_frame
    apply tkD 12 hb0 rfl
    ·intro T hT
     have hT0 := (hT.cell (cell_lt k3)).trans k3
     go_simp
     try rfl
    try go_frame
    apply tkD 13 hb0 rfl
    ·intro T hT
     have hT0 := (hT.cell (cell_lt c3)).trans c3
     have hT1 := (hT.cell (cell_lt c4)).trans c4
     have hT2 := (hT.cell (cell_lt c5)).trans c5
     go_simp
     try rfl
    try go_frame
    apply tkD 14 hb0 rfl
    ·intro T hT
     go_simp
     try rfl
    try go_frame
    apply tkD 15 hb0 rfl
    ·intro T hT
     have hT0 := (hT.cell (cell_lt f0)).trans f0
     have hT1 := (hT.cell (cell_lt f1)).trans f1
     have hT2 := (hT.cell (cell_lt f2)).trans f2
     go_simp
     try rfl
    try go_frame
    apply tkD 16 hb0 rfl
    ·intro T hT
     go_simp
     try rfl
    try go_frame
    apply tkD 17 hb0 rfl
    ·intro T hT
     go_simp
     try rfl
    try go_frame
    refine wpAnyD_done (by kernel_rfl) ?_ _
    cases xb with
    | true =>
     have hq : Hid (r = 0) := Lib.hid (by rw [hq'.out]; rfl)
     go_wp2_with fail
     go_ret
     exact ⟨ret_int hq.out.symm, hBd⟩
    | false =>
     have hq : Hid (r = 25) := Lib.hid (by rw [hq'.out]; rfl)
     go_wp2_with fail
     go_ret
     exact ⟨ret_int hq.out.symm, hBd⟩
set_option maxRecDepth 100000 in
set_option maxHeartbeats 8000000 in
theorem MayR_12 (w : World) (a : RfV) (s : RS) (L : List ME) (vs : List VI) (o : OpI) (gp : Option Addr) (gc : Nat) (i : Idn) (kk : Nat) (hR : RfAt w a s L vs) (_hV : VsOk s vs) (hs : s.Ok kk) (_hkk : kk ≤ 1000) (hk : o.k = 12) :
  Calls Tryd.prog 28 #[.agg (rfC a s vs.length), .agg (opC o gp gc), .agg #[.int .i64 i.b, .int .i64 i.s, .int .u64 i.u]] w fun e w' => e = .returned (.int .i64 (s.may o)) ∧ Below w.heap.size w w' := by
 have hbx := Below.lit w (.cells (rfC a s vs.length) 60)
 have hRb := hR.below hbx
 have hBx := RfBox.made w a s vs.length
 obtain ⟨wb, hwb, hBx⟩ := nameW (p := fun W => RfBox W w.heap.size a s vs.length) hBx
 rw [hwb.out] at hbx hRb
 obtain ⟨bx, hbxn⟩ : ∃ bx, Hid (w.heap.size = bx) := ⟨_, Lib.hid rfl⟩
 rw [hbxn.out] at hBx
 have hbo := Below.lit wb (.cells (opC o gp gc) 42)
 have hOo := OpAt.made wb o gp gc
 obtain ⟨wo, hwo, hOo⟩ := nameW (p := fun W => OpAt W wb.heap.size o gp gc) hOo
 rw [hwo.out] at hbo
 obtain ⟨bo, hbon⟩ : ∃ bo, Hid (wb.heap.size = bo) := ⟨_, Lib.hid rfl⟩
 rw [hbon.out] at hOo
 have hC : RCtx wo bx bo a s L vs o gp gc := ⟨hRb.below hbo, hBx.below hbo, hOo⟩
 have hB := hbx.trans (hbo.mono hbx.size)
 clear hRb hBx hOo hbo hbx
 have hbi := Below.lit wo (.cells #[.int .i64 i.b, .int .i64 i.s, .int .u64 i.u] 34)
 obtain ⟨wi, hwi, hIi⟩ := nameW (p := fun W => IdAt W wo.heap.size i) (IdAt.made wo i)
 rw [hwi.out] at hbi
 obtain ⟨bi, hbin⟩ : ∃ bi, Hid (wo.heap.size = bi) := ⟨_, Lib.hid rfl⟩
 rw [hbin.out] at hIi
 replace hC := hC.below hbi
 replace hB := hB.trans (hbi.mono hB.size)
 clear hIi hbi
 obtain ⟨r, hr⟩ : ∃ r, Hid (s.may o = r) := ⟨_, Lib.hid rfl⟩
 rw [hr.out]
 have hfw := hs.few
 rw [List.length_append] at hfw
 have hfm := hs.fewM
 have zk := hC.op.ck
 rw [hk] at zk
 have zb := hC.op.cb
 have z1 := hC.box.c1
 go_enter Tryd.func28, Tryd.ntmps28
 go_upto_region 1 with (first | (rw [hwb.out]) | (rw [hwo.out]) | (rw [hwi.out]) | fail)
 rw [hbxn.out, hbon.out, hbin.out]
 go_wp2_with (first
  | (refine wpList_load_row rfl 60 _ rfl bx rfl 60 (rfC a s vs.length) (0, 0) _ hC.box Tryd.underlying60 rfl (by kernel_rfl) ?_)
  | fail)
 refine (OfR_any _ a.pc a.cc _ _ _ _ _ o.b hC.rf.cards).mono ?_
 rintro e w1_ ⟨rfl, hb_⟩
 replace hC := hC.below hb_
 replace hB := hB.trans (hb_.mono hB.size)
 clear hb_
 have zk := hC.op.ck
 rw [hk] at zk
 have zb := hC.op.cb
 have z1 := hC.box.c1
 obtain ⟨m, hm⟩ : ∃ m, Hid (ofD o.b = m) := ⟨_, Lib.hid rfl⟩
 rw [hm.out]
 obtain ⟨xi, hxi⟩ : ∃ xi, Hid (decide (o.b ∈ s.ins) = xi) := ⟨_, Lib.hid rfl⟩
 have hmay : Hid (r = if s.inB o.b = false then 15 else s.ask o m) := Lib.hid (by rw [← hr.out, ← hm.out]; unfold RS.may; rw [if_neg (by rw [hk]; decide)])
 go_wp2_with fail
 refine (HasL_any a.pi s.ins.length s.ins a.ci o.b _ hC.rf.ins (by omega)).mono ?_
 rintro e _ ⟨rfl, rfl⟩
 rw [hxi.out]
 cases xi with
 | false =>
  have hq : Hid (r = 15) := Lib.hid (by rw [hmay.out, if_pos (show s.inB o.b = false from hxi.out)])
  go_wp2_with fail
  go_ret
  exact ⟨ret_int hq.out.symm, hB⟩
 | true =>
  have hask : Hid (r = s.askOwn o m) := Lib.hid (by rw [hmay.out, if_neg (by rw [show s.inB o.b = true from hxi.out]; simp)]; unfold RS.ask; rw [if_neg (by rw [hk]; decide), if_neg (by rw [hk]; decide), if_neg (by rw [hk]; decide), if_neg (by rw [hk]; decide), if_neg (by rw [hk]; decide), if_neg (by rw [hk]; decide), if_neg (by rw [hk]; decide), if_neg (by rw [hk]; decide), if_pos hk])
  go_upto_region 10 with fail
  go_wp2_with (first
   | (refine wpList_load_row rfl 60 _ rfl bx rfl 60 (rfC a s vs.length) (0, 0) _ hC.box Tryd.underlying60 rfl (by kernel_rfl) ?_)
   | fail)
  refine (RoleR_any _ a s L vs m hC.rf (by omega)).mono ?_
  rintro e w3_ ⟨rfl, hb_⟩
  replace hC := hC.below hb_
  replace hB := hB.trans (hb_.mono hB.size)
  clear hb_
  have zk := hC.op.ck
  rw [hk] at zk
  have zb := hC.op.cb
  have z1 := hC.box.c1
  obtain ⟨rl, hrl⟩ : ∃ rl, Hid (s.role m = rl) := ⟨_, Lib.hid rfl⟩
  rw [hrl.out]
  obtain ⟨ru, hru⟩ : ∃ ru, (rl == 3) = ru := ⟨_, rfl⟩
  have hrules : Hid (s.rules m = ru) := Lib.hid (by unfold RS.rules; rw [hrl.out, ← hru]; rfl)
  go_upto_region 39 with fail
  go_wp2_with (first
   | (refine wpList_load_row rfl 60 _ rfl bx rfl 60 (rfC a s vs.length) (0, 0) _ hC.box Tryd.underlying60 rfl (by kernel_rfl) ?_)
   | fail)
  refine (MemR_any _ a s L vs m hC.rf (by omega)).mono ?_
  rintro e w4_ ⟨rfl, hb_⟩
  replace hC := hC.below hb_
  replace hB := hB.trans (hb_.mono hB.size)
  clear hb_
  have zk := hC.op.ck
  rw [hk] at zk
  have zb := hC.op.cb
  have z1 := hC.box.c1
  rcases memI_cases s m with ⟨h1, h2⟩ | ⟨k, mb, h1, h2, h3⟩
  ·rw [h1]
   replace h2 := Lib.hid h2
   have hq : Hid (r = 25) := Lib.hid (by rw [hask.out]; unfold RS.askOwn; rw [h2.out]; rfl)
   go_wp2_with fail
   go_ret
   exact ⟨ret_int hq.out.symm, hB⟩
  ·rw [h1]
   obtain ⟨hk', h2e⟩ := List.getElem?_eq_some_iff.1 h2
   obtain ⟨b, off, x, hxL, hxs, hp, _, _, hc⟩ := hC.rf.at_ hk'
   obtain ⟨xm, xp, xc⟩ := x
   obtain rfl : xm = (m, mb) := hxs.trans h2e
   obtain ⟨mr, go⟩ := mb
   have hix1 : (0 : Int) ≤ (k : Int) := by omega
   have hix2 : (k : Int) < (s.ms.length : Int) := by omega
   have t2 : decide ((k : Int) < 0) = false := decide_eq_false (by omega)
   have k3 := hC.box.c3
   rw [hp] at k3
   have f0 := hC.op.cfb
   have f1 := hC.op.cfs
   have f2 := hC.op.cfu
   have c2 := hc 2 _ rfl
   have c3 := hc 3 _ rfl
   have c4 := hc 4 _ rfl
   have c5 := hc 5 _ rfl
   replace c4 : w4_.cell? ⟨b, off + k * 11 + 3 + 1, none⟩ = _ := c4
   replace c5 : w4_.cell? ⟨b, off + k * 11 + 3 + 2, none⟩ = _ := c5
   replace f1 : w4_.cell? ⟨bo, 16 + 1, none⟩ = _ := f1
   replace f2 : w4_.cell? ⟨bo, 16 + 2, none⟩ = _ := f2
   replace h2 := Lib.hid h2
   replace h2e := Lib.hid h2e
   replace hc := Lib.hid hc
   replace hxs := Lib.hid hxs
   replace h1 := Lib.hid h1
   replace hxL := Lib.hid hxL
   have hst := id_stood
   have hgd := id_guard
   go_upto_region 42 with fail
   obtain ⟨wd, hwd⟩ : ∃ wd, Hid (w4_.drew = wd) := ⟨_, Lib.hid rfl⟩
   have hw0 : Below w4_.heap.size w4_ wd := by rw [← hwd.out]; exact (Below.refl _ _).drew
   replace k3 := (hw0.cell (cell_lt k3)).trans k3
   replace f0 := (hw0.cell (cell_lt f0)).trans f0
   replace f1 := (hw0.cell (cell_lt f1)).trans f1
   replace f2 := (hw0.cell (cell_lt f2)).trans f2
   replace c2 := (hw0.cell (cell_lt c2)).trans c2
   replace c3 := (hw0.cell (cell_lt c3)).trans c3
   replace c4 := (hw0.cell (cell_lt c4)).trans c4
   replace c5 := (hw0.cell (cell_lt c5)).trans c5
   have hBd := hB.trans (hw0.mono hB.size)
   have hb0 : Below wd.heap.size wd wd := Below.refl _ _
   refine wp_region_D (D := fun T => Below wd.heap.size wd T) (by kernel_rfl) ?_
   rw [hwd.out]
   change wpAnyD _ _ _ _ _ 18 _ _ _
   cases go with
   | none =>
    replace c2 : wd.cell? ⟨b, off + k * 11 + 2, none⟩ = some (.bool false) := c2
    have hq : Hid (r = 25) := Lib.hid (by rw [hask.out]; unfold RS.askOwn; rw [h3]; rfl)
    replace h3 := Lib.hid h3
    apply tkD 0 hb0 rfl
    ·intro T hT
     have hT0 := (hT.cell (cell_lt k3)).trans k3
     go_simp
     try rfl
    try go_frame
    apply tkD 1 hb0 rfl
    ·intro T hT
     have hT0 := (hT.cell (cell_lt k3)).trans k3
     go_simp
     try rfl
    try go_frame
    apply tkD 2 hb0 rfl
    ·intro T hT
     have hT0 := (hT.cell (cell_lt k3)).trans k3
     go_simp
     try rfl
    try go_frame
    apply tkD 3 hb0 rfl
    ·intro T hT
     have hT0 := (hT.cell (cell_lt k3)).trans k3
     go_simp
     try rfl
    try go_frame
    apply tkD 4 hb0 rfl
    ·intro T hT
     have hT0 := (hT.cell (cell_lt k3)).trans k3
     go_simp
     try rfl
    try go_frame
    apply tkD 5 hb0 rfl
    ·intro T hT
     have hT0 := (hT.cell (cell_lt c2)).trans c2
     go_simp
     try rfl
    try go_frame
    apply tkD 6 hb0 rfl
    ·intro T hT
     go_simp
     try rfl
    try go_frame
    apply tkD 7 hb0 rfl
    ·intro T hT
     go_simp
     try rfl
    try go_frame
    apply noD 8 hb0 rfl
    try go_frame
    apply noD 9 hb0 rfl
    try go_frame
    apply noD 10 hb0 rfl
    try go_frame
    apply noD 11 hb0 rfl
    try go_frame
    apply noD 12 hb0 rfl
    try go_frame
    apply noD 13 hb0 rfl
    try go_frame
    apply noD 14 hb0 rfl
    try go_frame
    apply noD 15 hb0 rfl
    try go_frame
    apply noD 16 hb0 rfl
    try go_frame
    apply tkD 17 hb0 rfl
    ·intro T hT
     go_simp
     try rfl
    try go_frame
    refine wpAnyD_done (by kernel_rfl) ?_ _
    go_wp2_with fail
    go_ret
    exact ⟨ret_int hq.out.symm, hBd⟩
   | some g =>
    replace c2 : wd.cell? ⟨b, off + k * 11 + 2, none⟩ = some (.bool true) := c2
    replace c3 : wd.cell? ⟨b, off + k * 11 + 3, none⟩ = some (.int .i64 g.id.b) := c3
    replace c4 : wd.cell? ⟨b, off + k * 11 + 3 + 1, none⟩ = some (.int .i64 g.id.s) := c4
    replace c5 : wd.cell? ⟨b, off + k * 11 + 3 + 2, none⟩ = some (.int .u64 g.id.u) := c5
    have hid := fun T => id_neq g.id o.f T
    obtain ⟨xb, hxb⟩ : ∃ xb, Hid (decide (g.id = o.f) = xb) := ⟨_, Lib.hid rfl⟩
    rw [hxb.out] at hid
    have hq' : Hid (r = if xb = true then 0 else 25) := Lib.hid (by rw [hask.out]; unfold RS.askOwn; rw [h3, ← hxb.out]; rfl)
    replace h3 := Lib.hid h3
    apply tkD 0 hb0 rfl
    ·intro T hT
     have hT0 := (hT.cell (cell_lt k3)).trans k3
     go_simp
     try rfl
    try go_frame
    apply tkD 1 hb0 rfl
    ·intro T hT
     have hT0 := (hT.cell (cell_lt k3)).trans k3
     go_simp
     try rfl
    try go_frame
    apply tkD 2 hb0 rfl
    ·intro T hT
     have hT0 := (hT.cell (cell_lt k3)).trans k3
     go_simp
     try rfl
    try go_frame
    apply tkD 3 hb0 rfl
    ·intro T hT
     have hT0 := (hT.cell (cell_lt k3)).trans k3
     go_simp
     try rfl
    try go_frame
    apply tkD 4 hb0 rfl
    ·intro T hT
     have hT0 := (hT.cell (cell_lt k3)).trans k3
     go_simp
     try rfl
    try go_frame
    apply tkD 5 hb0 rfl
    ·intro T hT
     have hT0 := (hT.cell (cell_lt c2)).trans c2
     go_simp
     try rfl
    try go_frame
    apply tkD 6 hb0 rfl
    ·intro T hT
     go_simp
     try rfl
    try go_frame
    apply tkD 7 hb0 rfl
    ·intro T hT
     go_simp
     try rfl
    try go_frame
    apply tkD 8 hb0 rfl
    ·intro T hT
     have hT0 := (hT.cell (cell_lt k3)).trans k3
     go_simp
     try rfl
    try go_frame
    apply tkD 9 hb0 rfl
    ·intro T hT
     have hT0 := (hT.cell (cell_lt k3)).trans k3
     go_simp
     try rfl
    try go_frame
    apply tkD 10 hb0 rfl
    ·intro T hT
     have hT0 := (hT.cell (cell_lt k3)).trans k3
     go_simp
     try rfl
    try go_frame
    apply tkD 11 hb0 rfl
    ·intro T hT
     have hT0 := (hT.cell (cell_lt k3)).trans k3
     go_simp
     try rfl
    try go_frame
    apply tkD 12 hb0 rfl
    ·intro T hT
     have hT0 := (hT.cell (cell_lt k3)).trans k3
     go_simp
     try rfl
    try go_frame
    apply tkD 13 hb0 rfl
    ·intro T hT
     have hT0 := (hT.cell (cell_lt c3)).trans c3
     have hT1 := (hT.cell (cell_lt c4)).trans c4
     have hT2 := (hT.cell (cell_lt c5)).trans c5
     go_simp
     try rfl
    try go_frame
    apply tkD 14 hb0 rfl
    ·intro T hT
     go_simp
     try rfl
    try go_frame
    apply tkD 15 hb0 rfl
    ·intro T hT
     have hT0 := (hT.cell (cell_lt f0)).trans f0
     have hT1 := (hT.cell (cell_lt f1)).trans f1
     have hT2 := (hT.cell (cell_lt f2)).trans f2
     go_simp
     try rfl
    try go_frame
    apply tkD 16 hb0 rfl
    ·intro T hT
     go_simp
     try rfl
    try go_frame
    apply tkD 17 hb0 rfl
    ·intro T hT
     go_simp
     try rfl
    try go_frame
    refine wpAnyD_done (by kernel_rfl) ?_ _
    cases xb with
    | true =>
     have hq : Hid (r = 0) := Lib.hid (by rw [hq'.out]; rfl)
     go_wp2_with fail
     go_ret
     exact ⟨ret_int hq.out.symm, hBd⟩
    | false =>
     have hq : Hid (r = 25) := Lib.hid (by rw [hq'.out]; rfl)
     go_wp2_with fail
     go_ret
     exact ⟨ret_int hq.out.symm, hBd⟩
set_option maxRecDepth 100000 in
set_option maxHeartbeats 8000000 in
theorem MayR_11 (w : World) (a : RfV) (s : RS) (L : List ME) (vs : List VI) (o : OpI) (gp : Option Addr) (gc : Nat) (i : Idn) (kk : Nat) (hR : RfAt w a s L vs) (hV : VsOk s vs) (hs : s.Ok kk) (hkk : kk ≤ 1000) (hk : o.k = 11) :
  Calls Tryd.prog 28 #[.agg (rfC a s vs.length), .agg (opC o gp gc), .agg #[.int .i64 i.b, .int .i64 i.s, .int .u64 i.u]] w fun e w' => e = .returned (.int .i64 (s.may o)) ∧ Below w.heap.size w w' := by
 have hbx := Below.lit w (.cells (rfC a s vs.length) 60)
 have hRb := hR.below hbx
 have hBx := RfBox.made w a s vs.length
 obtain ⟨wb, hwb, hBx⟩ := nameW (p := fun W => RfBox W w.heap.size a s vs.length) hBx
 rw [hwb.out] at hbx hRb
 obtain ⟨bx, hbxn⟩ : ∃ bx, Hid (w.heap.size = bx) := ⟨_, Lib.hid rfl⟩
 rw [hbxn.out] at hBx
 have hbo := Below.lit wb (.cells (opC o gp gc) 42)
 have hOo := OpAt.made wb o gp gc
 obtain ⟨wo, hwo, hOo⟩ := nameW (p := fun W => OpAt W wb.heap.size o gp gc) hOo
 rw [hwo.out] at hbo
 obtain ⟨bo, hbon⟩ : ∃ bo, Hid (wb.heap.size = bo) := ⟨_, Lib.hid rfl⟩
 rw [hbon.out] at hOo
 have hC : RCtx wo bx bo a s L vs o gp gc := ⟨hRb.below hbo, hBx.below hbo, hOo⟩
 have hB := hbx.trans (hbo.mono hbx.size)
 clear hRb hBx hOo hbo hbx
 have hbi := Below.lit wo (.cells #[.int .i64 i.b, .int .i64 i.s, .int .u64 i.u] 34)
 obtain ⟨wi, hwi, hIi⟩ := nameW (p := fun W => IdAt W wo.heap.size i) (IdAt.made wo i)
 rw [hwi.out] at hbi
 obtain ⟨bi, hbin⟩ : ∃ bi, Hid (wo.heap.size = bi) := ⟨_, Lib.hid rfl⟩
 rw [hbin.out] at hIi
 replace hC := hC.below hbi
 replace hB := hB.trans (hbi.mono hB.size)
 clear hIi hbi
 obtain ⟨r, hr⟩ : ∃ r, Hid (s.may o = r) := ⟨_, Lib.hid rfl⟩
 rw [hr.out]
 have hfw := hs.few
 rw [List.length_append] at hfw
 have hfm := hs.fewM
 have zk := hC.op.ck
 rw [hk] at zk
 have zb := hC.op.cb
 have z1 := hC.box.c1
 go_enter Tryd.func28, Tryd.ntmps28
 go_upto_region 1 with (first | (rw [hwb.out]) | (rw [hwo.out]) | (rw [hwi.out]) | fail)
 rw [hbxn.out, hbon.out, hbin.out]
 go_wp2_with (first
  | (refine wpList_load_row rfl 60 _ rfl bx rfl 60 (rfC a s vs.length) (0, 0) _ hC.box Tryd.underlying60 rfl (by kernel_rfl) ?_)
  | fail)
 refine (OfR_any _ a.pc a.cc _ _ _ _ _ o.b hC.rf.cards).mono ?_
 rintro e w1_ ⟨rfl, hb_⟩
 replace hC := hC.below hb_
 replace hB := hB.trans (hb_.mono hB.size)
 clear hb_
 have zk := hC.op.ck
 rw [hk] at zk
 have zb := hC.op.cb
 have z1 := hC.box.c1
 obtain ⟨m, hm⟩ : ∃ m, Hid (ofD o.b = m) := ⟨_, Lib.hid rfl⟩
 rw [hm.out]
 obtain ⟨xi, hxi⟩ : ∃ xi, Hid (decide (o.b ∈ s.ins) = xi) := ⟨_, Lib.hid rfl⟩
 have hmay : Hid (r = if s.inB o.b = false then 15 else s.ask o m) := Lib.hid (by rw [← hr.out, ← hm.out]; unfold RS.may; rw [if_neg (by rw [hk]; decide)])
 go_wp2_with fail
 refine (HasL_any a.pi s.ins.length s.ins a.ci o.b _ hC.rf.ins (by omega)).mono ?_
 rintro e _ ⟨rfl, rfl⟩
 rw [hxi.out]
 cases xi with
 | false =>
  have hq : Hid (r = 15) := Lib.hid (by rw [hmay.out, if_pos (show s.inB o.b = false from hxi.out)])
  go_wp2_with fail
  go_ret
  exact ⟨ret_int hq.out.symm, hB⟩
 | true =>
  have hask : Hid (r = s.askVouch o m) := Lib.hid (by rw [hmay.out, if_neg (by rw [show s.inB o.b = true from hxi.out]; simp)]; unfold RS.ask; rw [if_neg (by rw [hk]; decide), if_neg (by rw [hk]; decide), if_neg (by rw [hk]; decide), if_neg (by rw [hk]; decide), if_neg (by rw [hk]; decide), if_neg (by rw [hk]; decide), if_neg (by rw [hk]; decide), if_pos hk])
  go_upto_region 10 with fail
  go_wp2_with (first
   | (refine wpList_load_row rfl 60 _ rfl bx rfl 60 (rfC a s vs.length) (0, 0) _ hC.box Tryd.underlying60 rfl (by kernel_rfl) ?_)
   | fail)
  refine (RoleR_any _ a s L vs m hC.rf (by omega)).mono ?_
  rintro e w3_ ⟨rfl, hb_⟩
  replace hC := hC.below hb_
  replace hB := hB.trans (hb_.mono hB.size)
  clear hb_
  have zk := hC.op.ck
  rw [hk] at zk
  have zb := hC.op.cb
  have z1 := hC.box.c1
  obtain ⟨rl, hrl⟩ : ∃ rl, Hid (s.role m = rl) := ⟨_, Lib.hid rfl⟩
  rw [hrl.out]
  obtain ⟨ru, hru⟩ : ∃ ru, (rl == 3) = ru := ⟨_, rfl⟩
  have hrules : Hid (s.rules m = ru) := Lib.hid (by unfold RS.rules; rw [hrl.out, ← hru]; rfl)
  go_upto_region 46 with fail
  go_wp2_with (first
   | (refine wpList_load_row rfl 60 _ rfl bx rfl 60 (rfC a s vs.length) (0, 0) _ hC.box Tryd.underlying60 rfl (by kernel_rfl) ?_)
   | (refine wpList_load_row rfl 42 _ rfl bo rfl 42 (opC o gp gc) (0, 0) _ hC.op Tryd.underlying42 rfl (by kernel_rfl) ?_)
   | fail)
  refine (recV_any _ a s L vs o gp gc kk hC.rf hV hs hkk hk).mono ?_
  rintro e w4_ ⟨rfl, hb_⟩
  replace hC := hC.below hb_
  replace hB := hB.trans (hb_.mono hB.size)
  clear hb_
  have zk := hC.op.ck
  rw [hk] at zk
  have zb := hC.op.cb
  have z1 := hC.box.c1
  obtain ⟨rr, hrr⟩ : ∃ rr, Hid (s.askVouch o 0 = rr) := ⟨_, Lib.hid rfl⟩
  rw [hrr.out]
  have hq : Hid (r = rr) := Lib.hid (by rw [hask.out]; rw [← hrr.out]; rfl)
  go_wp2_with fail
  go_ret
  exact ⟨ret_int hq.out.symm, hB⟩
set_option maxRecDepth 100000 in
set_option maxHeartbeats 8000000 in
theorem MayR_13 (w : World) (a : RfV) (s : RS) (L : List ME) (vs : List VI) (o : OpI) (gp : Option Addr) (gc : Nat) (i : Idn) (kk : Nat) (hR : RfAt w a s L vs) (hV : VsOk s vs) (hs : s.Ok kk) (hkk : kk ≤ 1000) (hk : o.k = 13) :
  Calls Tryd.prog 28 #[.agg (rfC a s vs.length), .agg (opC o gp gc), .agg #[.int .i64 i.b, .int .i64 i.s, .int .u64 i.u]] w fun e w' => e = .returned (.int .i64 (s.may o)) ∧ Below w.heap.size w w' := by
 have hbx := Below.lit w (.cells (rfC a s vs.length) 60)
 have hRb := hR.below hbx
 have hBx := RfBox.made w a s vs.length
 obtain ⟨wb, hwb, hBx⟩ := nameW (p := fun W => RfBox W w.heap.size a s vs.length) hBx
 rw [hwb.out] at hbx hRb
 obtain ⟨bx, hbxn⟩ : ∃ bx, Hid (w.heap.size = bx) := ⟨_, Lib.hid rfl⟩
 rw [hbxn.out] at hBx
 have hbo := Below.lit wb (.cells (opC o gp gc) 42)
 have hOo := OpAt.made wb o gp gc
 obtain ⟨wo, hwo, hOo⟩ := nameW (p := fun W => OpAt W wb.heap.size o gp gc) hOo
 rw [hwo.out] at hbo
 obtain ⟨bo, hbon⟩ : ∃ bo, Hid (wb.heap.size = bo) := ⟨_, Lib.hid rfl⟩
 rw [hbon.out] at hOo
 have hC : RCtx wo bx bo a s L vs o gp gc := ⟨hRb.below hbo, hBx.below hbo, hOo⟩
 have hB := hbx.trans (hbo.mono hbx.size)
 clear hRb hBx hOo hbo hbx
 have hbi := Below.lit wo (.cells #[.int .i64 i.b, .int .i64 i.s, .int .u64 i.u] 34)
 obtain ⟨wi, hwi, hIi⟩ := nameW (p := fun W => IdAt W wo.heap.size i) (IdAt.made wo i)
 rw [hwi.out] at hbi
 obtain ⟨bi, hbin⟩ : ∃ bi, Hid (wo.heap.size = bi) := ⟨_, Lib.hid rfl⟩
 rw [hbin.out] at hIi
 replace hC := hC.below hbi
 replace hB := hB.trans (hbi.mono hB.size)
 clear hIi hbi
 obtain ⟨r, hr⟩ : ∃ r, Hid (s.may o = r) := ⟨_, Lib.hid rfl⟩
 rw [hr.out]
 have hfw := hs.few
 rw [List.length_append] at hfw
 have hfm := hs.fewM
 have zk := hC.op.ck
 rw [hk] at zk
 have zb := hC.op.cb
 have z1 := hC.box.c1
 go_enter Tryd.func28, Tryd.ntmps28
 go_upto_region 1 with (first | (rw [hwb.out]) | (rw [hwo.out]) | (rw [hwi.out]) | fail)
 rw [hbxn.out, hbon.out, hbin.out]
 go_wp2_with (first
  | (refine wpList_load_row rfl 60 _ rfl bx rfl 60 (rfC a s vs.length) (0, 0) _ hC.box Tryd.underlying60 rfl (by kernel_rfl) ?_)
  | fail)
 refine (OfR_any _ a.pc a.cc _ _ _ _ _ o.b hC.rf.cards).mono ?_
 rintro e w1_ ⟨rfl, hb_⟩
 replace hC := hC.below hb_
 replace hB := hB.trans (hb_.mono hB.size)
 clear hb_
 have zk := hC.op.ck
 rw [hk] at zk
 have zb := hC.op.cb
 have z1 := hC.box.c1
 obtain ⟨m, hm⟩ : ∃ m, Hid (ofD o.b = m) := ⟨_, Lib.hid rfl⟩
 rw [hm.out]
 obtain ⟨xi, hxi⟩ : ∃ xi, Hid (decide (o.b ∈ s.ins) = xi) := ⟨_, Lib.hid rfl⟩
 have hmay : Hid (r = if s.inB o.b = false then 15 else s.ask o m) := Lib.hid (by rw [← hr.out, ← hm.out]; unfold RS.may; rw [if_neg (by rw [hk]; decide)])
 go_wp2_with fail
 refine (HasL_any a.pi s.ins.length s.ins a.ci o.b _ hC.rf.ins (by omega)).mono ?_
 rintro e _ ⟨rfl, rfl⟩
 rw [hxi.out]
 cases xi with
 | false =>
  have hq : Hid (r = 15) := Lib.hid (by rw [hmay.out, if_pos (show s.inB o.b = false from hxi.out)])
  go_wp2_with fail
  go_ret
  exact ⟨ret_int hq.out.symm, hB⟩
 | true =>
  have hask : Hid (r = s.askReplace o m) := Lib.hid (by rw [hmay.out, if_neg (by rw [show s.inB o.b = true from hxi.out]; simp)]; unfold RS.ask; rw [if_neg (by rw [hk]; decide), if_neg (by rw [hk]; decide), if_neg (by rw [hk]; decide), if_neg (by rw [hk]; decide), if_neg (by rw [hk]; decide), if_neg (by rw [hk]; decide), if_neg (by rw [hk]; decide), if_neg (by rw [hk]; decide), if_neg (by rw [hk]; decide), if_pos hk])
  go_upto_region 10 with fail
  go_wp2_with (first
   | (refine wpList_load_row rfl 60 _ rfl bx rfl 60 (rfC a s vs.length) (0, 0) _ hC.box Tryd.underlying60 rfl (by kernel_rfl) ?_)
   | fail)
  refine (RoleR_any _ a s L vs m hC.rf (by omega)).mono ?_
  rintro e w3_ ⟨rfl, hb_⟩
  replace hC := hC.below hb_
  replace hB := hB.trans (hb_.mono hB.size)
  clear hb_
  have zk := hC.op.ck
  rw [hk] at zk
  have zb := hC.op.cb
  have z1 := hC.box.c1
  obtain ⟨rl, hrl⟩ : ∃ rl, Hid (s.role m = rl) := ⟨_, Lib.hid rfl⟩
  rw [hrl.out]
  obtain ⟨ru, hru⟩ : ∃ ru, (rl == 3) = ru := ⟨_, rfl⟩
  have hrules : Hid (s.rules m = ru) := Lib.hid (by unfold RS.rules; rw [hrl.out, ← hru]; rfl)
  go_upto_region 46 with fail
  go_wp2_with (first
   | (refine wpList_load_row rfl 60 _ rfl bx rfl 60 (rfC a s vs.length) (0, 0) _ hC.box Tryd.underlying60 rfl (by kernel_rfl) ?_)
   | (refine wpList_load_row rfl 42 _ rfl bo rfl 42 (opC o gp gc) (0, 0) _ hC.op Tryd.underlying42 rfl (by kernel_rfl) ?_)
   | fail)
  refine (recP_any _ a s L vs o gp gc kk hC.rf hV hs hkk hk).mono ?_
  rintro e w4_ ⟨rfl, hb_⟩
  replace hC := hC.below hb_
  replace hB := hB.trans (hb_.mono hB.size)
  clear hb_
  have zk := hC.op.ck
  rw [hk] at zk
  have zb := hC.op.cb
  have z1 := hC.box.c1
  obtain ⟨rr, hrr⟩ : ∃ rr, Hid (s.askReplace o 0 = rr) := ⟨_, Lib.hid rfl⟩
  rw [hrr.out]
  have hq : Hid (r = rr) := Lib.hid (by rw [hask.out]; rw [← hrr.out]; rfl)
  go_wp2_with fail
  go_ret
  exact ⟨ret_int hq.out.symm, hB⟩
set_option maxRecDepth 100000 in
set_option maxHeartbeats 8000000 in
theorem MayR_no (w : World) (a : RfV) (s : RS) (L : List ME) (vs : List VI) (o : OpI) (gp : Option Addr) (gc : Nat) (i : Idn) (kk : Nat) (hR : RfAt w a s L vs) (_hV : VsOk s vs) (hs : s.Ok kk) (_hkk : kk ≤ 1000) (hk : ∀ c ∈ ([1, 2, 3, 5, 6, 8, 9, 10, 11, 12, 13] : List Int), o.k ≠ c) :
  Calls Tryd.prog 28 #[.agg (rfC a s vs.length), .agg (opC o gp gc), .agg #[.int .i64 i.b, .int .i64 i.s, .int .u64 i.u]] w fun e w' => e = .returned (.int .i64 (s.may o)) ∧ Below w.heap.size w w' := by
 have hbx := Below.lit w (.cells (rfC a s vs.length) 60)
 have hRb := hR.below hbx
 have hBx := RfBox.made w a s vs.length
 obtain ⟨wb, hwb, hBx⟩ := nameW (p := fun W => RfBox W w.heap.size a s vs.length) hBx
 rw [hwb.out] at hbx hRb
 obtain ⟨bx, hbxn⟩ : ∃ bx, Hid (w.heap.size = bx) := ⟨_, Lib.hid rfl⟩
 rw [hbxn.out] at hBx
 have hbo := Below.lit wb (.cells (opC o gp gc) 42)
 have hOo := OpAt.made wb o gp gc
 obtain ⟨wo, hwo, hOo⟩ := nameW (p := fun W => OpAt W wb.heap.size o gp gc) hOo
 rw [hwo.out] at hbo
 obtain ⟨bo, hbon⟩ : ∃ bo, Hid (wb.heap.size = bo) := ⟨_, Lib.hid rfl⟩
 rw [hbon.out] at hOo
 have hC : RCtx wo bx bo a s L vs o gp gc := ⟨hRb.below hbo, hBx.below hbo, hOo⟩
 have hB := hbx.trans (hbo.mono hbx.size)
 clear hRb hBx hOo hbo hbx
 have hbi := Below.lit wo (.cells #[.int .i64 i.b, .int .i64 i.s, .int .u64 i.u] 34)
 obtain ⟨wi, hwi, hIi⟩ := nameW (p := fun W => IdAt W wo.heap.size i) (IdAt.made wo i)
 rw [hwi.out] at hbi
 obtain ⟨bi, hbin⟩ : ∃ bi, Hid (wo.heap.size = bi) := ⟨_, Lib.hid rfl⟩
 rw [hbin.out] at hIi
 replace hC := hC.below hbi
 replace hB := hB.trans (hbi.mono hB.size)
 clear hIi hbi
 obtain ⟨r, hr⟩ : ∃ r, Hid (s.may o = r) := ⟨_, Lib.hid rfl⟩
 rw [hr.out]
 have hfw := hs.few
 rw [List.length_append] at hfw
 have hfm := hs.fewM
 have zk := hC.op.ck
 have zb := hC.op.cb
 have z1 := hC.box.c1
 go_enter Tryd.func28, Tryd.ntmps28
 go_upto_region 1 with (first | (rw [hwb.out]) | (rw [hwo.out]) | (rw [hwi.out]) | fail)
 rw [hbxn.out, hbon.out, hbin.out]
 go_wp2_with (first
  | (refine wpList_load_row rfl 60 _ rfl bx rfl 60 (rfC a s vs.length) (0, 0) _ hC.box Tryd.underlying60 rfl (by kernel_rfl) ?_)
  | fail)
 refine (OfR_any _ a.pc a.cc _ _ _ _ _ o.b hC.rf.cards).mono ?_
 rintro e w1_ ⟨rfl, hb_⟩
 replace hC := hC.below hb_
 replace hB := hB.trans (hb_.mono hB.size)
 clear hb_
 have zk := hC.op.ck
 have zb := hC.op.cb
 have z1 := hC.box.c1
 obtain ⟨m, hm⟩ : ∃ m, Hid (ofD o.b = m) := ⟨_, Lib.hid rfl⟩
 rw [hm.out]
 obtain ⟨xi, hxi⟩ : ∃ xi, Hid (decide (o.b ∈ s.ins) = xi) := ⟨_, Lib.hid rfl⟩
 have hmay : Hid (r = if s.inB o.b = false then 15 else s.ask o m) := Lib.hid (by rw [← hr.out, ← hm.out]; unfold RS.may; rw [if_neg (by exact hk 1 (by simp))])
 have n1 : (o.k == 1) = false := beq_eq_false_iff_ne.2 (hk 1 (by simp))
 go_wp2_with fail
 refine (HasL_any a.pi s.ins.length s.ins a.ci o.b _ hC.rf.ins (by omega)).mono ?_
 rintro e _ ⟨rfl, rfl⟩
 rw [hxi.out]
 cases xi with
 | false =>
  have hq : Hid (r = 15) := Lib.hid (by rw [hmay.out, if_pos (show s.inB o.b = false from hxi.out)])
  go_wp2_with fail
  go_ret
  exact ⟨ret_int hq.out.symm, hB⟩
 | true =>
  have hask : Hid (r = 0) := Lib.hid (by rw [hmay.out, if_neg (by rw [show s.inB o.b = true from hxi.out]; simp)]; unfold RS.ask; rw [if_neg (hk 2 (by simp)), if_neg (hk 3 (by simp)), if_neg (hk 5 (by simp)), if_neg (hk 6 (by simp)), if_neg (hk 8 (by simp)), if_neg (hk 9 (by simp)), if_neg (hk 10 (by simp)), if_neg (hk 11 (by simp)), if_neg (hk 12 (by simp)), if_neg (hk 13 (by simp))])
  go_upto_region 10 with fail
  go_wp2_with (first
   | (refine wpList_load_row rfl 60 _ rfl bx rfl 60 (rfC a s vs.length) (0, 0) _ hC.box Tryd.underlying60 rfl (by kernel_rfl) ?_)
   | fail)
  refine (RoleR_any _ a s L vs m hC.rf (by omega)).mono ?_
  rintro e w3_ ⟨rfl, hb_⟩
  replace hC := hC.below hb_
  replace hB := hB.trans (hb_.mono hB.size)
  clear hb_
  have zk := hC.op.ck
  have zb := hC.op.cb
  have z1 := hC.box.c1
  obtain ⟨rl, hrl⟩ : ∃ rl, Hid (s.role m = rl) := ⟨_, Lib.hid rfl⟩
  rw [hrl.out]
  obtain ⟨ru, hru⟩ : ∃ ru, (rl == 3) = ru := ⟨_, rfl⟩
  have hrules : Hid (s.rules m = ru) := Lib.hid (by unfold RS.rules; rw [hrl.out, ← hru]; rfl)
  have n2 : (o.k == 2) = false := beq_eq_false_iff_ne.2 (hk 2 (by simp))
  have n3 : (o.k == 3) = false := beq_eq_false_iff_ne.2 (hk 3 (by simp))
  have n5 : (o.k == 5) = false := beq_eq_false_iff_ne.2 (hk 5 (by simp))
  have n6 : (o.k == 6) = false := beq_eq_false_iff_ne.2 (hk 6 (by simp))
  have n8 : (o.k == 8) = false := beq_eq_false_iff_ne.2 (hk 8 (by simp))
  have n9 : (o.k == 9) = false := beq_eq_false_iff_ne.2 (hk 9 (by simp))
  have n10 : (o.k == 10) = false := beq_eq_false_iff_ne.2 (hk 10 (by simp))
  have n11 : (o.k == 11) = false := beq_eq_false_iff_ne.2 (hk 11 (by simp))
  have n12 : (o.k == 12) = false := beq_eq_false_iff_ne.2 (hk 12 (by simp))
  have n13 : (o.k == 13) = false := beq_eq_false_iff_ne.2 (hk 13 (by simp))
  have hq : Hid (r = 0) := Lib.hid hask.out
  go_wp2_with fail
  go_ret
  exact ⟨ret_int hq.out.symm, hB⟩
theorem MayR_any (w : World) (a : RfV) (s : RS) (L : List ME) (vs : List VI) (o : OpI) (gp : Option Addr) (gc : Nat) (i : Idn) (kk : Nat) (hR : RfAt w a s L vs) (hV : VsOk s vs) (hs : s.Ok kk) (hkk : kk ≤ 1000) (hU : UI w gp o.gs.length o.gs) (hgl : o.gs.length ≤ 1000) :
  Calls Tryd.prog 28 #[.agg (rfC a s vs.length), .agg (opC o gp gc), .agg #[.int .i64 i.b, .int .i64 i.s, .int .u64 i.u]] w fun e w' => e = .returned (.int .i64 (s.may o)) ∧ Below w.heap.size w w' := by
 by_cases h1 : o.k = 1
 ·exact MayR_1 w a s L vs o gp gc i kk hR hV hs hkk h1
 by_cases h2 : o.k = 2
 ·exact MayR_2 w a s L vs o gp gc i kk hR hV hs hkk h2
 by_cases h3 : o.k = 3
 ·exact MayR_3 w a s L vs o gp gc i kk hR hV hs hkk h3
 by_cases h5 : o.k = 5
 ·exact MayR_5 w a s L vs o gp gc i kk hR hV hs hkk h5
 by_cases h6 : o.k = 6
 ·exact MayR_6 w a s L vs o gp gc i kk hR hV hs hkk h6
 by_cases h8 : o.k = 8
 ·exact MayR_8 w a s L vs o gp gc i kk hR hV hs hkk h8
 by_cases h9 : o.k = 9
 ·exact MayR_9 w a s L vs o gp gc i kk hR hV hs hkk hU hgl h9
 by_cases h10 : o.k = 10
 ·exact MayR_10 w a s L vs o gp gc i kk hR hV hs hkk h10
 by_cases h11 : o.k = 11
 ·exact MayR_11 w a s L vs o gp gc i kk hR hV hs hkk h11
 by_cases h12 : o.k = 12
 ·exact MayR_12 w a s L vs o gp gc i kk hR hV hs hkk h12
 by_cases h13 : o.k = 13
 ·exact MayR_13 w a s L vs o gp gc i kk hR hV hs hkk h13
 refine MayR_no w a s L vs o gp gc i kk hR hV hs hkk fun c hc => ?_
 simp only [List.mem_cons, List.not_mem_nil, or_false] at hc
 rcases hc with rfl | rfl | rfl | rfl | rfl | rfl | rfl | rfl | rfl | rfl | rfl <;> assumption
end Go.Proofs.YtkolilbebkkpdaaDoor

