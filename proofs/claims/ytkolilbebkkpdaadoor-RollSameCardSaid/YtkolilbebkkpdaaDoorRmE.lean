/-
  Rolls; plain Lean: what holds of a roll stays so.
  Lists of structs of the call's own, whatever the struct: how they read; append of one.
  The cards.
  A new roll.
  Names; numbers around; are two rows of numbers the same.
  A variable that holds an operation: three operations (build, alloc, store), each by a law.
  Where a roll stands among other memory; the document's example.
-/
import Derived.Test.YtkolilbebkkpdaaDoorRmB
import Derived.Test.YtkolilbebkkpdaaDoorRmD
import Derived.Laws.Rows
import Derived.Deep.WholeRow
import Derived.Laws.Tables
namespace Go.Proofs.YtkolilbebkkpdaaDoor

theorem Gd.Ok.mono {g : Gd} {k k' : Nat} (h : g.Ok k) (hk : k ≤ k') : g.Ok k' := ⟨h.gl, h.ne, h.gb, h.hn, h.ht, h.hl, Nat.le_trans h.vl hk, h.vb, h.vn, by have := h.hi; omega⟩
theorem RS.Ok.mono {s : RS} {k k' : Nat} (h : s.Ok k) (hk : k ≤ k') : s.Ok k' := ⟨h.ins, h.nd, h.mn, h.mem, fun p hp g hg => (h.gd p hp g hg).mono hk, h.ids, h.bk⟩
theorem new_ok (k : Nat) : RS.Ok RS.new k where
 ins := fun d h => absurd (show d ∈ ([] : List Int) from h) (by simp)
 nd := List.nodup_nil
 mn := List.nodup_nil
 mem := fun p h => absurd (show p ∈ ([] : List (Int × Mb)) from h) (by simp)
 gd := fun p h => absurd (show p ∈ ([] : List (Int × Mb)) from h) (by simp)
 ids := fun i p h => absurd (show p ∈ ([] : List (Int × Mb)) from h) (by simp)
 bk := ⟨Int.le_refl _, by show (0 : Int) ≤ 1000000; decide⟩
theorem RS.Ok.bk_to {s : RS} {k : Nat} (h : s.Ok k) {n : Int} (hn : 0 ≤ n ∧ n ≤ 1000000) : RS.Ok ⟨s.ins, s.gone, s.ms, n⟩ k := ⟨h.ins, h.nd, h.mn, h.mem, h.gd, h.ids, hn⟩
theorem comes_ok {s : RS} {k : Nat} (hs : s.Ok k) (d : Int) {r : Int} (hr : 0 ≤ r ∧ r ≤ 1000000) : (s.comes d r).Ok k := by
 unfold RS.comes
 by_cases hf : s.fresh d = true
 ·rw [if_pos hf]
  unfold RS.fresh RS.wasB at hf
  rw [Bool.and_eq_true, Bool.not_eq_true', decide_eq_false_iff_not, decide_eq_true_eq] at hf
  obtain ⟨h0, hn⟩ := hf
  have hd := ofD_pos h0
  have hb := ofD_bd d
  have hp := more_perm s.ins s.gone d
  have hnd : (s.ins ++ [d] ++ s.gone).Nodup := hp.nodup_iff.2 (nodup_snoc hs.nd hn)
  have hin : ∀ e ∈ s.ins ++ [d] ++ s.gone, 1 ≤ e ∧ e ≤ 7 := fun e he => by
   rw [hp.mem_iff] at he
   rcases List.mem_append.1 he with he | he
   ·exact hs.ins e he
   ·rw [List.mem_singleton] at he; rw [he]; exact hd
  by_cases hm : (s.memb (ofD d)).isSome = true
  ·rw [if_pos hm]
   exact ⟨hin, hnd, hs.mn, hs.mem, hs.gd, hs.ids, hs.bk⟩
  ·rw [if_neg hm]
   have hno : ∀ p ∈ s.ms, p.1 ≠ ofD d := by
    have : lk s.ms (ofD d) = none := by
     cases h : lk s.ms (ofD d) with
     | none => rfl
     | some m => exact absurd (show (s.memb (ofD d)).isSome = true by unfold RS.memb; rw [h]; rfl) hm
    exact lk_none.1 this
   refine ⟨hin, hnd, ?_, ?_, ?_, ?_, hs.bk⟩
   ·show ((s.ms ++ [_]).map Prod.fst).Nodup
    rw [List.map_append]
    refine List.nodup_append.2 ⟨hs.mn, by simp, fun a ha b hb e => ?_⟩
    obtain ⟨p, hp, rfl⟩ := List.mem_map.1 ha
    simp only [List.map_cons, List.map_nil, List.mem_singleton] at hb
    exact hno p hp (e.trans hb)
   ·intro p hp
    rcases List.mem_append.1 hp with hp | hp
    ·exact hs.mem p hp
    ·rw [List.mem_singleton] at hp; subst hp; exact ⟨by show 1 ≤ ofD d; omega, hb.2, hr⟩
   ·intro p hp g hg
    rcases List.mem_append.1 hp with hp | hp
    ·exact hs.gd p hp g hg
    ·rw [List.mem_singleton] at hp; subst hp; cases hg
   ·intro i p hp q hq h1 h2
    rcases List.mem_append.1 hp with hp | hp
    ·rcases List.mem_append.1 hq with hq | hq
     ·exact hs.ids i p hp q hq h1 h2
     ·rw [List.mem_singleton] at hq; subst hq; cases h2
    ·rw [List.mem_singleton] at hp; subst hp; cases h1
 ·rw [if_neg hf]; exact hs
theorem goes_ok {s : RS} {k : Nat} (hs : s.Ok k) (d : Int) : (s.goes d).Ok k := by
 unfold RS.goes
 by_cases hd : d ∈ s.ins
 ·rw [if_pos hd]
  have h1 : ∀ e ∈ (s.ins.filter fun e => decide (e ≠ d)) ++ (s.gone ++ [d]), 1 ≤ e ∧ e ≤ 7 := fun e he => hs.ins e ((swap_mem hd e).1 he)
  have h2 := swap_nodup hs.nd hd
  split
  ·exact ⟨h1, h2, hs.mn, hs.mem, hs.gd, hs.ids, hs.bk⟩
  ·have hsub : ∀ p ∈ dropL s.ms (ofD d), p ∈ s.ms := fun p hp => (mem_dropL.1 hp).1
   exact ⟨h1, h2, nodup_dropL hs.mn _, fun p hp => hs.mem p (hsub p hp), fun p hp => hs.gd p (hsub p hp), fun i p hp q hq => hs.ids i p (hsub p hp) q (hsub q hq), hs.bk⟩
 ·rw [if_neg hd]; exact hs
theorem goAll_ok {k : Nat} (m : Int) : ∀ (l : List Int) (s : RS), s.Ok k → (s.goAll m l).Ok k := by
 intro l
 induction l with
 | nil => intro s h; exact h
 | cons d l ih =>
  intro s h
  show RS.Ok (RS.goAll (if ofD d = m then s.goes d else s) m l) k
  refine ih _ ?_
  split
  ·exact goes_ok h d
  ·exact h
theorem mem_setM {s : RS} {n : Int} {m : Mb} {p : Int × Mb} (h : p ∈ (s.setM n m).ms) : p = (n, m) ∨ (p ∈ s.ms ∧ p.1 ≠ n) := by
 obtain ⟨q, hq, e⟩ := List.mem_map.1 h
 by_cases e2 : q.1 = n
 ·rw [if_pos e2] at e; exact .inl e.symm
 ·rw [if_neg e2] at e; exact .inr (e ▸ ⟨hq, e2⟩)
theorem setM_ok {s : RS} {k : Nat} (hs : s.Ok k) {n : Int} {m0 m : Mb} (h0 : (n, m0) ∈ s.ms) (hr : 0 ≤ m.r ∧ m.r ≤ 1000000) (hg : ∀ g, m.g = some g → g.Ok k) (hid : ∀ i, isId i m.g = true → ∀ p ∈ s.ms, p.1 ≠ n → isId i p.2.g = false) : (s.setM n m).Ok k := by
 refine ⟨hs.ins, hs.nd, ?_, fun p hp => ?_, fun p hp g hgg => ?_, fun i p hp q hq h1 h2 => ?_, hs.bk⟩
 ·have e : (s.setM n m).ms.map Prod.fst = s.ms.map Prod.fst := by
   show (s.ms.map _).map _ = _
   rw [List.map_map]
   refine List.map_congr_left fun p _ => ?_
   show (if p.1 = n then (n, m) else p).1 = p.1
   by_cases e : p.1 = n
   ·rw [if_pos e, e]
   ·rw [if_neg e]
  rw [e]; exact hs.mn
 ·rcases mem_setM hp with rfl | ⟨hp, _⟩
  ·have := hs.mem _ h0
   exact ⟨this.1, this.2.1, hr⟩
  ·exact hs.mem p hp
 ·rcases mem_setM hp with rfl | ⟨hp, _⟩
  ·exact hg g hgg
  ·exact hs.gd p hp g hgg
 ·rcases mem_setM hp with rfl | ⟨hp, e1⟩ <;> rcases mem_setM hq with rfl | ⟨hq, e2⟩
  ·rfl
  ·have := hid i h1 q hq e2
   rw [h2] at this; cases this
  ·have := hid i h2 p hp e1
   rw [h1] at this; cases this
  ·exact hs.ids i p hp q hq h1 h2
theorem id_same {s : RS} {k : Nat} (hs : s.Ok k) {n : Int} {m0 m : Mb} (h0 : (n, m0) ∈ s.ms) (h : ∀ i, isId i m.g = true → isId i m0.g = true) : ∀ i, isId i m.g = true → ∀ p ∈ s.ms, p.1 ≠ n → isId i p.2.g = false := fun i hi p hp hne => by
 cases e : isId i p.2.g with
 | false => rfl
 | true => exact absurd (hs.ids i p hp _ h0 e (h i hi)) hne
theorem putL_len {α β : Type} [DecidableEq α] (ks : List (α × β)) (a : α) (b : β) : (putL ks a b).length ≤ ks.length + 1 := by
 unfold putL
 split
 ·rw [List.length_map]; omega
 ·rw [List.length_append]; exact Nat.le_refl _
theorem vouch_ok {g : Gd} {k : Nat} (h : g.Ok k) {o : OpI} (ho : o.Ok) : (vouchG g o).Ok (k + 1) := by
 have h2 : Gd.Ok ⟨g.id, g.gs, g.n, g.t, putL g.vo (o.b, o.d) o.a, g.ob, g.la⟩ (k + 1) :=
  ⟨h.gl, h.ne, h.gb, h.hn, h.ht, h.hl, Nat.le_trans (putL_len _ _ _) (Nat.succ_le_succ h.vl), fun v hv => by
   rcases mem_putL hv with rfl | hv
   ·exact ⟨ho.hb, ho.hd, ho.ha⟩
   ·exact h.vb v hv, nodup_putL h.vn _ _, by have := h.hi; show g.id.s ≤ _; omega⟩
 unfold vouchG
 split
 ·split
  ·exact h2
  ·exact h.mono (Nat.le_succ k)
 ·exact h2
theorem vouchG_id (g : Gd) (o : OpI) : (vouchG g o).id = g.id := by
 unfold vouchG
 split
 ·split <;> rfl
 ·rfl
/-- An operation done. -/
theorem act_ok {s : RS} {k k' : Nat} (hs : s.Ok k) {o : OpI} (ho : o.Ok) (i : Idn) (hk : k < k') (hg : o.k = 9 → o.gs ≠ [] ∧ 1 ≤ o.n ∧ (k : Int) < i.s ∧ i.s ≤ k') : (s.act o i).Ok k' := by
 have hs' := hs.mono (Nat.le_of_lt hk)
 unfold RS.act
 split
 ·unfold RS.doCreate
  split
  ·exact (comes_ok hs' o.b (by decide)).bk_to ho.hn
  ·exact hs'
 split
 ·exact comes_ok hs' o.d ho.hr
 split
 ·split
  ·exact goes_ok hs' o.d
  ·exact goAll_ok o.m _ s hs'
 split
 ·unfold RS.doPromote
  split
  ·rename_i m hm
   exact setM_ok hs' (lk_mem hm) ho.hr (fun g hgg => hs'.gd _ (lk_mem hm) g hgg) (id_same hs' (lk_mem hm) fun _ h => h)
  ·exact hs'
 split
 ·rename_i h9
  obtain ⟨h1, h2, h3, h4⟩ := hg h9
  unfold RS.doGuard
  split
  ·rename_i m hm
   refine setM_ok hs' (lk_mem hm) ⟨(hs.mem _ (lk_mem hm)).2.2.1, (hs.mem _ (lk_mem hm)).2.2.2⟩ (fun g hgg => ?_) (fun j hj p hp _ => ?_)
   ·injection hgg with hgg
    subst hgg
    exact ⟨ho.hgl, h1, ho.hgb, ⟨h2, ho.hn.2⟩, ho.ht, ⟨Int.le_refl _, by show (0 : Int) ≤ 1000000; decide⟩, Nat.zero_le _, fun _ h => (by cases h), List.nodup_nil, h4⟩
   ·have hji : i = j := of_decide_eq_true hj
    cases hpg : p.2.g with
    | none => rfl
    | some g =>
     have := (hs.gd p hp g hpg).hi
     refine decide_eq_false fun e => ?_
     rw [e, ← hji] at this
     omega
  ·exact hs'
 split
 ·unfold RS.doVouch
  split
  ·split
   ·rename_i r g hm
    refine setM_ok hs' (lk_mem hm) ⟨(hs.mem _ (lk_mem hm)).2.2.1, (hs.mem _ (lk_mem hm)).2.2.2⟩ (fun g' hgg => ?_) (id_same hs' (lk_mem hm) fun j hj => ?_)
    ·injection hgg with hgg
     subst hgg
     exact (vouch_ok (hs.gd _ (lk_mem hm) g rfl) ho).mono hk
    ·have hj2 : (vouchG g o).id = j := of_decide_eq_true hj
     rw [vouchG_id] at hj2
     exact decide_eq_true hj2
   ·exact hs'
  ·exact hs'
 split
 ·unfold RS.doObject
  split
  ·rename_i r g hm
   split
   ·have hgk := hs'.gd _ (lk_mem hm) g rfl
    refine setM_ok hs' (lk_mem hm) ⟨(hs.mem _ (lk_mem hm)).2.2.1, (hs.mem _ (lk_mem hm)).2.2.2⟩ (fun g' hgg => ?_) (id_same hs' (lk_mem hm) fun j hj => hj)
    injection hgg with hgg
    subst hgg
    have hl := hgk.hl
    have ha := ho.ha
    exact ⟨hgk.gl, hgk.ne, hgk.gb, hgk.hn, hgk.ht, ⟨by show 0 ≤ max g.la o.a; omega, by show max g.la o.a ≤ 1000000; omega⟩, hgk.vl, hgk.vb, hgk.vn, hgk.hi⟩
   ·exact hs'
  ·exact hs'
 split
 ·unfold RS.doReplace
  split
  ·refine goes_ok (comes_ok hs' o.d ?_) o.o
   unfold RS.role rolI
   split
   ·rename_i m hm
    exact ⟨(hs.mem _ (lk_mem hm)).2.2.1, (hs.mem _ (lk_mem hm)).2.2.2⟩
   ·decide
  ·exact hs'
 ·exact hs'
end Go.Proofs.YtkolilbebkkpdaaDoor

namespace Go.Proofs.YtkolilbebkkpdaaDoor
open Go.RowKit Go.Maps Go.Shelf

/-- A kind of struct: its cells. -/
structure El (α : Type) where
 t : TypeId
 st : TypeId
 sz : Nat
 bt : Nat
 z : Value
 c : α → List Value
 hlen : ∀ x, (c x).length = sz
 hone : ∀ x, ∀ u ∈ c x, u.oneCell' = true
 hund : Tryd.prog.underlying st = some (.slice t)
 hinf : (Tryd.prog.info? t).map (fun i => (i.zero, i.size, i.bytes)) = some (some z, sz, bt)
 hz : z.cells.size = sz
 hp : 0 < sz
 hb : bt ≤ 1000
section
variable {α : Type} {E : El α}
def OwnE (E : El α) (w : World) (base : Nat) (v : Value) (l : List α) : Prop := w.ownsRow base E.t E.sz v l.length (l.flatMap E.c)
/-- Behind p the list reads. -/
def RdE (E : El α) (w : World) (p : Option Addr) (l : List α) : Prop := ∀ i (hi : i < l.length), ∃ b off, p = some ⟨b, off, none⟩ ∧ b < w.heap.size ∧ ∀ j u, (E.c l[i])[j]? = some u → w.cell? ⟨b, off + i * E.sz + j, none⟩ = some u
theorem RdE.below {w w' : World} {p : Option Addr} {l : List α} (h : RdE E w p l) (hb : Below w.heap.size w w') : RdE E w' p l := fun i hi => by
 obtain ⟨b, off, hp, hlt, hc⟩ := h i hi
 exact ⟨b, off, hp, Nat.lt_of_lt_of_le hlt hb.size, fun j u hu => (hb.cell (p := ⟨b, _, none⟩) hlt).trans (hc j u hu)⟩
theorem RdE.same {w w' : World} {p : Option Addr} {l : List α} (h : RdE E w p l) (hz : w.heap.size ≤ w'.heap.size) (hb : ∀ a, p = some a → a.block < w.heap.size → w'.heap[a.block]? = w.heap[a.block]?) : RdE E w' p l := fun i hi => by
 obtain ⟨b, off, hp, hlt, hc⟩ := h i hi
 refine ⟨b, off, hp, Nat.lt_of_lt_of_le hlt hz, fun j u hu => ?_⟩
 have := hb _ hp hlt
 rw [← hc j u hu]
 unfold World.cell?
 simp only at this
 simp only [this]
theorem OwnE.nil (w : World) (base : Nat) : OwnE E w base (.slice none 0 0) [] := World.ownsRow_nil w base _ _
theorem OwnE.below {w w' : World} {base : Nat} {v : Value} {l : List α} (h : OwnE E w base v l) (hb : Below w.heap.size w w') : OwnE E w' base v l :=
 World.ownsRow.kept h (row := none) ⟨hb.os, hb.tape, hb.output, hb.size, fun i hi _ => hb.block i hi⟩ (by cases hv : v.ownBlock <;> simp)
theorem OwnE.same {w w' : World} {base : Nat} {v : Value} {l : List α} (h : OwnE E w base v l) (hb : ∀ g, v.ownBlock = some g → w'.heap[g]? = w.heap[g]?) : OwnE E w' base v l := by
 refine ⟨h.1, ?_⟩
 rcases h.2 with h1 | ⟨g, cap, cur, hv, hg, hgb, h2⟩
 ·exact .inl h1
 ·exact .inr ⟨g, cap, cur, hv, hg, (hb g (by rw [hv]; rfl)).trans hgb, h2⟩
theorem OwnE.lt {w : World} {base : Nat} {v : Value} {l : List α} (h : OwnE E w base v l) {g : Nat} (hg : v.ownBlock = some g) : base ≤ g ∧ g < w.heap.size := World.ownsRow.lt h g hg
theorem flat_at (E : El α) : ∀ (l : List α) (i : Nat) (hi : i < l.length) (j : Nat), j < E.sz → (l.flatMap E.c)[i * E.sz + j]? = (E.c l[i])[j]? := by
 intro l
 induction l with
 | nil => intro i hi; exact absurd hi (Nat.not_lt_zero _)
 | cons a l ih =>
  intro i hi j hj
  rw [List.flatMap_cons]
  cases i with
  | zero =>
   rw [Nat.zero_mul, Nat.zero_add, List.getElem?_append_left (by rw [E.hlen]; exact hj)]
   rfl
  | succ i =>
   have hi' : i < l.length := by simpa using hi
   rw [List.getElem?_append_right (by rw [E.hlen, Nat.succ_mul]; omega), E.hlen, show (i + 1) * E.sz + j - E.sz = i * E.sz + j by rw [Nat.succ_mul]; omega, ih i hi' j hj]
   rfl
theorem flat_len (E : El α) (l : List α) : (l.flatMap E.c).length = l.length * E.sz := by
 induction l with
 | nil => simp
 | cons a l ih => rw [List.flatMap_cons, List.length_append, ih, E.hlen, List.length_cons, Nat.succ_mul]; omega
theorem OwnE.u {w : World} {base : Nat} {v : Value} {l : List α} (h : OwnE E w base v l) : ∃ p c, v = .slice p l.length c ∧ l.length ≤ c ∧ RdE E w p l ∧ FarP base p ∧ (p = none → c = 0) ∧ (∀ a, p = some a → v.ownBlock = some a.block) := by
 rcases h.2 with ⟨hv, hn⟩ | ⟨g, cap, cur, hv, hg, hgb, hnc, _, hcs, htake⟩
 ·refine ⟨none, 0, by rw [hv, hn], by omega, fun i hi => (by omega), fun _ h => (by cases h), fun _ => rfl, fun _ h => (by cases h)⟩
 ·refine ⟨some ⟨g, 0, none⟩, cap, hv, hnc, fun i hi => ⟨g, 0, rfl, (Array.getElem?_eq_some_iff.1 hgb).1, fun j u hu => ?_⟩, fun a ha => by injection ha with ha; rw [← ha]; exact hg, fun h => (by cases h), fun a ha => by injection ha with ha; rw [← ha, hv]; rfl⟩
  have hj : j < E.sz := by rw [← E.hlen l[i]]; exact (List.getElem?_eq_some_iff.1 hu).1
  have hk : i * E.sz + j < l.length * E.sz := by
   have : (i + 1) * E.sz ≤ l.length * E.sz := Nat.mul_le_mul_right _ hi
   rw [Nat.succ_mul] at this
   omega
  have h1 := flat_at E l i hi j hj
  rw [← htake, List.getElem?_take, if_pos hk, hu] at h1
  rw [Nat.zero_add]
  simp [World.cell?, hgb]
  simpa using h1
/-- append(had, y). -/
theorem app_e {ops : Array Oper} {rest : List Oper} {o : Oper} {a : Act} {Q : Exit → Act → World → Prop} (E : El α) (hgd : o.guard = none) (s x : Operand)
  (ho : o.op = .call { callee := .builtin .append, args := #[s, x], argTypes := #[E.st, E.st] }) {base : Nat} {v : Value} {l : List α} {W : World} (y : α) {cs : Array Value} (hcs : cs = (E.c y).toArray)
  (hown : OwnE E W base v l) (hs : a.eval s = v) (hx : a.eval x = .slice (some ⟨W.heap.size, 0, none⟩) 1 1) (hn : l.length ≤ 1000000) (hbase : base ≤ W.heap.size)
  (h : ∀ v' w', OwnE E w' base v' (l ++ [y]) → W.grownBy w' v.ownBlock → wpList Tryd.prog ops Q rest (a.put o.dst v') w') :
  wpList Tryd.prog ops Q (o :: rest) a (W.alloc (.cells cs E.t)) := by
 obtain ⟨i0, hi, hz0, hz1, hz2⟩ := info_parts E.hinf
 subst hcs
 have hb0 : Below W.heap.size W (W.alloc (.cells (E.c y).toArray E.t)) := Below.lit W _
 have hown' := hown.below hb0
 refine wpList_append_own _ hgd s x E.st ho base E.t i0 E.z E.sz E.bt E.hund hi hz0 hz1 hz2 E.hz E.hp v l.length _ hs hown'
  ⟨W.heap.size, 0, none⟩ 1 1 (E.c y) hx (by rw [E.hlen, Nat.one_mul]) ?_ (E.hone y) (by unfold maxLen; omega) ?_ (by simp; omega) ?_
 ·intro j u hj
  have hadd : (⟨W.heap.size, 0, none⟩ : Addr).add j = ⟨W.heap.size, j, none⟩ := by unfold Addr.add; split <;> simp_all
  rw [hadd, cell_of_row _ W.heap.size j _ E.t (0, 0) (World.alloc_heap_new W _)]
  simpa using hj
 ·have := E.hb
  have h1 : (l.length + 1) * E.bt ≤ 1000001 * 1000 := Nat.mul_le_mul (by omega) this
  omega
 ·intro v' w' h1 h2 _
  refine h v' w' ?_ ⟨h2.os, h2.tape, h2.output, Nat.le_trans hb0.size h2.size, fun i hi hne => (h2.block i (Nat.lt_of_lt_of_le hi hb0.size) hne).trans (hb0.block i hi)⟩
  show w'.ownsRow base E.t E.sz v' (l ++ [y]).length ((l ++ [y]).flatMap E.c)
  rw [List.length_append, List.flatMap_append]
  simpa using h1
end
end Go.Proofs.YtkolilbebkkpdaaDoor

namespace Go.Proofs.YtkolilbebkkpdaaDoor
open Go.RowKit Go.Maps Go.Shelf

def cardE : El (Int × Int) where
 t := 69
 st := 25
 sz := 5
 bt := 40
 z := card0
 c := fun x => [.int .i64 x.1, .int .i64 x.2, .int .u64 5, .int .u64 6, .int .u64 7]
 hlen := fun _ => rfl
 hone := fun x u hu => by
  simp only [List.mem_cons, List.not_mem_nil, or_false] at hu
  rcases hu with rfl | rfl | rfl | rfl | rfl <;> rfl
 hund := Tryd.underlying25
 hinf := by kernel_rfl
 hz := rfl
 hp := by decide
 hb := by decide
def ownersL : List Int := [1, 2, 3, 1, 2, 4, 1]
def cardsP : List (Int × Int) := [(1, 1), (2, 2), (3, 3), (4, 1), (5, 2), (6, 4), (7, 1)]
theorem cardsP_step {k : Nat} (h : k < 7) : cardsP.take (k + 1) = cardsP.take k ++ [((k : Int) + 1, nth ownersL k)] := by
 have : k = 0 ∨ k = 1 ∨ k = 2 ∨ k = 3 ∨ k = 4 ∨ k = 5 ∨ k = 6 := by omega
 rcases this with rfl | rfl | rfl | rfl | rfl | rfl | rfl <;> rfl
theorem OwnE.weaken {α : Type} {E : El α} {w : World} {B B' : Nat} {v : Value} {l : List α} (h : OwnE E w B' v l) (hB : B ≤ B') : OwnE E w B v l := by
 refine ⟨h.1, ?_⟩
 rcases h.2 with h1 | ⟨g, cap, cur, hv, hg, h2⟩
 ·exact .inl h1
 ·exact .inr ⟨g, cap, cur, hv, Nat.le_trans hB hg, h2⟩
theorem UI.row (w : World) (xs : List Int) (hx : ∀ x ∈ xs, -9223372036854775808 ≤ x ∧ x ≤ 9223372036854775807) : UI (w.alloc (.cells (xs.map (Value.int .i64)).toArray 3)) (some ⟨w.heap.size, 0, none⟩) xs.length xs := by
 refine ⟨rfl, .inr ⟨w.heap.size, 0, rfl, fun i hi => ?_⟩, hx⟩
 rw [Nat.zero_add, cell_of_row _ w.heap.size i _ 3 (0, 0) (World.alloc_heap_new w _)]
 simp []
set_option maxRecDepth 100000 in
set_option maxHeartbeats 2000000 in
theorem Cards_any (w : World) :
  Calls Tryd.prog 11 #[] w fun e w' => ∃ v, e = .returned v ∧ OwnE cardE w' w.heap.size v cardsP ∧ Below w.heap.size w w' := by
 have hU := UI.row w ownersL (by unfold ownersL; decide)
 replace hU : UI (w.alloc (.cells #[.int .i64 1, .int .i64 2, .int .i64 3, .int .i64 1, .int .i64 2, .int .i64 4, .int .i64 1] 3)) (some ⟨w.heap.size, 0, none⟩) 7 ownersL := hU
 have hb0 := Below.lit w (.cells #[.int .i64 1, .int .i64 2, .int .i64 3, .int .i64 1, .int .i64 2, .int .i64 4, .int .i64 1] 3)
 have hz0 : (w.alloc (.cells #[.int .i64 1, .int .i64 2, .int .i64 3, .int .i64 1, .int .i64 2, .int .i64 4, .int .i64 1] 3)).heap.size = w.heap.size + 1 := by simp
 obtain ⟨w1, hw1, hU⟩ := nameW (p := fun W => UI W (some ⟨w.heap.size, 0, none⟩) 7 ownersL) hU
 rw [hw1.out] at hb0 hz0
 go_enter Tryd.func11, Tryd.ntmps11
 go_wp2_with (first | (rw [hw1.out]) | fail)
 go_loopw [1, 3] (fun v i wr => ∃ k : Nat, k ≤ 7 ∧ i = .int .i64 k ∧ OwnE cardE wr w1.heap.size v (cardsP.take k) ∧ Below w1.heap.size w1 wr)
  (fun _ i _ => 7 - (intOf i).toNat)
 case atStart => exact ⟨0, Nat.zero_le _, rfl, OwnE.nil _ _, Below.refl _ _⟩
 case round =>
  obtain ⟨k, hk, rfl, hown, hb⟩ := hrel
  by_cases hlt : k < 7
  ·obtain ⟨b, off, he, _, hc, hx0, hx1⟩ := (hU.below hb).look hlt
   injection he with he
   injection he with he1 he2
   subst he1; subst he2
   rw [Nat.zero_add] at hc
   have hst := Lib.hid (cardsP_step hlt)
   have hlen : (cardsP.take k).length ≤ 1000000 := Nat.le_trans (List.length_take_le ..) (by omega)
   have hz := hb.size
   go_wp2_with (first
    | (at_builtin; refine app_e cardE rfl _ _ rfl ((k : Int) + 1, nth ownersL k) rfl hown rfl rfl hlen hz ?_; intro v' w2 hown2 hg2)
    | fail)
   have hb2 : Below w1.heap.size w1 w2 := hb.grown hg2 hb.size fun g e => (hown.lt e).1
   go_roundw
   case rel => exact ⟨k + 1, by omega, by go_num, by rw [hst.out]; exact hown2, hb2⟩
   case measure => simp [intOf]; omega
  ·have hk7 : k = 7 := by omega
   subst hk7
   go_wp2_with fail
   go_ret
   exact ⟨_, rfl, OwnE.weaken (hown : OwnE cardE wr w1.heap.size _ cardsP) hb0.size, hb0.trans (hb.mono hb0.size)⟩
end Go.Proofs.YtkolilbebkkpdaaDoor

namespace Go.Proofs.YtkolilbebkkpdaaDoor
open Go.RowKit Go.Maps Go.Shelf

theorem cardsL_put {k : Nat} (h : k < 7) : putL (cardsL.take k) ((k : Int) + 1) (cardV ((k : Int) + 1) (nth ownersL k)) = cardsL.take (k + 1) := by
 have : k = 0 ∨ k = 1 ∨ k = 2 ∨ k = 3 ∨ k = 4 ∨ k = 5 ∨ k = 6 := by omega
 rcases this with rfl | rfl | rfl | rfl | rfl | rfl | rfl <;> rfl
theorem cardsP_at {k : Nat} (h : k < 7) (h2 : k < cardsP.length) : cardsP[k] = ((k : Int) + 1, nth ownersL k) := by
 have : k = 0 ∨ k = 1 ∨ k = 2 ∨ k = 3 ∨ k = 4 ∨ k = 5 ∨ k = 6 := by omega
 rcases this with rfl | rfl | rfl | rfl | rfl | rfl | rfl <;> rfl
structure New5 (w W : World) : Prop where
 m0 : MapV KI W w.heap.size []
 m1 : MapV KI W (w.heap.size + 1) []
 m2 : MapV KI W (w.heap.size + 2) []
 m3 : MapV KI W (w.heap.size + 3) []
 blk : W.heap[w.heap.size + 4]? = some (.cells #[.map (some w.heap.size), .map (some (w.heap.size + 1)), .map (some (w.heap.size + 1 + 1)), .map (some (w.heap.size + 1 + 1 + 1)), .int .i64 0] 81 (0, 0))
 hb : Below w.heap.size w W
theorem New5.made (w : World) : New5 w (((((w.alloc (.map #[] 0)).alloc (.map #[] 0)).alloc (.map #[] 0)).alloc (.map #[] 0)).alloc (.cells #[.map (some w.heap.size), .map (some (w.heap.size + 1)), .map (some (w.heap.size + 1 + 1)), .map (some (w.heap.size + 1 + 1 + 1)), .int .i64 0] 81)) := by
 have z1 : (w.alloc (.map #[] 0)).heap.size = w.heap.size + 1 := by simp
 have z2 : ((w.alloc (.map #[] 0)).alloc (.map #[] 0)).heap.size = w.heap.size + 2 := by simp
 have z3 : (((w.alloc (.map #[] 0)).alloc (.map #[] 0)).alloc (.map #[] 0)).heap.size = w.heap.size + 3 := by simp
 have z4 : ((((w.alloc (.map #[] 0)).alloc (.map #[] 0)).alloc (.map #[] 0)).alloc (.map #[] 0)).heap.size = w.heap.size + 4 := by simp
 have a0 := MapV.made (K := KI) w
 have a1 := MapV.made (K := KI) (w.alloc (.map #[] 0))
 have a2 := MapV.made (K := KI) ((w.alloc (.map #[] 0)).alloc (.map #[] 0))
 have a3 := MapV.made (K := KI) (((w.alloc (.map #[] 0)).alloc (.map #[] 0)).alloc (.map #[] 0))
 rw [z1] at a1
 rw [z2] at a2
 rw [z3] at a3
 have l1 := Below.lit w (.map #[] 0)
 have l2 := Below.lit (w.alloc (.map #[] 0)) (.map #[] 0)
 have l3 := Below.lit ((w.alloc (.map #[] 0)).alloc (.map #[] 0)) (.map #[] 0)
 have l4 := Below.lit (((w.alloc (.map #[] 0)).alloc (.map #[] 0)).alloc (.map #[] 0)) (.map #[] 0)
 have l5 := Below.lit ((((w.alloc (.map #[] 0)).alloc (.map #[] 0)).alloc (.map #[] 0)).alloc (.map #[] 0)) (.cells #[.map (some w.heap.size), .map (some (w.heap.size + 1)), .map (some (w.heap.size + 1 + 1)), .map (some (w.heap.size + 1 + 1 + 1)), .int .i64 0] 81)
 have h5 := World.alloc_heap_new ((((w.alloc (.map #[] 0)).alloc (.map #[] 0)).alloc (.map #[] 0)).alloc (.map #[] 0)) (.cells #[.map (some w.heap.size), .map (some (w.heap.size + 1)), .map (some (w.heap.size + 1 + 1)), .map (some (w.heap.size + 1 + 1 + 1)), .int .i64 0] 81)
 rw [z4] at h5
 exact ⟨(((a0.below l2).below l3).below l4).below l5, ((a1.below l3).below l4).below l5, (a2.below l4).below l5, a3.below l5, h5, (((l1.trans (l2.mono l1.size)).trans (l3.mono (by omega))).trans (l4.mono (by omega))).trans (l5.mono (by omega))⟩
theorem cells5 {w : World} {b : Nat} {u0 u1 u2 u3 u4 : Value} {t : TypeId} (h : w.heap[b]? = some (.cells #[u0, u1, u2, u3, u4] t (0, 0))) : w.cell? ⟨b, 0, none⟩ = some u0 ∧ w.cell? ⟨b, 1, none⟩ = some u1 ∧ w.cell? ⟨b, 2, none⟩ = some u2 ∧ w.cell? ⟨b, 3, none⟩ = some u3 ∧ w.cell? ⟨b, 4, none⟩ = some u4 := by
 refine ⟨?_, ?_, ?_, ?_, ?_⟩ <;> simp [World.cell?, h]
set_option maxRecDepth 100000 in
set_option maxHeartbeats 2000000 in
theorem New_any (w : World) (p : Option Addr) (c : Nat) (hC : RdE cardE w p cardsP) :
  Calls Tryd.prog 10 #[.slice p 7 c] w fun e w' => ∃ y : Lay, e = .returned (.pointer (some ⟨y.r, 0, none⟩)) ∧ RollAt w' y RS.new ∧ Below w.heap.size w w' ∧ ∀ b ∈ y.foot, w.heap.size ≤ b := by
 obtain ⟨w5, hw5, hN⟩ := nameW (p := fun W => New5 w W) (New5.made w)
 have hz5 : w.heap.size + 4 < w5.heap.size := blk_lt hN.blk
 have hmk : ∀ (t : TypeId) (u : World), (Instr.makeMap t none).run Tryd.prog u = .ok (.map (some u.heap.size)) (u.alloc (.map #[] 0)) := fun t u => run_makeMap t u
 go_enter Tryd.func10, Tryd.ntmps10
 go_wp2_with (first | (rw [hw5.out]) | fail)
 go_loopw [14] (fun i wr => ∃ k : Nat, k ≤ 7 ∧ i = .int .i64 k ∧ MapV KI wr w.heap.size (cardsL.take k) ∧ But w5 wr w.heap.size)
  (fun i _ => 7 - (intOf i).toNat)
 case atStart => exact ⟨0, Nat.zero_le _, rfl, hN.m0, ⟨rfl, rfl, rfl, Nat.le_refl _, fun _ _ _ => rfl⟩⟩
 case round =>
  obtain ⟨k, hk, rfl, hM, hB⟩ := hrel
  by_cases hlt : k < 7
  ·obtain ⟨b, off, rfl, hbl, hc⟩ := hC k hlt
   have hat := cardsP_at hlt hlt
   rw [hat] at hc
   have hbw : wr.heap[b]? = w.heap[b]? := (hB.blk b (by omega) (by omega)).trans (hN.hb.block b hbl)
   have hcw : ∀ j u, (cardE.c ((k : Int) + 1, nth ownersL k))[j]? = some u → wr.cell? ⟨b, off + k * 5 + j, none⟩ = some u := fun j u hu => by
    have := hc j u hu
    rw [← this]
    unfold World.cell?
    simp only [hbw]
    rfl
   have q0 : wr.cell? ⟨b, off + k * 5, none⟩ = some (.int .i64 ((k : Int) + 1)) := hcw 0 _ rfl
   have q1 := hcw 1 _ rfl
   have q2 := hcw 2 _ rfl
   have q3 := hcw 3 _ rfl
   have q4 := hcw 4 _ rfl
   have hix1 : (k : Int) < 7 := by omega
   have hbr : wr.heap[w.heap.size + 4]? = w5.heap[w.heap.size + 4]? := hB.blk _ hz5 (by omega)
   obtain ⟨r0, _⟩ := cells5 (hbr.trans hN.blk)
   go_wp2_with fail
   have hbl2 := Below.lit wr (.cells #[.int .i64 ((k : Int) + 1), .int .i64 (nth ownersL k), .int .u64 5, .int .u64 6, .int .u64 7] 69)
   obtain ⟨c0, c1, c2, c3, c4⟩ := cells5 (World.alloc_heap_new wr (.cells #[.int .i64 ((k : Int) + 1), .int .i64 (nth ownersL k), .int .u64 5, .int .u64 6, .int .u64 7] 69))
   have r0' : (wr.alloc (.cells #[.int .i64 ((k : Int) + 1), .int .i64 (nth ownersL k), .int .u64 5, .int .u64 6, .int .u64 7] 69)).cell? ⟨w.heap.size + 1 + 1 + 1 + 1, 0, none⟩ = some (.map (some w.heap.size)) := (hbl2.cell (cell_lt r0)).trans r0
   have hM2 := hM.below hbl2
   obtain ⟨w6, hw6, hM2⟩ := nameW (p := fun W => MapV KI W w.heap.size (cardsL.take k)) hM2
   rw [hw6.out] at c0 c1 c2 c3 c4 r0' hbl2
   rw [hw6.out]
   clear q0 q1 q2 q3 q4 hcw r0
   refine wp_region_still_tail 7 (by kernel_rfl) (by kernel_rfl) ?_
   simp only [List.take_succ_cons, List.take_zero, List.drop_succ_cons, List.drop_zero]
   repeat still_step
   refine wpStill_nil ?_
   change wpList _ _ _ _ _ w6.drew
   have hM3 : MapV KI w6.drew w.heap.size (cardsL.take k) := hM2.keep rfl
   have hlen : (cardsL.take k).length ≤ 1000000 := Nat.le_trans (List.length_take_le ..) (by omega)
   have hkk : i64ok ((k : Int) + 1) := by unfold i64ok; omega
   go_wp2_with (first
    | (at_mapUpdate; refine wp_upd (K := KI) _ rfl _ _ _ 77 rfl 69 Tryd.underlying77 w.heap.size (cardsL.take k) hlen rfl hM3 ((k : Int) + 1) (cardV ((k : Int) + 1) (nth ownersL k)) rfl rfl hkk ?_; intro w8 hM8 hB8 hz8)
    | fail)
   rw [cardsL_put hlt] at hM8
   have hB9 : But w5 w8 w.heap.size := (hB.trans ((But.of_below hbl2 _).trans (But.of_below (Below.refl _ _).drew _))).trans hB8
   go_roundw
   case rel => exact ⟨k + 1, by omega, by go_num, hM8, hB9⟩
   case measure => simp [intOf]; omega
  ·have hk7 : k = 7 := by omega
   subst hk7
   have hR : RollAt wr ⟨w.heap.size + 4, w.heap.size, w.heap.size + 1, w.heap.size + 2, w.heap.size + 3, []⟩ RS.new := by
    refine ⟨?_, hM, hN.m1.keep (hB.blk _ (by omega) (by show w.heap.size + 1 ≠ _; omega)), hN.m2.keep (hB.blk _ (by omega) (by show w.heap.size + 2 ≠ _; omega)), hN.m3.keep (hB.blk _ (by omega) (by show w.heap.size + 3 ≠ _; omega)), fun x hx => (by cases hx), rfl, ?_⟩
    ·exact (hB.blk _ hz5 (by omega)).trans hN.blk
    ·show ([w.heap.size + 4, w.heap.size, w.heap.size + 1, w.heap.size + 2, w.heap.size + 3] ++ []).Nodup
     simp
   have hbf : Below w.heap.size w wr := ⟨hB.os.trans hN.hb.os, hB.tape.trans hN.hb.tape, hB.out.trans hN.hb.output, Nat.le_trans hN.hb.size hB.size, fun i hi => (hB.blk i (by omega) (by omega)).trans (hN.hb.block i hi)⟩
   go_wp2_with fail
   go_ret
   refine ⟨_, rfl, hR, hbf, fun b hb => ?_⟩
   replace hb : b ∈ [w.heap.size + 4, w.heap.size, w.heap.size + 1, w.heap.size + 2, w.heap.size + 3] := hb
   simp only [List.mem_cons, List.not_mem_nil, or_false] at hb
   omega
end Go.Proofs.YtkolilbebkkpdaaDoor

namespace Go.Proofs.YtkolilbebkkpdaaDoor
open Go.RowKit Go.Maps

/-- A number from 0 on, below most, of any. -/
def around (n most : Int) : Int := (if n < 0 then -(n + 1) else n) % most
theorem around_bd (n most : Int) (h : 0 < most) : 0 ≤ around n most ∧ around n most < most := by
 unfold around
 exact ⟨Int.emod_nonneg _ (by omega), Int.emod_lt_of_pos _ h⟩

set_option maxRecDepth 100000 in
theorem Around_any (n most : Int) (w : World) (h0 : -9223372036854775808 ≤ n) (h1 : n ≤ 9223372036854775807) (hm : 0 < most) (hm1 : most ≤ 9223372036854775807) :
  Calls Tryd.prog 15 #[.int .i64 n, .int .i64 most] w fun e w' => e = .returned (.int .i64 (around n most)) ∧ w = w' := by
 have hz : (most == 0) = false := by rw [beq_eq_false_iff_ne]; omega
 by_cases hn : n < 0
 ·have hnn : 0 ≤ -(n + 1) := by omega
  have e : Hid (around n most = -(n + 1) % most) := Lib.hid (by unfold around; rw [if_pos hn])
  go_enter Tryd.func15, Tryd.ntmps15
  go_wp2
  go_ret
  exact ⟨ret_int (by rw [e.out, ← Int.neg_tmod, Int.tmod_eq_emod_of_nonneg hnn]), rfl⟩
 ·have hnn : 0 ≤ n := by omega
  have e : Hid (around n most = n % most) := Lib.hid (by unfold around; rw [if_neg hn])
  go_enter Tryd.func15, Tryd.ntmps15
  go_wp2
  go_ret
  exact ⟨ret_int e.out.symm, rfl⟩

set_option maxRecDepth 100000 in
theorem SameInts_yes (p q : Option Addr) (n : Nat) (xs : List Int) (c d : Nat) (w : World) (hX : UI w p n xs) (hY : UI w q n xs) (hn : n ≤ 9223372036854775806) :
  Calls Tryd.prog 24 #[.slice p n c, .slice q n d] w fun e w' => e = .returned (.bool true) ∧ Below w.heap.size w w' := by
 have hne : ((n : Int) != n) = false := bne_self_eq_false _
 go_enter Tryd.func24, Tryd.ntmps24
 go_wp2
 go_loopw [5] (fun i wr => ∃ k : Nat, k ≤ n ∧ i = .int .i64 k ∧ Below w.heap.size w wr)
  (fun i _ => n - (intOf i).toNat)
 case atStart => exact ⟨0, Nat.zero_le _, rfl, Below.refl _ _⟩
 case round =>
  obtain ⟨k, hk, rfl, hb⟩ := hrel
  by_cases hlt : k < n
  ·obtain ⟨b, off, rfl, _, hc1, _⟩ := (hX.below hb).look hlt
   obtain ⟨b', off', rfl, _, hc2, _⟩ := (hY.below hb).look hlt
   have t1 : (nth xs k != nth xs k) = false := bne_self_eq_false _
   have hix1 : (0 : Int) ≤ (k : Int) := by omega
   have hix2 : (k : Int) < (n : Int) := by omega
   go_wp2_with fail
   refine wp_region_still_lit (by kernel_rfl) (by kernel_rfl) ?_
   repeat still_step
   refine wpStill_nil ?_
   change Exit.then _ _ _ _ wr.drew
   clear hix1 hix2
   go_wp2
   go_roundw
   case rel => exact ⟨k + 1, by omega, by go_num, hb.drew⟩
   case measure => simp [intOf]; omega
  ·go_wp2
   go_ret
   exact ⟨rfl, hb⟩
set_option maxRecDepth 100000 in
theorem Name_any (o : OpI) (gp : Option Addr) (gc : Nat) (n : Int) (w : World) (hk : 0 ≤ o.k ∧ o.k ≤ 1000000) (hn : 0 ≤ n ∧ n ≤ 1000000) :
  Calls Tryd.prog 14 #[.agg (opC o gp gc), .int .i64 n] w fun e w' => e = .returned (.agg #[.int .i64 o.b, .int .i64 (n + 1), .int .u64 o.k]) ∧ Below w.heap.size w w' := by
 have hO := OpAt.made w o gp gc
 have hb1 := Below.lit w (.cells (opC o gp gc) 42)
 obtain ⟨w1, hw1, hO⟩ := nameW (p := fun W => OpAt W w.heap.size o gp gc) hO
 rw [hw1.out] at hb1
 have hlt : w.heap.size < w1.heap.size := cell_lt hO.cb
 have hb2 : Below w1.heap.size w1 (w1.alloc (.cells #[.int .i64 0, .int .i64 0, .int .u64 0] 34)) := Below.lit w1 _
 have kb := (hO.below hb2 hlt).cb
 have kk := (hO.below hb2 hlt).ck
 obtain ⟨hk0, hk1⟩ := hk
 obtain ⟨hn0, hn1⟩ := hn
 have hz1 : w1.heap.size = w.heap.size + 1 := by rw [← hw1.out]; simp
 go_enter Tryd.func14, Tryd.ntmps14
 go_wp2_with (first | (rw [hw1.out]) | fail)
 have hbw := Below.lit w1 (.cells #[.int .i64 o.b, .int .i64 (n + 1), .int .u64 o.k] 34)
 have hgw := World.alloc_heap_new w1 (.cells #[.int .i64 o.b, .int .i64 (n + 1), .int .u64 o.k] 34)
 rw [hz1] at hgw
 refine bodyPost_ret (v := .agg #[.int .i64 o.b, .int .i64 (n + 1), .int .u64 o.k]) ?_ rfl ?_
 ·exact results_cell_row rfl _ _ (w.heap.size + 1) 34 _ (0, 0) _ rfl hgw Tryd.underlying34 rfl (by kernel_rfl)
 ·exact ⟨rfl, hb1.trans (hbw.mono hb1.size)⟩
end Go.Proofs.YtkolilbebkkpdaaDoor

namespace Go.Proofs.YtkolilbebkkpdaaDoor
open Go.RowKit Go.Maps

def eZ : OpI := ⟨0, 0, 0, 0, 0, 0, 0, 0, ⟨0, 0, 0⟩, [], 0, 0⟩
theorem zero_op (w : World) : (zeroValue 42).run Tryd.prog w = .ok (.agg (opC eZ none 0)) w := by kernel_rfl
theorem opC_one (o : OpI) (gp : Option Addr) (gc : Nat) : (opC o gp gc).all (·.oneCell') = true := by simp [opC, Value.oneCell']
theorem opC_info (o : OpI) (gp : Option Addr) (gc : Nat) : (Tryd.prog.info? 42).map (·.size) = some (opC o gp gc).size := by
 show _ = some 27
 kernel_rfl
section
variable {ops : Array Oper} {rest : List Oper} {o : Oper} {a : Act} {Q : Exit → Act → World → Prop} {w : World}
theorem wpL_build (hg : o.guard = none) (t : TypeId) (parts : Array (Nat × Operand)) (hop : o.op = .build t parts) (cells : Array Value) (hb : Tryd.prog.built t (parts.map fun (i, x) => (i, a.eval x)).toList = some cells)
  (h : wpList Tryd.prog ops Q rest (a.put o.dst (.agg cells)) w) : wpList Tryd.prog ops Q (o :: rest) a w :=
 wpList_plain hg fun K hK => wp_build t parts hop (by rw [hb]; rfl) (by rw [hb]; exact hK _ _ h)
theorem run_allocOp (w : World) : (Instr.alloc 42 true (.tuple #[])).run Tryd.prog w = .ok (.pointer (some ⟨w.heap.size, 0, none⟩)) (w.alloc (.cells (opC eZ none 0) 42)) := by
 unfold Instr.alloc
 rw [Sem.run_bind, zero_op]
 rfl
theorem wpL_alloc (hg : o.guard = none) (hop : o.op = .alloc 42) (h : wpList Tryd.prog ops Q rest (a.put o.dst (.pointer (some ⟨w.heap.size, 0, none⟩))) (w.alloc (.cells (opC eZ none 0) 42))) : wpList Tryd.prog ops Q (o :: rest) a w :=
 wpList_plain hg fun K hK => by
  unfold Oper.wp
  have e : (execOp a.eval o).run Tryd.prog w = .ok (.value (.pointer (some ⟨w.heap.size, 0, none⟩))) (w.alloc (.cells (opC eZ none 0) 42)) := by
   unfold execOp
   simp only [hop, Sem.run_bind, run_allocOp, Result.andThen_ok, Sem.run_pure]
  rw [e]
  exact hK _ _ h
theorem wpL_store (hg : o.guard = none) (x y : Operand) (hop : o.op = .store 42 x y) {n : OpI} {gp : Option Addr} {gc : Nat} (hx : a.eval x = .pointer (some ⟨w.heap.size, 0, none⟩)) (hy : a.eval y = .agg (opC n gp gc))
  (h : wpList Tryd.prog ops Q rest (a.put o.dst undef) (w.alloc (.cells (opC n gp gc) 42))) : wpList Tryd.prog ops Q (o :: rest) a (w.alloc (.cells (opC eZ none 0) 42)) :=
 wpList_plain hg fun K hK => by
  unfold Oper.wp
  have e : (execOp a.eval o).run Tryd.prog (w.alloc (.cells (opC eZ none 0) 42)) = .ok .skip (w.alloc (.cells (opC n gp gc) 42)) := by
   unfold execOp
   have := run_storeVar_new (P := Tryd.prog) w 42 (opC eZ none 0) (opC n gp gc) (opC_info n gp gc) rfl (opC_one n gp gc)
   simp only [hop, hx, hy, Instr.storeAt, Instr.sureAddr, Sem.run_bind, Sem.run_pure, Result.andThen_ok, this]
  rw [e]
  exact hK _ _ h
end
section
variable {P : Program} {md : Region.Mode} {ops : Array Oper} {Q : Exit → Act → World → Prop} {D : World → Prop}
theorem wpAnyD_takeG {i : Nat} {oi : Oper} {v : Value} {fuel : Nat} {listed : Array Bool} {a : Act} {w : World} (hD : D w) (hi : ops[i]? = some oi)
  (hs : Region.noSelect ops = true) (hf : Region.free md ops listed i = true) (hr : (Region.ready md ops listed).contains i = true)
  (hQ : ∀ c a w, Q (.panic c) (a.put oi.dst v) w → Q (.panic c) a w) (hg : Region.wanted oi (yielded ops a.tmps) = true) (hy : ∀ w, D w → (execOp a.eval oi).run P w = .ok (.value v) w)
  (h : wpAnyD P md ops Q D fuel (listed.setIfInBounds i true) (a.put oi.dst v) w) : wpAnyD P md ops Q D (fuel + 1) listed a w :=
 wpAnyD_first hi (Region.noSelect_spec hs) hQ fuel listed a w hD (Region.free_spec hi hf) (by simpa using hr) (.inl ⟨hg, hy⟩) h
theorem wpAnyD_oneG {i : Nat} {fuel : Nat} {listed : Array Bool} {a : Act} {w : World} {o : Oper} (hr : Region.ready md ops listed = [i]) (ho : ops[i]? = some o) (hg : Region.wanted o (yielded ops a.tmps) = true)
  (h : ∀ K : Act → World → Prop, (∀ a' w', D w' ∧ wpAnyD P md ops Q D fuel (listed.setIfInBounds i true) a' w' → K a' w') → o.wp P a w K Q) : wpAnyD P md ops Q D (fuel + 1) listed a w := by
 refine ⟨fun h0 => (by rw [h0] at hr; cases hr), fun j hj => ?_⟩
 rw [hr, List.mem_singleton] at hj
 subst hj
 unfold wpOp
 simp only [ho, hg, if_true]
 exact .inl (h _ fun _ _ h => h)
theorem wpAnyD_twoG {i j : Nat} {fuel : Nat} {listed : Array Bool} {a : Act} {w : World} {o p : Oper} (hr : Region.ready md ops listed = [i, j]) (ho : ops[i]? = some o) (hp : ops[j]? = some p) (hg : Region.wanted o (yielded ops a.tmps) = true) (hg2 : Region.wanted p (yielded ops a.tmps) = true)
  (h : ∀ K : Act → World → Prop, (∀ a' w', D w' ∧ wpAnyD P md ops Q D fuel (listed.setIfInBounds i true) a' w' → K a' w') → o.wp P a w K Q)
  (h2 : ∀ K : Act → World → Prop, (∀ a' w', D w' ∧ wpAnyD P md ops Q D fuel (listed.setIfInBounds j true) a' w' → K a' w') → p.wp P a w K Q) : wpAnyD P md ops Q D (fuel + 1) listed a w := by
 refine ⟨fun h0 => (by rw [h0] at hr; cases hr), fun k hk => ?_⟩
 rw [hr] at hk
 rcases List.mem_cons.1 hk with rfl | hk
 ·unfold wpOp
  simp only [ho, hg, if_true]
  exact .inl (h _ fun _ _ h => h)
 ·rw [List.mem_singleton] at hk
  subst hk
  unfold wpOp
  simp only [hp, hg2, if_true]
  exact .inl (h2 _ fun _ _ h => h)
end
end Go.Proofs.YtkolilbebkkpdaaDoor

namespace Go.Proofs.YtkolilbebkkpdaaDoor
open Go.RowKit Go.Maps Go.BigFrame
attribute [local go_sem] in_gr

/-- A roll of one's own, made behind w0; what lies in the blocks from L to U is not the roll's. -/
structure Sit (B L U : Nat) (w0 W : World) (y : Lay) (s : RS) : Prop where
 roll : RollAt W y s
 far : ∀ i ∈ y.foot, B ≤ i ∧ (i < L ∨ U ≤ i)
 below : Below B w0 W
 up : U ≤ W.heap.size
 asks : Asks W
theorem Sit.call {B L U : Nat} {w0 W W' : World} {y : Lay} {s : RS} (h : Sit B L U w0 W y s) (hB : B ≤ W.heap.size) (hb : Below W.heap.size W W') : Sit B L U w0 W' y s :=
 ⟨h.roll.below hb, h.far, h.below.trans (hb.mono hB), Nat.le_trans h.up hb.size, h.asks.below hb⟩
theorem Sit.doo {B L U : Nat} {w0 W W' : World} {y : Lay} {s s' : RS} (h : Sit B L U w0 W y s) (h0 : 0 < B) (hB : B ≤ W.heap.size) (hG : GoesTo W y s' W') : ∃ y', Sit B L U w0 W' y' s' ∧ y'.r = y.r ∧ ∀ i, L ≤ i → i < U → W'.heap[i]? = W.heap[i]? := by
 obtain ⟨y', hR, hr, hT⟩ := hG
 refine ⟨y', ⟨hR, fun i hi => ?_, h.below.trans (hT.below (fun i hi => (h.far i hi).1) hB), Nat.le_trans h.up hT.size, h.asks.turn hT fun hz => by have := (h.far 0 hz).1; omega⟩, hr, fun i h1 h2 => hT.blk i (by have := h.up; omega) fun hi => by have := (h.far i hi).2; omega⟩
 rcases hT.new i hi with h1 | h1
 ·exact h.far i h1
 ·exact ⟨Nat.le_trans hB h1, .inr (Nat.le_trans h.up h1)⟩
theorem OpAt.block {w w' : World} {b : Nat} {o : OpI} {gp : Option Addr} {gc : Nat} (h : OpAt w b o gp gc) (hb : w'.heap[b]? = w.heap[b]?) : OpAt w' b o gp gc := hb.trans h
def eA : OpI := ⟨1, 1, 1, 0, 0, 0, 0, 0, ⟨0, 0, 0⟩, [], 3, 0⟩
theorem eA_ok : eA.Ok := by constructor <;> simp [eA]
theorem eA_at (w : World) : OpAt (w.alloc (.cells (opC eA none 0) 42)) w.heap.size eA none 0 := OpAt.made w eA none 0
def eB : OpI := ⟨1, 2, 2, 0, 2, 0, 0, 2, ⟨0, 0, 0⟩, [], 0, 0⟩
theorem eB_ok : eB.Ok := by constructor <;> simp [eB]
theorem eB_at (w : World) : OpAt (w.alloc (.cells (opC eB none 0) 42)) w.heap.size eB none 0 := OpAt.made w eB none 0
def eC : OpI := ⟨2, 1, 3, 0, 0, 0, 2, 0, ⟨0, 0, 0⟩, [], 0, 0⟩
theorem eC_ok : eC.Ok := by constructor <;> simp [eC]
theorem eC_at (w : World) : OpAt (w.alloc (.cells (opC eC none 0) 42)) w.heap.size eC none 0 := OpAt.made w eC none 0
def eD : OpI := ⟨3, 1, 3, 0, 0, 0, 2, 0, ⟨0, 0, 0⟩, [], 0, 0⟩
theorem eD_ok : eD.Ok := by constructor <;> simp [eD]
theorem eD_at (w : World) : OpAt (w.alloc (.cells (opC eD none 0) 42)) w.heap.size eD none 0 := OpAt.made w eD none 0
theorem run_loadOp {W : World} {b : Nat} {n : OpI} {gp : Option Addr} {gc : Nat} {ρ : Operand → Value} {o : Oper} {x : Operand} (h : OpAt W b n gp gc) (hop : o.op = .load 42 x) (hx : ρ x = .pointer (some ⟨b, 0, none⟩)) : (execOp ρ o).run Tryd.prog W = .ok (.value (.agg (opC n gp gc))) W := by
 unfold execOp
 simp only [hop, hx, Instr.loadAt, Instr.sureAddr, Sem.run_bind, Sem.run_pure, Result.andThen_ok, h.call]
def sA : RS := ⟨[1], [], [(1, ⟨3, none⟩)], 3⟩
def sB : RS := ⟨[1, 2], [], [(1, ⟨3, none⟩), (2, ⟨2, none⟩)], 3⟩
structure Four (w W : World) : Prop where
 a : OpAt W w.heap.size eA none 0
 b : OpAt W (w.heap.size + 1) eB none 0
 c : OpAt W (w.heap.size + 1 + 1) eC none 0
 d : OpAt W (w.heap.size + 1 + 1 + 1) eD none 0
 hb : Below w.heap.size w W
 hz : W.heap.size = w.heap.size + 4
theorem Four.made (w : World) : Four w ((((w.alloc (.cells (opC eA none 0) 42)).alloc (.cells (opC eB none 0) 42)).alloc (.cells (opC eC none 0) 42)).alloc (.cells (opC eD none 0) 42)) := by
 have l1 := eA_at w
 have l2 := eB_at (w.alloc (.cells (opC eA none 0) 42))
 have l3 := eC_at ((w.alloc (.cells (opC eA none 0) 42)).alloc (.cells (opC eB none 0) 42))
 have l4 := eD_at (((w.alloc (.cells (opC eA none 0) 42)).alloc (.cells (opC eB none 0) 42)).alloc (.cells (opC eC none 0) 42))
 have b1 := Below.lit w (.cells (opC eA none 0) 42)
 have b2 := Below.lit (w.alloc (.cells (opC eA none 0) 42)) (.cells (opC eB none 0) 42)
 have b3 := Below.lit ((w.alloc (.cells (opC eA none 0) 42)).alloc (.cells (opC eB none 0) 42)) (.cells (opC eC none 0) 42)
 have b4 := Below.lit (((w.alloc (.cells (opC eA none 0) 42)).alloc (.cells (opC eB none 0) 42)).alloc (.cells (opC eC none 0) 42)) (.cells (opC eD none 0) 42)
 simp only [World.size_alloc] at l2 l3 l4 b2 b3 b4
 have h1 := l1.below b2 (by omega)
 have h2 := h1.below b3 (by omega)
 have h3 := l2.below b3 (by omega)
 exact ⟨h2.below b4 (by omega), h3.below b4 (by omega), l3.below b4 (by omega), l4, ((b1.trans (b2.mono (by omega))).trans (b3.mono (by omega))).trans (b4.mono (by omega)), by simp⟩
set_option maxRecDepth 100000 in
set_option maxHeartbeats 8000000 in
theorem lives_any (w : World) (hA : Asks w) :
  Calls Tryd.prog 20 #[] w fun e w' => e = .returned (.bool true) ∧ Below w.heap.size w w' := by
 have h0 : 0 < w.heap.size := cell_lt hA.a0
 go_enter Tryd.func20, Tryd.ntmps20
 go_wp2_with fail
 refine (Cards_any _).mono ?_
 rintro e w1 ⟨v, rfl, hown, hb1⟩
 obtain ⟨p, c, rfl, hc, hRd, _⟩ := hown.u
 go_wp2_with fail
 refine (New_any _ p c hRd).mono ?_
 rintro e w2 ⟨y, rfl, hR2, hb2, hf2⟩
 have hB2 := hb1.trans (hb2.mono hb1.size)
 obtain ⟨W, hW, hF⟩ := nameW (p := fun W => Four w2 W) (Four.made w2)
 have hB : w.heap.size ≤ w2.heap.size := hB2.size
 have hS_W : Sit w.heap.size w2.heap.size (w2.heap.size + 4) w W y RS.new := ⟨hR2.below hF.hb, fun i hi => ⟨Nat.le_trans hb1.size (hf2 i hi), .inl (hR2.lt i hi)⟩, hB2.trans (hF.hb.mono hB), by rw [hF.hz]; exact Nat.le_refl _, (hA.below hB2).below hF.hb⟩
 have hA_W := hF.a
 have hB_W := hF.b
 have hC_W := hF.c
 have hD_W := hF.d
 have hOk_W : RS.new.Ok 0 := new_ok 0
 have hBW_W : w.heap.size ≤ W.heap.size := Nat.le_trans hB hF.hb.size
 go_wp2_with (first | (rw [hW.out]) | (first | (refine wpL_build rfl 42 #[(0, Operand.const (Value.int IntKind.i64 1)), (1, Operand.const (Value.int IntKind.i64 1)), (2, Operand.const (Value.int IntKind.i64 1)), (16, Operand.const (Value.int IntKind.i64 3))] rfl (opC eA none 0) (by kernel_rfl) ?_; simp only [Act.put, List.setIfInBounds_toArray, List.set_cons_succ, List.set_cons_zero]) | (refine wpL_build rfl 42 #[(0, Operand.const (Value.int IntKind.i64 1)), (1, Operand.const (Value.int IntKind.i64 2)), (2, Operand.const (Value.int IntKind.i64 2)), (5, Operand.const (Value.int IntKind.i64 2)), (8, Operand.const (Value.int IntKind.i64 2))] rfl (opC eB none 0) (by kernel_rfl) ?_; simp only [Act.put, List.setIfInBounds_toArray, List.set_cons_succ, List.set_cons_zero]) | (refine wpL_build rfl 42 #[(0, Operand.const (Value.int IntKind.i64 2)), (1, Operand.const (Value.int IntKind.i64 1)), (2, Operand.const (Value.int IntKind.i64 3)), (7, Operand.const (Value.int IntKind.i64 2))] rfl (opC eC none 0) (by kernel_rfl) ?_; simp only [Act.put, List.setIfInBounds_toArray, List.set_cons_succ, List.set_cons_zero]) | (refine wpL_build rfl 42 #[(0, Operand.const (Value.int IntKind.i64 3)), (1, Operand.const (Value.int IntKind.i64 1)), (2, Operand.const (Value.int IntKind.i64 3)), (7, Operand.const (Value.int IntKind.i64 2))] rfl (opC eD none 0) (by kernel_rfl) ?_; simp only [Act.put, List.setIfInBounds_toArray, List.set_cons_succ, List.set_cons_zero]) | (refine wpL_alloc rfl rfl ?_; simp only [Act.put, List.setIfInBounds_toArray, List.set_cons_succ, List.set_cons_zero]) | (refine wpL_store rfl _ _ rfl (n := eA) (gp := none) (gc := 0) (by first | rfl | (simp only [World.size_alloc]; rfl)) rfl ?_; try simp only [Act.put]) | (refine wpL_store rfl _ _ rfl (n := eB) (gp := none) (gc := 0) (by first | rfl | (simp only [World.size_alloc]; rfl)) rfl ?_; try simp only [Act.put]) | (refine wpL_store rfl _ _ rfl (n := eC) (gp := none) (gc := 0) (by first | rfl | (simp only [World.size_alloc]; rfl)) rfl ?_; try simp only [Act.put]) | (refine wpL_store rfl _ _ rfl (n := eD) (gp := none) (gc := 0) (by first | rfl | (simp only [World.size_alloc]; rfl)) rfl ?_; try simp only [Act.put]) | fail) | fail)
 simp only [World.size_alloc]
 clear hown hRd hc hF
 have hx : ∀ z : GrIn W, RollAt z.at_ y RS.new := fun z => hS_W.roll.below z.gr
 have hax : ∀ z : GrIn W, Asks z.at_ := fun z => hS_W.asks.below z.gr
 have hox : ∀ T, (∃ z : GrIn W, T = z.at_) → OpAt T (w2.heap.size + 1) eB none 0 := fun T ⟨z, hz⟩ => by rw [hz]; exact hB_W.below z.gr (cell_lt hB_W.cb)
 have hval : RS.may RS.new eB = 15 := by decide
 refine wp_region_gr (by kernel_rfl) (by kernel_rfl) ?_
 repeat (first
  | (go_big_quiet_want; refine quiet_whole _ rfl rfl hox ?_; simp only [Act.put, List.setIfInBounds_toArray, List.set_cons_succ, List.set_cons_zero]; go_big_quiet_on)
  | go_big_quiet_step (first
   | (go_at_call 14; rename_i z; refine (Name_any eB none 0 1 _ (by decide) (by decide)).mono ?_; rintro e w' ⟨rfl, hbz⟩; exact ⟨rfl, z.on hbz⟩)
   | (go_at_call 16; rename_i z; refine (May_any _ y RS.new eB none 0 (eB.name 1) 0 (by decide) (hax z) (hx z) hOk_W eB_ok ⟨rfl, .nil, fun _ h => (by cases h)⟩).mono ?_; rintro e w' ⟨rfl, hbz⟩; rw [hval]; exact ⟨rfl, z.on hbz⟩)))
 refine wpQuiet_nil ?_
 intro V1 hw10'
 obtain ⟨⟨_, hw_V1⟩, rfl⟩ := hw10'
 clear hx hax hox hval
 have hS_V1 := hS_W.call hBW_W hw_V1
 have hBW_V1 := Nat.le_trans hBW_W hw_V1.size
 have hOk_V1 := hOk_W
 have hA_V1 := hA_W.below hw_V1 (cell_lt hA_W.cb)
 have hB_V1 := hB_W.below hw_V1 (cell_lt hB_W.cb)
 have hC_V1 := hC_W.below hw_V1 (cell_lt hC_W.cb)
 have hD_V1 := hD_W.below hw_V1 (cell_lt hD_W.cb)
 change Exit.then _ _ _ _ V1
 go_wp2_with fail
 have hx : ∀ z : GrIn V1, RollAt z.at_ y RS.new := fun z => hS_V1.roll.below z.gr
 have hax : ∀ z : GrIn V1, Asks z.at_ := fun z => hS_V1.asks.below z.gr
 have hox : ∀ T, (∃ z : GrIn V1, T = z.at_) → OpAt T w2.heap.size eA none 0 := fun T ⟨z, hz⟩ => by rw [hz]; exact hA_V1.below z.gr (cell_lt hA_V1.cb)
 have hval : RS.may RS.new eA = 0 := by decide
 refine wp_region_gr (by kernel_rfl) (by kernel_rfl) ?_
 repeat (first
  | (go_big_quiet_want; refine quiet_whole _ rfl rfl hox ?_; simp only [Act.put, List.setIfInBounds_toArray, List.set_cons_succ, List.set_cons_zero]; go_big_quiet_on)
  | go_big_quiet_step (first
   | (go_at_call 14; rename_i z; refine (Name_any eA none 0 0 _ (by decide) (by decide)).mono ?_; rintro e w' ⟨rfl, hbz⟩; exact ⟨rfl, z.on hbz⟩)
   | (go_at_call 16; rename_i z; refine (May_any _ y RS.new eA none 0 (eA.name 0) 0 (by decide) (hax z) (hx z) hOk_V1 eA_ok ⟨rfl, .nil, fun _ h => (by cases h)⟩).mono ?_; rintro e w' ⟨rfl, hbz⟩; rw [hval]; exact ⟨rfl, z.on hbz⟩)))
 refine wpQuiet_nil ?_
 intro V2 hw10'
 obtain ⟨⟨_, hw_V2⟩, rfl⟩ := hw10'
 clear hx hax hox hval
 have hS_V2 := hS_V1.call hBW_V1 hw_V2
 have hBW_V2 := Nat.le_trans hBW_V1 hw_V2.size
 have hOk_V2 := hOk_V1
 have hA_V2 := hA_V1.below hw_V2 (cell_lt hA_V1.cb)
 have hB_V2 := hB_V1.below hw_V2 (cell_lt hB_V1.cb)
 have hC_V2 := hC_V1.below hw_V2 (cell_lt hC_V1.cb)
 have hD_V2 := hD_V1.below hw_V2 (cell_lt hD_V1.cb)
 change Exit.then _ _ _ _ V2
 go_wp2_with fail
 refine wp_region_D (D := fun T => OpAt T w2.heap.size eA none 0) (by kernel_rfl) ?_
 change wpAnyD _ _ _ _ _ 5 _ _ _
 have hd_V2 : OpAt V2.drew w2.heap.size eA none 0 := hA_V2
 refine wpAnyD_take (i := 0) (v := .pointer (some ⟨y.r, 0, none⟩)) hd_V2 rfl (by kernel_rfl) (by kernel_rfl) (by kernel_rfl) (fun _ _ _ h => h) rfl (fun T _ => rfl) ?_
 simp only [Act.put, List.setIfInBounds_toArray]
 refine wpAnyD_take (i := 1) (v := .agg (opC eA none 0)) hd_V2 rfl (by kernel_rfl) (by kernel_rfl) (by kernel_rfl) (fun _ _ _ h => h) rfl (fun T hT => run_loadOp hT rfl rfl) ?_
 simp only [Act.put]
 refine wpAnyD_take (i := 2) (v := .agg (opC eA none 0)) hd_V2 rfl (by kernel_rfl) (by kernel_rfl) (by kernel_rfl) (fun _ _ _ h => h) rfl (fun T hT => run_loadOp hT rfl rfl) ?_
 simp only [Act.put]
 refine wpAnyD_one (i := 3) (by kernel_rfl) rfl rfl (fun K hK => ?_)
 go_simp
 have hdr_V2 : Below V2.heap.size V2 V2.drew := (Below.refl _ _).drew
 refine (Name_any eA none 0 0 _ (by decide) (by decide)).mono ?_
 rintro e w' ⟨rfl, hbn⟩
 have hbn2 := hdr_V2.trans (hbn.mono hdr_V2.size)
 have hS2 := hS_V2.call hBW_V2 hbn2
 refine hK _ _ ⟨hA_V2.below hbn2 (cell_lt hA_V2.cb), ?_⟩
 clear hK K
 try simp only [Act.put, List.setIfInBounds_toArray, List.set_cons_succ, List.set_cons_zero]
 refine wpAnyD_one (i := 4) (by kernel_rfl) rfl rfl (fun K hK => ?_)
 go_simp
 refine (Do_any _ y RS.new eA none 0 (eA.name 0) 0 (by decide) hS2.roll hOk_V2 eA_ok ⟨rfl, .nil, fun _ h => (by cases h)⟩ (by decide)).mono ?_
 rintro e V3 ⟨rfl, hG⟩
 rw [show RS.act RS.new eA (eA.name 0) = sA by rfl] at hG
 obtain ⟨y3, hS_V3, hr_V3, hkeep⟩ := hS2.doo h0 (Nat.le_trans hBW_V2 hbn2.size) hG
 have hA_V3 : OpAt V3 w2.heap.size eA none 0 := (hA_V2.below hbn2 (cell_lt hA_V2.cb)).block (hkeep _ (by omega) (by omega))
 have hB_V3 : OpAt V3 (w2.heap.size + 1) eB none 0 := (hB_V2.below hbn2 (cell_lt hB_V2.cb)).block (hkeep _ (by omega) (by omega))
 have hC_V3 : OpAt V3 (w2.heap.size + 1 + 1) eC none 0 := (hC_V2.below hbn2 (cell_lt hC_V2.cb)).block (hkeep _ (by omega) (by omega))
 have hD_V3 : OpAt V3 (w2.heap.size + 1 + 1 + 1) eD none 0 := (hD_V2.below hbn2 (cell_lt hD_V2.cb)).block (hkeep _ (by omega) (by omega))
 refine hK _ _ ⟨hA_V3, ?_⟩
 clear hK K hkeep hS2 hbn hbn2
 try simp only [Act.put, List.setIfInBounds_toArray, List.set_cons_succ, List.set_cons_zero]
 refine wpAnyD_done (by kernel_rfl) ?_ _
 have hBW_V3 : w.heap.size ≤ V3.heap.size := Nat.le_trans (by omega) hS_V3.up
 have hOk_V3 : RS.Ok sA 1 := act_ok hOk_V2 eA_ok (eA.name 0) (by decide) (by decide)
 rw [← hr_V3]
 replace hr_V3 := Lib.hid hr_V3
 change Exit.then _ _ _ _ V3
 go_wp2_with fail
 have hx : ∀ z : GrIn V3, RollAt z.at_ y3 sA := fun z => hS_V3.roll.below z.gr
 have hax : ∀ z : GrIn V3, Asks z.at_ := fun z => hS_V3.asks.below z.gr
 have hox : ∀ T, (∃ z : GrIn V3, T = z.at_) → OpAt T (w2.heap.size + 1) eB none 0 := fun T ⟨z, hz⟩ => by rw [hz]; exact hB_V3.below z.gr (cell_lt hB_V3.cb)
 have hval : RS.may sA eB = 0 := by decide
 refine wp_region_gr (by kernel_rfl) (by kernel_rfl) ?_
 repeat (first
  | (go_big_quiet_want; refine quiet_whole _ rfl rfl hox ?_; simp only [Act.put, List.setIfInBounds_toArray, List.set_cons_succ, List.set_cons_zero]; go_big_quiet_on)
  | go_big_quiet_step (first
   | (go_at_call 14; rename_i z; refine (Name_any eB none 0 1 _ (by decide) (by decide)).mono ?_; rintro e w' ⟨rfl, hbz⟩; exact ⟨rfl, z.on hbz⟩)
   | (go_at_call 16; rename_i z; refine (May_any _ y3 sA eB none 0 (eB.name 1) 1 (by decide) (hax z) (hx z) hOk_V3 eB_ok ⟨rfl, .nil, fun _ h => (by cases h)⟩).mono ?_; rintro e w' ⟨rfl, hbz⟩; rw [hval]; exact ⟨rfl, z.on hbz⟩)))
 refine wpQuiet_nil ?_
 intro V4 hw10'
 obtain ⟨⟨_, hw_V4⟩, rfl⟩ := hw10'
 clear hx hax hox hval
 have hS_V4 := hS_V3.call hBW_V3 hw_V4
 have hBW_V4 := Nat.le_trans hBW_V3 hw_V4.size
 have hOk_V4 := hOk_V3
 have hA_V4 := hA_V3.below hw_V4 (cell_lt hA_V3.cb)
 have hB_V4 := hB_V3.below hw_V4 (cell_lt hB_V3.cb)
 have hC_V4 := hC_V3.below hw_V4 (cell_lt hC_V3.cb)
 have hD_V4 := hD_V3.below hw_V4 (cell_lt hD_V3.cb)
 change Exit.then _ _ _ _ V4
 go_wp2_with fail
 refine wp_region_D (D := fun T => OpAt T (w2.heap.size + 1) eB none 0) (by kernel_rfl) ?_
 change wpAnyD _ _ _ _ _ 5 _ _ _
 have hd_V4 : OpAt V4.drew (w2.heap.size + 1) eB none 0 := hB_V4
 refine wpAnyD_take (i := 0) (v := .pointer (some ⟨y3.r, 0, none⟩)) hd_V4 rfl (by kernel_rfl) (by kernel_rfl) (by kernel_rfl) (fun _ _ _ h => h) rfl (fun T _ => rfl) ?_
 simp only [Act.put, List.setIfInBounds_toArray]
 refine wpAnyD_take (i := 1) (v := .agg (opC eB none 0)) hd_V4 rfl (by kernel_rfl) (by kernel_rfl) (by kernel_rfl) (fun _ _ _ h => h) rfl (fun T hT => run_loadOp hT rfl rfl) ?_
 simp only [Act.put]
 refine wpAnyD_take (i := 2) (v := .agg (opC eB none 0)) hd_V4 rfl (by kernel_rfl) (by kernel_rfl) (by kernel_rfl) (fun _ _ _ h => h) rfl (fun T hT => run_loadOp hT rfl rfl) ?_
 simp only [Act.put]
 refine wpAnyD_one (i := 3) (by kernel_rfl) rfl rfl (fun K hK => ?_)
 go_simp
 have hdr_V4 : Below V4.heap.size V4 V4.drew := (Below.refl _ _).drew
 refine (Name_any eB none 0 1 _ (by decide) (by decide)).mono ?_
 rintro e w' ⟨rfl, hbn⟩
 have hbn2 := hdr_V4.trans (hbn.mono hdr_V4.size)
 have hS2 := hS_V4.call hBW_V4 hbn2
 refine hK _ _ ⟨hB_V4.below hbn2 (cell_lt hB_V4.cb), ?_⟩
 clear hK K
 try simp only [Act.put, List.setIfInBounds_toArray, List.set_cons_succ, List.set_cons_zero]
 refine wpAnyD_one (i := 4) (by kernel_rfl) rfl rfl (fun K hK => ?_)
 go_simp
 refine (Do_any _ y3 sA eB none 0 (eB.name 1) 1 (by decide) hS2.roll hOk_V4 eB_ok ⟨rfl, .nil, fun _ h => (by cases h)⟩ (by decide)).mono ?_
 rintro e V5 ⟨rfl, hG⟩
 rw [show RS.act sA eB (eB.name 1) = sB by rfl] at hG
 obtain ⟨y5, hS_V5, hr_V5, hkeep⟩ := hS2.doo h0 (Nat.le_trans hBW_V4 hbn2.size) hG
 have hA_V5 : OpAt V5 w2.heap.size eA none 0 := (hA_V4.below hbn2 (cell_lt hA_V4.cb)).block (hkeep _ (by omega) (by omega))
 have hB_V5 : OpAt V5 (w2.heap.size + 1) eB none 0 := (hB_V4.below hbn2 (cell_lt hB_V4.cb)).block (hkeep _ (by omega) (by omega))
 have hC_V5 : OpAt V5 (w2.heap.size + 1 + 1) eC none 0 := (hC_V4.below hbn2 (cell_lt hC_V4.cb)).block (hkeep _ (by omega) (by omega))
 have hD_V5 : OpAt V5 (w2.heap.size + 1 + 1 + 1) eD none 0 := (hD_V4.below hbn2 (cell_lt hD_V4.cb)).block (hkeep _ (by omega) (by omega))
 refine hK _ _ ⟨hB_V5, ?_⟩
 clear hK K hkeep hS2 hbn hbn2
 try simp only [Act.put, List.setIfInBounds_toArray, List.set_cons_succ, List.set_cons_zero]
 refine wpAnyD_done (by kernel_rfl) ?_ _
 have hBW_V5 : w.heap.size ≤ V5.heap.size := Nat.le_trans (by omega) hS_V5.up
 have hOk_V5 : RS.Ok sB 2 := act_ok hOk_V4 eB_ok (eB.name 1) (by decide) (by decide)
 rw [← hr_V5]
 replace hr_V5 := Lib.hid hr_V5
 change Exit.then _ _ _ _ V5
 go_wp2_with fail
 refine wp_region_D (D := fun T => Below V5.heap.size V5 T) (by kernel_rfl) ?_
 change wpAnyD _ _ _ _ _ 48 _ _ _
 have hx : ∀ T, Below V5.heap.size V5 T → RollAt T y5 sB := fun T h => hS_V5.roll.below h
 have hax : ∀ T, Below V5.heap.size V5 T → Asks T := fun T h => hS_V5.asks.below h
 have hcx : ∀ T, Below V5.heap.size V5 T → OpAt T (w2.heap.size + 1 + 1) eC none 0 := fun T h => hC_V5.below h (cell_lt hC_V5.cb)
 have hdx : ∀ T, Below V5.heap.size V5 T → OpAt T (w2.heap.size + 1 + 1 + 1) eD none 0 := fun T h => hD_V5.below h (cell_lt hD_V5.cb)
 have hbz : Below V5.heap.size V5 V5.drew := (Below.refl _ _).drew
 clear hA_V5 hB_V5 hC_V5 hD_V5
 replace hx := Lib.hid hx
 replace hax := Lib.hid hax
 replace hcx := Lib.hid hcx
 replace hdx := Lib.hid hdx
 refine wpAnyD_takeG (i := 0) (v := .int .i64 15) hbz rfl (by kernel_rfl) (by kernel_rfl) (by kernel_rfl) (fun _ _ _ h => h) (by kernel_rfl) (fun T _ => by go_simp) ?_
 simp only [Act.put, List.setIfInBounds_toArray]
 refine wpAnyD_takeG (i := 1) (v := .bool true) hbz rfl (by kernel_rfl) (by kernel_rfl) (by kernel_rfl) (fun _ _ _ h => h) (by kernel_rfl) (fun T _ => by go_simp) ?_
 simp only [Act.put]
 refine wpAnyD_takeG (i := 2) (v := .bool true) hbz rfl (by kernel_rfl) (by kernel_rfl) (by kernel_rfl) (fun _ _ _ h => h) (by kernel_rfl) (fun T _ => by go_simp) ?_
 simp only [Act.put]
 refine wpAnyD_takeG (i := 3) (v := .int .i64 0) hbz rfl (by kernel_rfl) (by kernel_rfl) (by kernel_rfl) (fun _ _ _ h => h) (by kernel_rfl) (fun T _ => by go_simp) ?_
 simp only [Act.put]
 refine wpAnyD_takeG (i := 4) (v := .bool true) hbz rfl (by kernel_rfl) (by kernel_rfl) (by kernel_rfl) (fun _ _ _ h => h) (by kernel_rfl) (fun T _ => by go_simp) ?_
 simp only [Act.put]
 refine wpAnyD_takeG (i := 5) (v := .bool true) hbz rfl (by kernel_rfl) (by kernel_rfl) (by kernel_rfl) (fun _ _ _ h => h) (by kernel_rfl) (fun T _ => by go_simp) ?_
 simp only [Act.put]
 refine wpAnyD_takeG (i := 6) (v := .bool true) hbz rfl (by kernel_rfl) (by kernel_rfl) (by kernel_rfl) (fun _ _ _ h => h) (by kernel_rfl) (fun T _ => by go_simp) ?_
 simp only [Act.put]
 refine wpAnyD_takeG (i := 7) (v := .int .i64 0) hbz rfl (by kernel_rfl) (by kernel_rfl) (by kernel_rfl) (fun _ _ _ h => h) (by kernel_rfl) (fun T _ => by go_simp) ?_
 simp only [Act.put]
 refine wpAnyD_takeG (i := 8) (v := .bool true) hbz rfl (by kernel_rfl) (by kernel_rfl) (by kernel_rfl) (fun _ _ _ h => h) (by kernel_rfl) (fun T _ => by go_simp) ?_
 simp only [Act.put]
 refine wpAnyD_takeG (i := 9) (v := .bool true) hbz rfl (by kernel_rfl) (by kernel_rfl) (by kernel_rfl) (fun _ _ _ h => h) (by kernel_rfl) (fun T _ => by go_simp) ?_
 simp only [Act.put]
 refine wpAnyD_takeG (i := 10) (v := .bool true) hbz rfl (by kernel_rfl) (by kernel_rfl) (by kernel_rfl) (fun _ _ _ h => h) (by kernel_rfl) (fun T _ => by go_simp) ?_
 simp only [Act.put]
 refine wpAnyD_takeG (i := 11) (v := .pointer (some ⟨y5.r, 0, none⟩)) hbz rfl (by kernel_rfl) (by kernel_rfl) (by kernel_rfl) (fun _ _ _ h => h) (by kernel_rfl) (fun T _ => by go_simp) ?_
 simp only [Act.put]
 refine wpAnyD_oneG (i := 12) (by kernel_rfl) rfl (by kernel_rfl) (fun K hK => ?_)
 go_simp
 refine (Role_any _ y5 sB 1 (hx.out _ hbz) (by unfold i64ok; omega)).mono ?_
 rintro e _ ⟨rfl, rfl⟩
 refine hK _ _ ⟨hbz, ?_⟩
 clear hK K
 try simp only [Act.put, List.setIfInBounds_toArray, List.set_cons_succ, List.set_cons_zero]
 rw [show RS.role sB 1 = 3 by decide]
 refine wpAnyD_takeG (i := 13) (v := .bool true) hbz rfl (by kernel_rfl) (by kernel_rfl) (by kernel_rfl) (fun _ _ _ h => h) (by kernel_rfl) (fun T _ => by go_simp) ?_
 simp only [Act.put, List.setIfInBounds_toArray]
 refine wpAnyD_takeG (i := 14) (v := .bool true) hbz rfl (by kernel_rfl) (by kernel_rfl) (by kernel_rfl) (fun _ _ _ h => h) (by kernel_rfl) (fun T _ => by go_simp) ?_
 simp only [Act.put]
 refine wpAnyD_takeG (i := 15) (v := .bool true) hbz rfl (by kernel_rfl) (by kernel_rfl) (by kernel_rfl) (fun _ _ _ h => h) (by kernel_rfl) (fun T _ => by go_simp) ?_
 simp only [Act.put]
 refine wpAnyD_takeG (i := 16) (v := .pointer (some ⟨y5.r, 0, none⟩)) hbz rfl (by kernel_rfl) (by kernel_rfl) (by kernel_rfl) (fun _ _ _ h => h) (by kernel_rfl) (fun T _ => by go_simp) ?_
 simp only [Act.put]
 refine wpAnyD_oneG (i := 17) (by kernel_rfl) rfl (by kernel_rfl) (fun K hK => ?_)
 go_simp
 refine (Role_any _ y5 sB 2 (hx.out _ hbz) (by unfold i64ok; omega)).mono ?_
 rintro e _ ⟨rfl, rfl⟩
 refine hK _ _ ⟨hbz, ?_⟩
 clear hK K
 try simp only [Act.put, List.setIfInBounds_toArray, List.set_cons_succ, List.set_cons_zero]
 rw [show RS.role sB 2 = 2 by decide]
 refine wpAnyD_takeG (i := 18) (v := .bool true) hbz rfl (by kernel_rfl) (by kernel_rfl) (by kernel_rfl) (fun _ _ _ h => h) (by kernel_rfl) (fun T _ => by go_simp) ?_
 simp only [Act.put, List.setIfInBounds_toArray]
 refine wpAnyD_takeG (i := 19) (v := .bool true) hbz rfl (by kernel_rfl) (by kernel_rfl) (by kernel_rfl) (fun _ _ _ h => h) (by kernel_rfl) (fun T _ => by go_simp) ?_
 simp only [Act.put]
 refine wpAnyD_takeG (i := 20) (v := .bool true) hbz rfl (by kernel_rfl) (by kernel_rfl) (by kernel_rfl) (fun _ _ _ h => h) (by kernel_rfl) (fun T _ => by go_simp) ?_
 simp only [Act.put]
 refine wpAnyD_takeG (i := 21) (v := .pointer (some ⟨y5.r, 0, none⟩)) hbz rfl (by kernel_rfl) (by kernel_rfl) (by kernel_rfl) (fun _ _ _ h => h) (by kernel_rfl) (fun T _ => by go_simp) ?_
 simp only [Act.put]
 refine wpAnyD_takeG (i := 22) (v := .agg (opC eC none 0)) hbz rfl (by kernel_rfl) (by kernel_rfl) (by kernel_rfl) (fun _ _ _ h => h) (by kernel_rfl) (fun T hT => run_loadOp (hcx.out T hT) rfl rfl) ?_
 simp only [Act.put]
 refine wpAnyD_takeG (i := 23) (v := .agg (opC eC none 0)) hbz rfl (by kernel_rfl) (by kernel_rfl) (by kernel_rfl) (fun _ _ _ h => h) (by kernel_rfl) (fun T hT => run_loadOp (hcx.out T hT) rfl rfl) ?_
 simp only [Act.put]
 refine wpAnyD_oneG (i := 24) (by kernel_rfl) rfl (by kernel_rfl) (fun K hK => ?_)
 go_simp
 refine (Name_any eC none 0 0 _ (by decide) (by decide)).mono ?_
 rintro e T24 ⟨rfl, hq24⟩
 have hb24 : Below V5.heap.size V5 T24 := hbz.trans (hq24.mono hbz.size)
 refine hK _ _ ⟨hb24, ?_⟩
 clear hK K
 try simp only [Act.put, List.setIfInBounds_toArray, List.set_cons_succ, List.set_cons_zero]
 refine wpAnyD_oneG (i := 25) (by kernel_rfl) rfl (by kernel_rfl) (fun K hK => ?_)
 go_simp
 refine (May_any _ y5 sB eC none 0 (eC.name 0) 2 (by decide) (hax.out _ hb24) (hx.out _ hb24) hOk_V5 eC_ok ⟨rfl, .nil, fun _ h => (by cases h)⟩).mono ?_
 rintro e T25 ⟨rfl, hq25⟩
 have hb25 : Below V5.heap.size V5 T25 := hb24.trans (hq25.mono hb24.size)
 refine hK _ _ ⟨hb25, ?_⟩
 clear hK K
 try simp only [Act.put, List.setIfInBounds_toArray, List.set_cons_succ, List.set_cons_zero]
 rw [show RS.may sB eC = 0 by decide]
 refine wpAnyD_takeG (i := 26) (v := .bool true) hb25 rfl (by kernel_rfl) (by kernel_rfl) (by kernel_rfl) (fun _ _ _ h => h) (by kernel_rfl) (fun T _ => by go_simp) ?_
 simp only [Act.put, List.setIfInBounds_toArray]
 refine wpAnyD_takeG (i := 27) (v := .bool true) hb25 rfl (by kernel_rfl) (by kernel_rfl) (by kernel_rfl) (fun _ _ _ h => h) (by kernel_rfl) (fun T _ => by go_simp) ?_
 simp only [Act.put]
 refine wpAnyD_takeG (i := 28) (v := .bool true) hb25 rfl (by kernel_rfl) (by kernel_rfl) (by kernel_rfl) (fun _ _ _ h => h) (by kernel_rfl) (fun T _ => by go_simp) ?_
 simp only [Act.put]
 refine wpAnyD_takeG (i := 29) (v := .pointer (some ⟨y5.r, 0, none⟩)) hb25 rfl (by kernel_rfl) (by kernel_rfl) (by kernel_rfl) (fun _ _ _ h => h) (by kernel_rfl) (fun T _ => by go_simp) ?_
 simp only [Act.put]
 refine wpAnyD_takeG (i := 30) (v := .agg (opC eD none 0)) hb25 rfl (by kernel_rfl) (by kernel_rfl) (by kernel_rfl) (fun _ _ _ h => h) (by kernel_rfl) (fun T hT => run_loadOp (hdx.out T hT) rfl rfl) ?_
 simp only [Act.put]
 refine wpAnyD_takeG (i := 31) (v := .agg (opC eD none 0)) hb25 rfl (by kernel_rfl) (by kernel_rfl) (by kernel_rfl) (fun _ _ _ h => h) (by kernel_rfl) (fun T hT => run_loadOp (hdx.out T hT) rfl rfl) ?_
 simp only [Act.put]
 refine wpAnyD_oneG (i := 32) (by kernel_rfl) rfl (by kernel_rfl) (fun K hK => ?_)
 go_simp
 refine (Name_any eD none 0 0 _ (by decide) (by decide)).mono ?_
 rintro e T32 ⟨rfl, hq32⟩
 have hb32 : Below V5.heap.size V5 T32 := hb25.trans (hq32.mono hb25.size)
 refine hK _ _ ⟨hb32, ?_⟩
 clear hK K
 try simp only [Act.put, List.setIfInBounds_toArray, List.set_cons_succ, List.set_cons_zero]
 refine wpAnyD_oneG (i := 33) (by kernel_rfl) rfl (by kernel_rfl) (fun K hK => ?_)
 go_simp
 refine (May_any _ y5 sB eD none 0 (eD.name 0) 2 (by decide) (hax.out _ hb32) (hx.out _ hb32) hOk_V5 eD_ok ⟨rfl, .nil, fun _ h => (by cases h)⟩).mono ?_
 rintro e T33 ⟨rfl, hq33⟩
 have hb33 : Below V5.heap.size V5 T33 := hb32.trans (hq33.mono hb32.size)
 refine hK _ _ ⟨hb33, ?_⟩
 clear hK K
 try simp only [Act.put, List.setIfInBounds_toArray, List.set_cons_succ, List.set_cons_zero]
 rw [show RS.may sB eD = 15 by decide]
 refine wpAnyD_takeG (i := 34) (v := .bool true) hb33 rfl (by kernel_rfl) (by kernel_rfl) (by kernel_rfl) (fun _ _ _ h => h) (by kernel_rfl) (fun T _ => by go_simp) ?_
 simp only [Act.put, List.setIfInBounds_toArray]
 refine wpAnyD_takeG (i := 35) (v := .bool true) hb33 rfl (by kernel_rfl) (by kernel_rfl) (by kernel_rfl) (fun _ _ _ h => h) (by kernel_rfl) (fun T _ => by go_simp) ?_
 simp only [Act.put]
 refine wpAnyD_takeG (i := 36) (v := .bool true) hb33 rfl (by kernel_rfl) (by kernel_rfl) (by kernel_rfl) (fun _ _ _ h => h) (by kernel_rfl) (fun T _ => by go_simp) ?_
 simp only [Act.put]
 refine wpAnyD_takeG (i := 37) (v := .pointer (some ⟨y5.r, 0, none⟩)) hb33 rfl (by kernel_rfl) (by kernel_rfl) (by kernel_rfl) (fun _ _ _ h => h) (by kernel_rfl) (fun T _ => by go_simp) ?_
 simp only [Act.put]
 have hsort : sortI sB.ins = [1, 2] := sortI_eq (by simp) (List.Perm.refl _)
 replace hsort := Lib.hid hsort
 refine wpAnyD_twoG (i := 38) (j := 39) (by kernel_rfl) rfl rfl (by kernel_rfl) (by kernel_rfl) (fun K hK => ?_) (fun K hK => ?_)
 ·go_simp
  refine (Devices_any _ y5 sB 2 (hx.out _ hb33) hOk_V5).mono ?_
  rintro e T38 ⟨p5, c5, rfl, hu5, _, hq38⟩
  have hb38 : Below V5.heap.size V5 T38 := hb33.trans (hq38.mono hb33.size)
  rw [hsort.out] at hu5
  replace hu5 : UI T38 p5 2 [1, 2] := hu5
  refine hK _ _ ⟨hb38, ?_⟩
  clear hK K
  try simp only [Act.put, List.setIfInBounds_toArray, List.set_cons_succ, List.set_cons_zero]
  refine wpAnyD_oneG (i := 39) (by kernel_rfl) rfl (by kernel_rfl) (fun K hK => ?_)
  go_simp
  have hrow := UI.row T38 [1, 2] (by decide)
  have hb39a := Below.lit T38 (.cells #[.int .i64 1, .int .i64 2] 3)
  have hb39 : Below V5.heap.size V5 (T38.alloc (.cells #[.int .i64 1, .int .i64 2] 3)) := hb38.trans (hb39a.mono hb38.size)
  refine hK _ _ ⟨hb39, ?_⟩
  clear hK K
  try simp only [Act.put, List.setIfInBounds_toArray, List.set_cons_succ, List.set_cons_zero]
  refine wpAnyD_oneG (i := 40) (by kernel_rfl) rfl (by kernel_rfl) (fun K hK => ?_)
  go_simp
  refine (SameInts_yes p5 (some ⟨T38.heap.size, 0, none⟩) 2 [1, 2] c5 2 _ (hu5.below hb39a) hrow (by omega)).mono ?_
  rintro e T40 ⟨rfl, hq40⟩
  have hb40 : Below V5.heap.size V5 T40 := hb39.trans (hq40.mono hb39.size)
  refine hK _ _ ⟨hb40, ?_⟩
  clear hK K
  try simp only [Act.put, List.setIfInBounds_toArray, List.set_cons_succ, List.set_cons_zero]
  refine wpAnyD_takeG (i := 41) (v := .bool true) hb40 rfl (by kernel_rfl) (by kernel_rfl) (by kernel_rfl) (fun _ _ _ h => h) (by kernel_rfl) (fun T _ => by go_simp) ?_
  simp only [Act.put, List.setIfInBounds_toArray]
  refine wpAnyD_takeG (i := 42) (v := .bool true) hb40 rfl (by kernel_rfl) (by kernel_rfl) (by kernel_rfl) (fun _ _ _ h => h) (by kernel_rfl) (fun T _ => by go_simp) ?_
  simp only [Act.put]
  refine wpAnyD_takeG (i := 43) (v := .pointer (some ⟨y5.r, 0, none⟩)) hb40 rfl (by kernel_rfl) (by kernel_rfl) (by kernel_rfl) (fun _ _ _ h => h) (by kernel_rfl) (fun T _ => by go_simp) ?_
  simp only [Act.put]
  refine wpAnyD_oneG (i := 44) (by kernel_rfl) rfl (by kernel_rfl) (fun K hK => ?_)
  go_simp
  refine (Back_any _ y5 sB (hx.out _ hb40)).mono ?_
  rintro e _ ⟨rfl, rfl⟩
  refine hK _ _ ⟨hb40, ?_⟩
  clear hK K
  try simp only [Act.put, List.setIfInBounds_toArray, List.set_cons_succ, List.set_cons_zero]
  rw [show sB.bk = 3 by rfl]
  refine wpAnyD_takeG (i := 45) (v := .bool true) hb40 rfl (by kernel_rfl) (by kernel_rfl) (by kernel_rfl) (fun _ _ _ h => h) (by kernel_rfl) (fun T _ => by go_simp) ?_
  simp only [Act.put, List.setIfInBounds_toArray, List.set_cons_succ, List.set_cons_zero, List.getElem_toArray, List.getElem_cons_succ, List.getElem_cons_zero]
  refine wpAnyD_takeG (i := 46) (v := .bool true) hb40 rfl (by kernel_rfl) (by kernel_rfl) (by kernel_rfl) (fun _ _ _ h => h) (by kernel_rfl) (fun T _ => by go_simp) ?_
  simp only [Act.put, List.setIfInBounds_toArray, List.set_cons_succ, List.set_cons_zero, List.getElem_toArray, List.getElem_cons_succ, List.getElem_cons_zero]
  refine wpAnyD_takeG (i := 47) (v := .bool true) hb40 rfl (by kernel_rfl) (by kernel_rfl) (by kernel_rfl) (fun _ _ _ h => h) (by kernel_rfl) (fun T _ => by go_simp) ?_
  simp only [Act.put, List.setIfInBounds_toArray, List.set_cons_zero, List.getElem_toArray, List.getElem_cons_succ, List.getElem_cons_zero]
  refine wpAnyD_done (by kernel_rfl) ?_ _
  go_wp2_with fail
  go_ret
  refine ⟨?_, hS_V5.below.trans (hb40.mono hBW_V5)⟩
  first | rfl | (simp; done) | go_simp
 ·go_simp
  have hrow := UI.row T33 [1, 2] (by decide)
  have hb39a := Below.lit T33 (.cells #[.int .i64 1, .int .i64 2] 3)
  have hb39 : Below V5.heap.size V5 (T33.alloc (.cells #[.int .i64 1, .int .i64 2] 3)) := hb33.trans (hb39a.mono hb33.size)
  refine hK _ _ ⟨hb39, ?_⟩
  clear hK K
  try simp only [Act.put, List.setIfInBounds_toArray, List.set_cons_succ, List.set_cons_zero]
  refine wpAnyD_oneG (i := 38) (by kernel_rfl) rfl (by kernel_rfl) (fun K hK => ?_)
  go_simp
  refine (Devices_any _ y5 sB 2 (hx.out _ hb39) hOk_V5).mono ?_
  rintro e T38 ⟨p5, c5, rfl, hu5, _, hq38⟩
  have hb38 : Below V5.heap.size V5 T38 := hb39.trans (hq38.mono hb39.size)
  rw [hsort.out] at hu5
  replace hu5 : UI T38 p5 2 [1, 2] := hu5
  refine hK _ _ ⟨hb38, ?_⟩
  clear hK K
  try simp only [Act.put, List.setIfInBounds_toArray, List.set_cons_succ, List.set_cons_zero]
  refine wpAnyD_oneG (i := 40) (by kernel_rfl) rfl (by kernel_rfl) (fun K hK => ?_)
  go_simp
  refine (SameInts_yes p5 (some ⟨T33.heap.size, 0, none⟩) 2 [1, 2] c5 2 _ hu5 (UI.below hrow hq38) (by omega)).mono ?_
  rintro e T40 ⟨rfl, hq40⟩
  have hb40 : Below V5.heap.size V5 T40 := hb38.trans (hq40.mono hb38.size)
  refine hK _ _ ⟨hb40, ?_⟩
  clear hK K
  try simp only [Act.put, List.setIfInBounds_toArray, List.set_cons_succ, List.set_cons_zero]
  refine wpAnyD_takeG (i := 41) (v := .bool true) hb40 rfl (by kernel_rfl) (by kernel_rfl) (by kernel_rfl) (fun _ _ _ h => h) (by kernel_rfl) (fun T _ => by go_simp) ?_
  simp only [Act.put, List.setIfInBounds_toArray]
  refine wpAnyD_takeG (i := 42) (v := .bool true) hb40 rfl (by kernel_rfl) (by kernel_rfl) (by kernel_rfl) (fun _ _ _ h => h) (by kernel_rfl) (fun T _ => by go_simp) ?_
  simp only [Act.put]
  refine wpAnyD_takeG (i := 43) (v := .pointer (some ⟨y5.r, 0, none⟩)) hb40 rfl (by kernel_rfl) (by kernel_rfl) (by kernel_rfl) (fun _ _ _ h => h) (by kernel_rfl) (fun T _ => by go_simp) ?_
  simp only [Act.put]
  refine wpAnyD_oneG (i := 44) (by kernel_rfl) rfl (by kernel_rfl) (fun K hK => ?_)
  go_simp
  refine (Back_any _ y5 sB (hx.out _ hb40)).mono ?_
  rintro e _ ⟨rfl, rfl⟩
  refine hK _ _ ⟨hb40, ?_⟩
  clear hK K
  try simp only [Act.put, List.setIfInBounds_toArray, List.set_cons_succ, List.set_cons_zero]
  rw [show sB.bk = 3 by rfl]
  refine wpAnyD_takeG (i := 45) (v := .bool true) hb40 rfl (by kernel_rfl) (by kernel_rfl) (by kernel_rfl) (fun _ _ _ h => h) (by kernel_rfl) (fun T _ => by go_simp) ?_
  simp only [Act.put, List.setIfInBounds_toArray, List.set_cons_succ, List.set_cons_zero, List.getElem_toArray, List.getElem_cons_succ, List.getElem_cons_zero]
  refine wpAnyD_takeG (i := 46) (v := .bool true) hb40 rfl (by kernel_rfl) (by kernel_rfl) (by kernel_rfl) (fun _ _ _ h => h) (by kernel_rfl) (fun T _ => by go_simp) ?_
  simp only [Act.put, List.setIfInBounds_toArray, List.set_cons_succ, List.set_cons_zero, List.getElem_toArray, List.getElem_cons_succ, List.getElem_cons_zero]
  refine wpAnyD_takeG (i := 47) (v := .bool true) hb40 rfl (by kernel_rfl) (by kernel_rfl) (by kernel_rfl) (fun _ _ _ h => h) (by kernel_rfl) (fun T _ => by go_simp) ?_
  simp only [Act.put, List.setIfInBounds_toArray, List.set_cons_zero, List.getElem_toArray, List.getElem_cons_succ, List.getElem_cons_zero]
  refine wpAnyD_done (by kernel_rfl) ?_ _
  go_wp2_with fail
  go_ret
  refine ⟨?_, hS_V5.below.trans (hb40.mono hBW_V5)⟩
  first | rfl | (simp; done) | go_simp
end Go.Proofs.YtkolilbebkkpdaaDoor

