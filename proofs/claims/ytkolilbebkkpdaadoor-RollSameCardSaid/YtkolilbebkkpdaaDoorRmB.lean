/-
  Rolls: the keys of a map, in whatever row (1): a range inside a fence; where AppendSeq stands.
  Rolls: the keys of a map (2I): the iterator over them, AppendSeq, Collect, Sorted.
  Rolls: the keys of a map (2M): the iterator over them, AppendSeq, Collect, Sorted.
  Operations in memory; what a Message is asked.
  What an Add, a Remove, a Promote, an Erase are asked.
  What a Refresh, and an Object, are asked; slices.Contains; what a Vouch, and a Replace, are asked first.
  Rolls; plain Lean: what holds of a roll behind some operations.
  What a Vouch, and a Replace, are asked first; what a Guard is asked.
  What a Guard is asked.
-/
import Derived.Test.YtkolilbebkkpdaaDoorRmA
import Derived.Maps.OwnIn
import Derived.Sort.MapsRangeIn
import Derived.RangeFuncSeq
import Derived.RangeFuncGives
import Derived.Sort.OwnSortedInts
import Derived.Laws.Rows
namespace Go.Proofs.YtkolilbebkkpdaaDoor
open Go.RowKit Go.Shelf Go.Maps
attribute [local go_sem] Oper.semAt_some

section
variable {α : Type} [DecidableEq α] {K : KeyT α} {F : Fence} {nf : Nat} (w : World) {ops : Array Oper} {rest : List Oper} {o : Oper} {a : Act} {Q : Exit → Act → World → Prop}
set_option maxRecDepth 100000 in
theorem wpIn_rng (hg : o.guard = none) (m : Operand) (t : TypeId) (hop : o.op = Op.range t m) (e : TypeId) (ht : Tryd.prog.underlying t = some (.map K.kt e)) (b : Nat) (ks : List (α × Value)) (hm : a.eval m = .map (some b)) (hown : MapV K w b ks)
  (hK : ∀ w', Rng K w' b w.heap.size ks [] → w.grownBy w' none → wpListIn F nf Tryd.prog ops Q rest (a.put o.dst (.pointer (some ⟨w.heap.size, 0, none⟩))) w') : wpListIn F nf Tryd.prog ops Q (o :: rest) a w := by
 obtain ⟨n, D, h1, h2, _⟩ := hown
 refine wpListIn_range_own w hg m t hop K.kt e K.keyed ht hR b n D hm h1 ?_
 intro w' hrg hgr hs
 exact hK w' ⟨n, D, _, _, hrg, h2, Come.start h2⟩ hgr
set_option maxRecDepth 100000 in
theorem wpIn_nxt (hg : o.guard = none) (it : Operand) (hop : o.op = Op.next it false) (b r : Nat) (ks : List (α × Value)) (pre : List α) (hit : a.eval it = .pointer (some ⟨r, 0, none⟩)) (h : Rng K w b r ks pre)
  (hDone : pre.Perm (ks.map Prod.fst) → wpListIn F nf Tryd.prog ops Q rest (a.put o.dst (.tuple #[.bool false])) w)
  (hMore : ∀ (x : α) (v : Value) (w' : World), (x, v) ∈ ks → x ∉ pre → K.ok x → Rng K w' b r ks (pre ++ [x]) → w'.rangeLeft b r < w.rangeLeft b r → w.grownBy w' (some r) →
   (Instr.entry (.pointer (some ⟨r, 0, none⟩))).run Tryd.prog w' = .ok (.tuple #[K.val x, v]) w' → wpListIn F nf Tryd.prog ops Q rest (a.put o.dst (.tuple #[.bool true, K.val x, v])) w') :
  wpListIn F nf Tryd.prog ops Q (o :: rest) a w := by
 obtain ⟨n, D, left, cnt, hrg, h2, h3⟩ := h
 refine wpListIn_next_ranges (α := α) (β := Value) w hg it hop K.kt K.keyed hR K.val id (fun key kl hk => by obtain ⟨x, hx, _⟩ := K.all hk; exact ⟨x, hx⟩) (fun v y _ => ⟨v, rfl⟩) b r n D left cnt hit hrg (fun _ hl => hDone (h3.perm hl h2.ok h2.nd)) ?_
 intro x v kl y w' cnt' hkl hleft hv hat hrg' hlt hgr hsz hen
 obtain ⟨x', hx', hok⟩ := K.all hkl
 obtain rfl := K.inj hx'
 have hle : kl = K.lit x := by
  have := K.of hok
  rw [hkl] at this
  injection this
 subst hle
 have hl := h3.left x hok
 rw [hleft] at hl
 have hl2 := hl.symm
 rw [Bool.and_eq_true, decide_eq_true_eq, decide_eq_true_eq] at hl2
 unfold hR at hv
 injection hv with hv
 have hv2 := h2.at_ x hok .nil
 rw [hat, ← hv] at hv2
 have hmem : (x, v) ∈ ks := by
  cases e : lk ks x with
  | none => rw [e] at hv2; cases hv2
  | some u =>
   rw [e] at hv2
   injection hv2 with hv2
   have : v = u := hv2
   rw [this]
   exact lk_mem e
 exact hMore x v w' hmem hl2.2 hok ⟨n, D, _, cnt', hrg', h2, h3.step hok hleft⟩ (by rw [hrg'.left_eq, hrg.left_eq]; exact hlt) hgr hen
end
theorem Rng.iter_walk {α : Type} [DecidableEq α] {K : KeyT α} {w : World} {b r : Nat} {ks : List (α × Value)} {pre : List α} (h : Rng K w b r ks pre) : ∃ o, w.heap[r]? = some o ∧ o.isWalk = true := by
 obtain ⟨n, D, left, cnt, h1, _⟩ := h
 exact h1.iter_walk
theorem Rng.of_walks {α : Type} [DecidableEq α] {K : KeyT α} {w w' : World} {b r : Nat} {ks : List (α × Value)} {pre : List α} (h : Rng K w b r ks pre) (hk : KeepsWalks w w') : Rng K w' b r ks pre ∧ w'.rangeLeft b r = w.rangeLeft b r := by
 obtain ⟨n, D, left, cnt, h1, h2⟩ := h
 have h3 := h1.of_walks hk
 exact ⟨⟨n, D, left, cnt, h3, h2⟩, by rw [h3.left_eq, h1.left_eq]⟩
theorem grown_cell (W : World) (b i : Nat) (v : Value) : W.grownBy (W.setCell ⟨b, i, none⟩ v) (some b) :=
 ⟨rfl, rfl, rfl, by simp [World.setCell], fun k _ hk => Below.heap_setCell _ _ _ k (fun e => hk (by rw [e]))⟩
theorem below_put {B : Nat} {w X : World} (h : Below B w X) {k : Nat} (hk : B ≤ k) (hB : B ≤ X.heap.size) (o : Obj) : Below B w (X.putObj k o) :=
 h.grown (grownBy_putObj' X _ _) hB (fun j e => by cases e; exact hk)
theorem nodup_leI : ∀ (l m : List Int), l.Nodup → (∀ x ∈ l, x ∈ m) → l.length ≤ m.length := by
 intro l
 induction l with
 | nil => intro m _ _; exact Nat.zero_le _
 | cons a l ih =>
  intro m hd hm
  obtain ⟨k1, k2⟩ := List.nodup_cons.1 hd
  have ha := hm a (List.mem_cons_self ..)
  have := ih (m.erase a) k2 fun x hx => (List.mem_erase_of_ne (fun e => k1 (by rw [← e]; exact hx))).2 (hm x (List.mem_cons_of_mem _ hx))
  rw [List.length_erase_of_mem ha] at this
  have := List.length_pos_of_mem ha
  rw [List.length_cons]; omega
/-- Where AppendSeq stands. -/
structure SeqS (w : World) (r : LoopState → Option Code → Loop) (st : LoopState) (v : Value) (pre : List Int) (X : World) : Prop where
 cb : X.heap[w.heap.size]? = some (.cells #[v] 22 (0, 0))
 own : X.ownsRow (w.heap.size + 3) 3 1 v pre.length (pre.map (Value.int .i64))
 df : X.heap[w.heap.size + 1]? = some (.deferred (some []))
 lp : X.heap[w.heap.size + 2]? = some (.loop (r st none))
 bl : Below w.heap.size w X
theorem SeqS.turn {w : World} {r : LoopState → Option Code → Loop} {st : LoopState} {v : Value} {pre : List Int} {X : World} (h : SeqS w r st v pre X) (st' : LoopState) : SeqS w r st' v pre (X.putObj (w.heap.size + 2) (.loop (r st' none))) := by
 refine ⟨(World.putObj_heap_other (by omega)).trans h.cb, h.own.kept (grownBy_putObj' X _ _) ?_, (World.putObj_heap_other (by omega)).trans h.df, World.putObj_heap_same (Array.getElem?_eq_some_iff.1 h.lp).1, below_put h.bl (by omega) h.bl.size _⟩
 cases e : v.ownBlock with
 | none => exact .inl rfl
 | some g => exact .inr fun e' => by injection e' with e'; have := (h.own.lt g e).1; omega
theorem SeqS.abides {w : World} {r : LoopState → Option Code → Loop} : AbidesFrom (w.heap.size + 3) (fun pre X => ∃ v, SeqS w r .ready v pre X) := by
 rintro pre X Y row ⟨v, h⟩ hg hrow
 have keep : ∀ k, k < w.heap.size + 3 → k < X.heap.size → Y.heap[k]? = X.heap[k]? := fun k hk hx => hg.block k hx fun e => by have := (hrow k e.symm).1; omega
 have hl := (Array.getElem?_eq_some_iff.1 h.lp).1
 refine ⟨v, (keep _ (by omega) (by omega)).trans h.cb, h.own.kept hg ?_, (keep _ (by omega) (by omega)).trans h.df, (keep _ (by omega) (by omega)).trans h.lp, h.bl.grown hg h.bl.size fun k e => by have := (hrow k e).1; omega⟩
 cases e : v.ownBlock with
 | none => exact .inl rfl
 | some g =>
  refine .inr fun e' => ?_
  obtain ⟨_, o, ho, hw⟩ := hrow g e'.symm
  rcases h.own.2 with ⟨hv, _⟩ | ⟨g2, cap, cur, hv, _, hgb, _⟩
  ·rw [hv] at e; cases e
  ·rw [hv] at e
   simp only [Value.ownBlock, Option.some.injEq] at e
   subst e
   rw [hgb] at ho
   cases ho
   cases hw
theorem int_info : (Tryd.prog.info? 3).map (fun i => (i.zero, i.size, i.bytes)) = some (some (.int .i64 0), 1, 8) := by kernel_rfl
/-- One number more. -/
theorem SeqS.more {w : World} {r : LoopState → Option Code → Loop} {v v' : Value} {pre : List Int} {x : Int} {Y W1 : World} {o : Obj} (h : SeqS w r .busy v pre Y) (hg : (Y.alloc o).grownBy W1 v.ownBlock)
  (hown : W1.ownsRow (w.heap.size + 3) 3 1 v' (pre.length + 1) (pre.map (Value.int .i64) ++ [.int .i64 x])) :
  W1.cell? ⟨w.heap.size, 0, none⟩ = some v ∧ W1.frozen? ⟨w.heap.size, 0, none⟩ = false ∧ SeqS w r .busy v' (pre ++ [x]) (W1.setCell ⟨w.heap.size, 0, none⟩ v') ∧ KeepsWalks Y (W1.setCell ⟨w.heap.size, 0, none⟩ v') := by
 have hl := (Array.getElem?_eq_some_iff.1 h.lp).1
 have hlow : ∀ k, v.ownBlock = some k → w.heap.size + 3 ≤ k := fun k e => (h.own.lt k e).1
 have keep : ∀ k, k < w.heap.size + 3 → W1.heap[k]? = Y.heap[k]? := fun k hk => by
  rw [hg.block k (by simp; omega) fun e => by have := hlow k e.symm; omega, Below.heap_alloc _ _ _ (by omega)]
 have keep2 : ∀ k, k ≠ w.heap.size → (W1.setCell ⟨w.heap.size, 0, none⟩ v').heap[k]? = W1.heap[k]? := fun k hk => Below.heap_setCell _ _ _ k hk
 have hcb : W1.heap[w.heap.size]? = some (.cells #[v] 22 (0, 0)) := (keep _ (by omega)).trans h.cb
 have hb1 : Below w.heap.size w W1 := (h.bl.alloc h.bl.size _).grown hg (by simp; exact Nat.le_succ_of_le h.bl.size) fun k e => by have := hlow k e; omega
 have hlw1 : w.heap.size < W1.heap.size := (Array.getElem?_eq_some_iff.1 hcb).1
 refine ⟨cell_of_one hcb, free_of_one hcb, ⟨?_, ?_, ?_, ?_, ?_⟩, ?_⟩
 ·show (W1.heap.modify w.heap.size _)[w.heap.size]? = _
  rw [Array.getElem?_modify, if_pos rfl, hcb]; rfl
 ·rw [List.length_append, List.map_append]
  refine hown.kept (grown_cell W1 w.heap.size 0 v') (.inr fun e => ?_)
  have := (hown.lt _ e).1
  omega
 ·rw [keep2 _ (by omega), keep _ (by omega)]; exact h.df
 ·rw [keep2 _ (by omega), keep _ (by omega)]; exact h.lp
 ·exact hb1.grown (grown_cell W1 w.heap.size 0 v') hb1.size fun k e => by injection e with e; omega
 ·refine ((KeepsWalks.alloc Y o).trans (KeepsWalks.of_grownBy hg fun j ob e ho => ?_)).trans (KeepsWalks.setCell _ _ _)
  rcases h.own.2 with ⟨hv, _⟩ | ⟨g, cap, cur, hv, _, hgb, _⟩
  ·rw [hv] at e; cases e
  ·rw [hv] at e
   simp only [Value.ownBlock, Option.some.injEq] at e
   subst e
   rw [Below.heap_alloc _ _ _ (Array.getElem?_eq_some_iff.1 hgb).1, hgb] at ho
   cases ho
   rfl
theorem ui_of_row {w : World} {base : Nat} {p : Option Addr} {n c : Nat} {xs : List Int} (h : w.ownsRow base 3 1 (.slice p n c) n (xs.map (Value.int .i64))) (hx : ∀ x ∈ xs, -9223372036854775808 ≤ x ∧ x ≤ 9223372036854775807) : UI w p n xs := by
 have hl : xs.length = n := by have := h.1; simpa using this
 rcases h.2 with ⟨hv, hn⟩ | ⟨g, cap, cur, hv, _, hg, hnc, _, hcs, htake⟩
 ·have : xs = [] := List.eq_nil_of_length_eq_zero (by omega)
  exact ⟨hl, .inl (by rw [this]; rfl), hx⟩
 ·injection hv with hp _ _
  subst hp
  refine ⟨hl, .inr ⟨g, 0, rfl, fun i hi => ?_⟩, hx⟩
  have hi' : i < xs.length := by simpa using hi
  have := h.cellAt i (by omega)
  simpa [List.getElem?_eq_getElem hi'] using this
/-- A slice's cells lie in a block from B on. -/
def FarP (B : Nat) (p : Option Addr) : Prop := ∀ a, p = some a → B ≤ a.block
end Go.Proofs.YtkolilbebkkpdaaDoor

namespace Go.Proofs.YtkolilbebkkpdaaDoor
open Go.RowKit Go.Shelf Go.Maps Go.Sort
attribute [local go_sem] Oper.semAt_some

theorem KeysF_I (mb : Option Nat) (w : World) :
  Calls Tryd.prog 46 #[.map mb] w fun e w' =>
   e = .returned (.func (.func 75) #[] #[.pointer (some ⟨w.heap.size, 0, none⟩)]) ∧ w.alloc (.cells #[.map mb] 78) = w' := by
 go_enter Tryd.func46, Tryd.ntmps46
 go_wp2
 go_ret
 exact ⟨rfl, rfl⟩
set_option maxRecDepth 100000 in
set_option maxHeartbeats 2000000 in
theorem keys_I (l Bm b : Nat) (ks : List (Int × Value)) (J : List Int → World → Prop) (W : World) (hJ : AbidesFrom W.heap.size J)
  (hY : ∀ pre x Y, J pre Y → i64ok x → pre.length < ks.length → YieldAt Fence.wide 3 Tryd.prog l #[.int .i64 x] Y fun e Z => e = .returned (.bool true) ∧ J (pre ++ [x]) Z ∧ KeepsWalks Y Z)
  (hm : W.cell? ⟨Bm, 0, none⟩ = some (.map (some b))) (hown : MapV KI W b ks) (h0 : J [] W) :
  CallsIn Fence.wide 4 Tryd.prog 75 #[.func (.yield l) #[] #[], .pointer (some ⟨Bm, 0, none⟩)] W fun e W' => (∃ v, e = .returned v) ∧ ∃ all : List Int, all.Perm (ks.map Prod.fst) ∧ J all W' := by
 refine callsIn_of_wp Tryd.func75 rfl trivial ?_ rfl
 simp only [Tryd.ntmps75, List.size_toArray, List.length_cons, List.length_nil, Nat.reduceAdd, Nat.reduceSub, Array.replicate_succ, Array.replicate_zero, List.push_toArray, List.append_toArray, List.nil_append, List.cons_append]
 gi_wp2_with (first
  | (gi_at_range; refine wpIn_rng (K := KI) _ rfl _ 78 rfl 4 Tryd.underlying78 b ks rfl hown ?_; intro w0 hrg0 hg0)
  | gi_in)
 go_frame
 gi_loopw [3] (fun _ wr => ∃ (pre : List Int), Rng KI wr b W.heap.size ks pre ∧ J pre wr)
  (fun _ wr => wr.rangeLeft b W.heap.size)
 case atStart => exact ⟨[], hrg0, hJ [] W w0 none h0 hg0 (fun r e => by cases e)⟩
 case round =>
  obtain ⟨pre, hrg, hJs⟩ := hrel
  gi_wp2_with (first
   | (gi_at_next; refine wpIn_nxt (K := KI) _ rfl _ rfl b W.heap.size ks pre rfl hrg ?_ ?_)
   | gi_in)
  ·intro hperm
   gi_wp2
   go_end0
   exact ⟨⟨_, rfl⟩, pre, hperm, hJs⟩
  ·intro x v w2 hmem hnp hok hrg2 hlt hg2 hen
   have hJ2 : J pre w2 := hJ pre wr w2 (some W.heap.size) hJs hg2 (fun r e => by cases e; exact ⟨Nat.le_refl _, hrg.iter_walk⟩)
   have hfew : pre.length < ks.length := by
    obtain ⟨k1, k2⟩ := hrg2.perm_of
    have := nodup_leI (pre ++ [x]) (ks.map Prod.fst) k1 k2
    rw [List.length_append, List.length_map] at this
    exact this
   obtain ⟨fn, tmps, assign, body, hy, hR⟩ := hY pre x w2 hJ2 hok hfew
   replace hen : (Instr.entry (.pointer (some ⟨W.heap.size, 0, none⟩))).run Tryd.prog w2 = .ok (.tuple #[.int .i64 x, v]) w2 := hen
   gi_wp2
   refine hR.mono ?_
   rintro e W3 ⟨rfl, hJ3, hk3⟩
   gi_wp2
   have hrg3 := hrg2.of_walks hk3
   go_roundw
   case rel => exact ⟨pre ++ [x], hrg3.1, hJ3⟩
   case measure => rw [hrg3.2]; exact hlt
set_option maxRecDepth 100000 in
set_option maxHeartbeats 4000000 in
theorem appseq_I (Bm b : Nat) (ks : List (Int × Value)) (w : World) (hm : w.cell? ⟨Bm, 0, none⟩ = some (.map (some b))) (hown : MapV KI w b ks) (hk : ks.length ≤ 1000) :
  CallsIn Fence.wide 5 Tryd.prog 84 #[.slice none 0 0, .func (.func 75) #[] #[.pointer (some ⟨Bm, 0, none⟩)]] w fun e w' => ∃ (v : Value) (all : List Int), e = .returned v ∧ all.Perm (ks.map Prod.fst) ∧ w'.ownsRow w.heap.size 3 1 v all.length (all.map (Value.int .i64)) ∧ Below w.heap.size w w' := by
 have hBl := cell_lt hm
 refine callsIn_of_wp_marks Tryd.func84 rfl trivial ?_ rfl
 simp only [Tryd.ntmps84, List.size_toArray, List.length_cons, List.length_nil, Nat.reduceAdd, Nat.reduceSub, Array.replicate_succ, Array.replicate_zero, List.push_toArray, List.append_toArray, List.nil_append, List.cons_append]
 gi_wp2
 obtain ⟨W0, hW0⟩ : ∃ W0, w.alloc (.cells #[.slice none 0 0] 22) = W0 := ⟨_, rfl⟩
 have hs : W0.heap.size = w.heap.size + 1 := by rw [← hW0]; simp
 have hb0 : Below w.heap.size w W0 := by rw [← hW0]; exact Below.lit w _
 have c0 : W0.heap[w.heap.size]? = some (.cells #[.slice none 0 0] 22 (0, 0)) := by rw [← hW0, World.alloc_heap_new]
 rw [hW0]
 refine range_enter rfl (by omega) 75 #[.pointer (some ⟨Bm, 0, none⟩)] rfl trivial (enters_of Tryd.func75 (by kernel_rfl) rfl) ?_
 intro fn hfn
 rw [hs]
 generalize hr : lrec fn _ _ _ _ _ = r
 obtain ⟨W1, hW1⟩ : ∃ W1, ((W0.alloc (.deferred (some []))).alloc (.loop (r .ready none))) = W1 := ⟨_, rfl⟩
 have hz1 : W1.heap.size = w.heap.size + 3 := by rw [← hW1]; simp; omega
 have hb01 : Below W0.heap.size W0 W1 := by rw [← hW1]; exact (Below.lit W0 _).alloc (by simp) _
 have hb1 : Below w.heap.size w W1 := hb0.trans (hb01.mono hb0.size)
 have hS : SeqS w r .ready (.slice none 0 0) [] W1 := by
  refine ⟨(hb01.block _ (by omega)).trans c0, World.ownsRow_nil W1 _ _ 1, ?_, ?_, hb1⟩
  ·rw [← hW1, Below.heap_alloc _ _ _ (by simp; omega)]; have := World.alloc_heap_new W0 (.deferred (some [])); rwa [hs] at this
  ·rw [← hW1]; have := World.alloc_heap_new (W0.alloc (.deferred (some []))) (.loop (r .ready none)); rwa [World.size_alloc, hs] at this
 have hb1' := Below.mono hb1 (Nat.le_refl _)
 have hm1 : W1.cell? ⟨Bm, 0, none⟩ = some (.map (some b)) := (hb1.cell hBl).trans hm
 have hown1 : MapV KI W1 b ks := hown.below hb1'
 rw [hW1]
 clear hW1 hW0 hb0 c0 hb01
 refine (keys_I (w.heap.size + 2) Bm b ks (fun pre X => ∃ v, SeqS w r .ready v pre X) W1 (by rw [hz1]; exact SeqS.abides) (fun pre x Y hJ hx hlen => ?round) hm1 hown1 ⟨_, hS⟩).mono ?fin
 case round =>
  obtain ⟨v, hSY⟩ := hJ
  have hlp := hSY.lp
  have hlt := (Array.getElem?_eq_some_iff.1 hlp).1
  have hkw1 : KeepsWalks Y (Y.putObj (w.heap.size + 2) (.loop (r .busy none))) := KeepsWalks.putObj _ hlp rfl
  rw [← hr] at hlp
  refine yield_round trivial hlp rfl { tmps := #[.slice none 0 0, .func (.func 75) #[] #[.pointer (some ⟨Bm, 0, none⟩)], .pointer (some ⟨w.heap.size, 0, none⟩), undef, .slice none 0 0, .int .i64 x, .func (.func 75) #[] #[.pointer (some ⟨Bm, 0, none⟩)], .int .i64 x, undef, undef, undef, undef, undef], defers := [] } ?assign ?body
  case assign =>
   intro K hK
   gi_wp2
   exact hK
  case body =>
   rw [hr]
   have hSb := hSY.turn .busy
   generalize Y.putObj (w.heap.size + 2) (.loop (r .busy none)) = Y2 at *
   have hlb := hSb.lp
   have hlt2 := (Array.getElem?_eq_some_iff.1 hlb).1
   obtain ⟨pv, cv, hvv⟩ : ∃ p c, v = .slice p pre.length c := by
    rcases hSb.own.2 with ⟨hv, h0⟩ | ⟨g, cap, cur, hv, _⟩
    ·exact ⟨none, 0, by rw [hv, h0]⟩
    ·exact ⟨_, _, hv⟩
   subst hvv
   have hcb := cell_of_one hSb.cb
   obtain ⟨i0, hi, hz0, hz1', hz2⟩ := info_parts int_info
   replace hSb := Lib.hid hSb
   clear hSY hr hS hlp hlb hx hlt
   gi_wp2_with (gi_at_builtin; refine wpListIn_append_own _ rfl _ _ 22 rfl (w.heap.size + 3) 3 i0 (.int .i64 0) 1 8 Tryd.underlying22 hi hz0 hz1' hz2 rfl (by decide) _ _ _ rfl (hSb.out.own.alloc _) ⟨Y2.heap.size, 0, none⟩ 1 1 [.int .i64 x] rfl rfl (cell_one_new _ _ _) (by simp [Value.oneCell']) (by unfold maxLen; omega) (by omega) (by simp; omega) ?_; intro v' w1 hown' hgrow _; obtain ⟨g', cap', rfl⟩ := ownsRow_succ hown'; obtain ⟨hc1, hf1, hSn, hkn⟩ := hSb.out.more hgrow hown')
   have hT := hSn.turn .ready
   exact ⟨hSn.lp, rfl, ⟨_, hT⟩, (hkw1.trans hkn).trans (KeepsWalks.putObj _ hSn.lp rfl)⟩
 case fin =>
  rintro e X ⟨hv, all, hnd, v, hSX⟩
  refine ⟨hv, .inl ⟨hSX.lp, ?_⟩⟩
  have hSe := hSX.turn .exhausted
  clear hSX hr hS hv
  generalize X.putObj (w.heap.size + 2) (.loop (r .exhausted none)) = X2 at *
  have hcb := cell_of_one hSe.cb
  have hdf := hSe.df
  have hbl := hSe.bl
  obtain ⟨pv, cv, hvv⟩ : ∃ p c, v = .slice p all.length c := by
   rcases hSe.own.2 with ⟨hv, h0⟩ | ⟨g, cap, cur, hv, _⟩
   ·exact ⟨none, 0, by rw [hv, h0]⟩
   ·exact ⟨_, _, hv⟩
  subst hvv
  gi_wp2
  refine ⟨by simp, .inl ⟨_, _, rfl, run_takeDeferred hdf, ?_⟩⟩
  refine ⟨_, results_tmp rfl _ _ _, _, all, rfl, hnd, ?_, hbl.grown (grownBy_putObj' X2 _ _) hbl.size (fun k e => by cases e; omega)⟩
  have hlow := hSe.own
  refine World.ownsRow.kept (w := X2) ?_ (grownBy_putObj' X2 _ _) (.inr fun e => ?_)
  ·refine ⟨hlow.1, ?_⟩
   rcases hlow.2 with h1 | ⟨g, cap, cur, h1, h2, h3⟩
   ·exact .inl h1
   ·exact .inr ⟨g, cap, cur, h1, by omega, h3⟩
  ·have := (hlow.lt _ e).1
   omega
set_option maxRecDepth 100000 in
theorem Collect_I (Bm b : Nat) (ks : List (Int × Value)) (w : World) (hm : w.cell? ⟨Bm, 0, none⟩ = some (.map (some b))) (hown : MapV KI w b ks) (hk : ks.length ≤ 1000) :
  Calls Tryd.prog 74 #[.func (.func 75) #[] #[.pointer (some ⟨Bm, 0, none⟩)]] w fun e w' => ∃ (v : Value) (all : List Int), e = .returned v ∧ all.Perm (ks.map Prod.fst) ∧ w'.ownsRow w.heap.size 3 1 v all.length (all.map (Value.int .i64)) ∧ Below w.heap.size w w' := by
 go_enter Tryd.func74, Tryd.ntmps74
 go_wp2_with fail
 refine (callsIn_wide.1 (appseq_I Bm b ks w hm hown hk)).mono ?_
 rintro e w' ⟨v, all, rfl, h⟩
 go_wp2_with fail
 go_ret
 exact ⟨v, all, rfl, h⟩
set_option maxRecDepth 100000 in
set_option maxHeartbeats 2000000 in
theorem Sorted_I (Bm b : Nat) (ks : List (Int × Value)) (w : World) (hm : w.cell? ⟨Bm, 0, none⟩ = some (.map (some b))) (hown : MapV KI w b ks) (hk : ks.length ≤ 1000) (hb : ∀ x ∈ ks.map Prod.fst, i64ok x) :
  Calls Tryd.prog 45 #[.func (.func 75) #[] #[.pointer (some ⟨Bm, 0, none⟩)]] w fun e w' => ∃ (p : Option Addr) (c : Nat), e = .returned (.slice p ks.length c) ∧ UI w' p ks.length (sortI (ks.map Prod.fst)) ∧ FarP w.heap.size p ∧ Below w.heap.size w w' := by
 go_enter Tryd.func45, Tryd.ntmps45
 go_wp2_with fail
 refine (Collect_I Bm b ks w hm hown hk).mono ?_
 rintro e w1 ⟨v, all, rfl, hnd, hrow, hb1⟩
 have hs : (all.mergeSort fun x y => decide (x ≤ y)) = sortI (ks.map Prod.fst) := sortI_congr hnd
 have hlen : all.length = ks.length := by rw [hnd.length_eq, List.length_map]
 have hbs : ∀ x ∈ sortI (ks.map Prod.fst), -9223372036854775808 ≤ x ∧ x ≤ 9223372036854775807 := fun x hx => hb x ((sortI_perm _).mem_iff.1 hx)
 have hln2 : (sortI (ks.map Prod.fst)).length = ks.length := by rw [sortI_len, List.length_map]
 replace hbs := Lib.hid hbs
 replace hln2 := Lib.hid hln2
 replace hnd := Lib.hid hnd
 rcases hrow.2 with ⟨rfl, h0⟩ | ⟨g, cap, cur, rfl, hg, hgb, hnc, hcap, hcs, htake⟩
 ·clear hrow
  go_wp2_with fail
  refine (Tryd.slices_Sort_int_none _ _ _).mono ?_
  rintro e w2 ⟨rfl, rfl⟩
  go_wp2_with fail
  go_ret
  rw [← hlen, h0]
  have hnil : sortI (ks.map Prod.fst) = [] := by
   apply List.eq_nil_of_length_eq_zero
   rw [hln2.out, ← hlen, h0]
  rw [hnil]
  exact ⟨_, _, rfl, ⟨rfl, .inl rfl, fun _ h => by cases h⟩, fun _ h => (by cases h), hb1⟩
 ·have hlt := (Array.getElem?_eq_some_iff.1 hgb).1
  rw [Nat.mul_one] at htake
  have hH := holds_of_blockI hgb htake
  have hsz : all.length < 4611686018427387904 := by unfold maxLen at hcap; omega
  clear hrow
  replace hlen := Lib.hid hlen
  replace hs := Lib.hid hs
  go_wp2_with fail
  refine (Tryd.slices_Sort_int g 0 cap all w1 hH hlt hsz).mono ?_
  rintro e w2 ⟨rfl, n, os, rfl⟩
  rw [hs.out]
  have hrow2 := ownsRow_sortedI (w := w1) (base := w.heap.size) (n := n) (os := os) (ts := sortI (ks.map Prod.fst)) (ss := all) (by rw [hln2.out, hlen.out]) hg hgb hnc hcap hcs
  have hb2 : Below w.heap.size w (grow (putRow (Value.int .i64) (Sort.ahead w1 n) g 0 (sortI (ks.map Prod.fst)).toArray) os) := hb1.grown (grownBy_sortedI _) hb1.size fun k e => by injection e with e; omega
  generalize grow (putRow (Value.int .i64) (Sort.ahead w1 n) g 0 (sortI (ks.map Prod.fst)).toArray) os = w2 at *
  have hu := ui_of_row hrow2 hbs.out
  rw [hlen.out] at hu
  go_wp2_with fail
  go_ret
  rw [hlen.out]
  exact ⟨_, _, rfl, hu, fun a h => (by injection h with h; rw [← h]; exact hg), hb2⟩
end Go.Proofs.YtkolilbebkkpdaaDoor

namespace Go.Proofs.YtkolilbebkkpdaaDoor
open Go.RowKit Go.Shelf Go.Maps Go.Sort
attribute [local go_sem] Oper.semAt_some

end Go.Proofs.YtkolilbebkkpdaaDoor

namespace Go.Proofs.YtkolilbebkkpdaaDoor
open Go.RowKit Go.Maps

/-- An operation's cells: gp, gc: where its guards lie. -/
def opC (o : OpI) (gp : Option Addr) (gc : Nat) : Array Value :=
 #[.int .i64 o.b, .int .i64 o.s, .int .i64 o.k, .int .i64 o.a, .slice none 0 0, .int .i64 o.d, .int .i64 o.o, .int .i64 o.m, .int .i64 o.r, .slice none 0 0,
  .int .i64 0, .int .i64 0, .int .u64 0, .int .i64 0, .slice none 0 0, .slice none 0 0, .int .i64 o.f.b, .int .i64 o.f.s, .int .u64 o.f.u, .slice gp o.gs.length gc, .int .i64 o.n, .int .i64 o.t, .slice none 0 0, .int .u64 0, .slice none 0 0, .int .u64 0, .int .u64 0]
def OpAt (w : World) (b : Nat) (o : OpI) (gp : Option Addr) (gc : Nat) : Prop := w.heap[b]? = some (.cells (opC o gp gc) 42 (0, 0))
section
variable {w : World} {b : Nat} {o : OpI} {gp : Option Addr} {gc : Nat}
theorem OpAt.cell (h : OpAt w b o gp gc) (i : Nat) : w.cell? ⟨b, i, none⟩ = (opC o gp gc)[i]? := by
 unfold OpAt at h
 simp [World.cell?, h]
theorem OpAt.cb (h : OpAt w b o gp gc) : w.cell? ⟨b, 0, none⟩ = some (.int .i64 o.b) := by rw [h.cell]; rfl
theorem OpAt.cs (h : OpAt w b o gp gc) : w.cell? ⟨b, 1, none⟩ = some (.int .i64 o.s) := by rw [h.cell]; rfl
theorem OpAt.ck (h : OpAt w b o gp gc) : w.cell? ⟨b, 2, none⟩ = some (.int .i64 o.k) := by rw [h.cell]; rfl
theorem OpAt.ca (h : OpAt w b o gp gc) : w.cell? ⟨b, 3, none⟩ = some (.int .i64 o.a) := by rw [h.cell]; rfl
theorem OpAt.cd (h : OpAt w b o gp gc) : w.cell? ⟨b, 5, none⟩ = some (.int .i64 o.d) := by rw [h.cell]; rfl
theorem OpAt.co (h : OpAt w b o gp gc) : w.cell? ⟨b, 6, none⟩ = some (.int .i64 o.o) := by rw [h.cell]; rfl
theorem OpAt.cm (h : OpAt w b o gp gc) : w.cell? ⟨b, 7, none⟩ = some (.int .i64 o.m) := by rw [h.cell]; rfl
theorem OpAt.cr (h : OpAt w b o gp gc) : w.cell? ⟨b, 8, none⟩ = some (.int .i64 o.r) := by rw [h.cell]; rfl
theorem OpAt.cfb (h : OpAt w b o gp gc) : w.cell? ⟨b, 16, none⟩ = some (.int .i64 o.f.b) := by rw [h.cell]; rfl
theorem OpAt.cfs (h : OpAt w b o gp gc) : w.cell? ⟨b, 17, none⟩ = some (.int .i64 o.f.s) := by rw [h.cell]; rfl
theorem OpAt.cfu (h : OpAt w b o gp gc) : w.cell? ⟨b, 18, none⟩ = some (.int .u64 o.f.u) := by rw [h.cell]; rfl
theorem OpAt.cgs (h : OpAt w b o gp gc) : w.cell? ⟨b, 19, none⟩ = some (.slice gp o.gs.length gc) := by rw [h.cell]; rfl
theorem OpAt.cn (h : OpAt w b o gp gc) : w.cell? ⟨b, 20, none⟩ = some (.int .i64 o.n) := by rw [h.cell]; rfl
theorem OpAt.ct (h : OpAt w b o gp gc) : w.cell? ⟨b, 21, none⟩ = some (.int .i64 o.t) := by rw [h.cell]; rfl
theorem OpAt.call (h : OpAt w b o gp gc) : (loadVar 42 ⟨b, 0, none⟩).run Tryd.prog w = .ok (.agg (opC o gp gc)) w :=
 run_loadVar_row w b _ 42 (opC o gp gc) _ _ h Tryd.underlying42 rfl (by kernel_rfl)
theorem OpAt.made (w : World) (o : OpI) (gp : Option Addr) (gc : Nat) : OpAt (w.alloc (.cells (opC o gp gc) 42)) w.heap.size o gp gc := by
 unfold OpAt
 rw [World.alloc_heap_new]
theorem OpAt.below {w' : World} {B : Nat} (h : OpAt w b o gp gc) (hb : Below B w w') (hB : b < B) : OpAt w' b o gp gc := (hb.block b hB).trans h
end
/-- The numbers of an operation. -/
structure OpI.Ok (o : OpI) : Prop where
 hb : 0 ≤ o.b ∧ o.b ≤ 1000000
 hs : 0 ≤ o.s ∧ o.s ≤ 1000000
 hk : 0 ≤ o.k ∧ o.k ≤ 1000000
 ha : 0 ≤ o.a ∧ o.a ≤ 1000000
 hd : 0 ≤ o.d ∧ o.d ≤ 1000000
 ho : 0 ≤ o.o ∧ o.o ≤ 1000000
 hm : 0 ≤ o.m ∧ o.m ≤ 1000000
 hr : 0 ≤ o.r ∧ o.r ≤ 1000000
 hfb : 0 ≤ o.f.b ∧ o.f.b ≤ 1000000
 hfs : 0 ≤ o.f.s ∧ o.f.s ≤ 1000000
 hfu : 0 ≤ o.f.u ∧ o.f.u ≤ 1000000
 hn : 0 ≤ o.n ∧ o.n ≤ 1000000
 ht : 0 ≤ o.t ∧ o.t ≤ 1000000
 hgl : o.gs.length ≤ 1000
 hgb : ∀ x ∈ o.gs, 0 ≤ x ∧ x ≤ 1000000
theorem i64_small {x : Int} (h : 0 ≤ x ∧ x ≤ 1000000) : i64ok x := by unfold i64ok; omega
theorem RollAt.drewN {w : World} {y : Lay} {s : RS} (h : RollAt w y s) (n : Nat) : RollAt (w.drewN n) y s := h.keep (Nat.le_refl _) fun _ _ => rfl
theorem ret_bool {a b : Bool} (h : a = b) : Ending.returned (.bool a) = .returned (.bool b) := by rw [h]
set_option maxRecDepth 100000 in
theorem askMessage_any (w : World) (y : Lay) (s : RS) (o : OpI) (gp : Option Addr) (gc : Nat) (m : Int) (hR : RollAt w y s) (hm : i64ok m) :
  Calls Tryd.prog 125 #[.pointer (some ⟨y.r, 0, none⟩), .agg (opC o gp gc), .int .i64 m] w fun e w' => e = .returned (.int .i64 (s.askMessage o m)) ∧ Below w.heap.size w w' := by
 have hb0 := Below.lit w (.cells (opC o gp gc) 42)
 have hR0 := hR.below hb0
 have hO := OpAt.made w o gp gc
 by_cases h : s.role m < 2
 ·have e : s.askMessage o m = 14 := if_pos h
  rw [e]
  go_enter Tryd.func125, Tryd.ntmps125
  go_wp2_with (go_at_call 19; refine (Role_any _ y s m hR0 hm).mono ?_; rintro e w' ⟨rfl, rfl⟩)
  go_ret
  exact ⟨rfl, hb0⟩
 ·have e : s.askMessage o m = 0 := if_neg h
  rw [e]
  go_enter Tryd.func125, Tryd.ntmps125
  go_wp2_with (go_at_call 19; refine (Role_any _ y s m hR0 hm).mono ?_; rintro e w' ⟨rfl, rfl⟩)
  go_ret
  exact ⟨rfl, hb0⟩
/-- What May asks of the roll: as above, with the roll's cells found in the context. -/
theorem of_A (w : World) (y : Lay) (s : RS) (d : Int) (hR : RollAt w y s := by first | assumption | exact RollAt.drewN (by assumption) _) (hd : i64ok d := by assumption) :
  Calls Tryd.prog 37 #[.pointer (some ⟨y.r, 0, none⟩), .int .i64 d] w fun e w' => e = .returned (.int .i64 (ofD d)) ∧ w = w' := of_any w y s d hR hd
theorem fresh_A (w : World) (y : Lay) (s : RS) (d : Int) (hR : RollAt w y s := by first | assumption | exact RollAt.drewN (by assumption) _) (hd : i64ok d := by assumption) :
  Calls Tryd.prog 38 #[.pointer (some ⟨y.r, 0, none⟩), .int .i64 d] w fun e w' => e = .returned (.bool (s.fresh d)) ∧ w = w' := fresh_any w y s d hR hd
theorem rules_A (w : World) (y : Lay) (s : RS) (n : Int) (hR : RollAt w y s := by first | assumption | exact RollAt.drewN (by assumption) _) (hn : i64ok n := by assumption) :
  Calls Tryd.prog 122 #[.pointer (some ⟨y.r, 0, none⟩), .int .i64 n] w fun e w' => e = .returned (.bool (s.rules n)) ∧ w = w' := rules_any w y s n hR hn
end Go.Proofs.YtkolilbebkkpdaaDoor

namespace Go.Proofs.YtkolilbebkkpdaaDoor
open Go.RowKit Go.Maps

theorem Calls.quietE {P : Program} {f : FuncId} {args : Array Value} {w : World} {n : Nat} {v : Value}
  (h : Calls P f args (w.drewN n) fun e w' => e = .returned v ∧ w.drewN n = w') : Calls P f args (w.drewN n) fun e w'' => e = .returned v ∧ ∃ m, w'' = w.drewN m :=
 h.mono fun _ _ ⟨he, hm⟩ => ⟨he, n, hm.symm⟩
theorem RollAt.innN {w : World} {y : Lay} {s : RS} (h : RollAt w y s) {d : Int} (hd : i64ok d) {b : Bool} (hb : s.inB d = b) :
  (Instr.lookup 78 (.map (some y.i)) (.int .i64 d) false).run Tryd.prog w = .ok (.bool b) w ∧ ∀ n, (Instr.lookup 78 (.map (some y.i)) (.int .i64 d) false).run Tryd.prog (w.drewN n) = .ok (.bool b) (w.drewN n) := by
 subst hb
 exact ⟨h.inn hd, fun n => (h.drewN n).inn hd⟩
theorem RollAt.memN {w : World} {y : Lay} {s : RS} (h : RollAt w y s) {n : Int} (hn : i64ok n) :
  (s.memb n = none ∧ (Instr.lookup 79 (.map (some y.m)) (.int .i64 n) false).run Tryd.prog w = .ok (.pointer none) w ∧ ∀ k, (Instr.lookup 79 (.map (some y.m)) (.int .i64 n) false).run Tryd.prog (w.drewN k) = .ok (.pointer none) (w.drewN k)) ∨
  ∃ x ∈ y.l, x.n = n ∧ s.memb n = some x.m ∧ (Instr.lookup 79 (.map (some y.m)) (.int .i64 n) false).run Tryd.prog w = .ok (.pointer (some ⟨x.a, 0, none⟩)) w ∧ ∀ k, (Instr.lookup 79 (.map (some y.m)) (.int .i64 n) false).run Tryd.prog (w.drewN k) = .ok (.pointer (some ⟨x.a, 0, none⟩)) (w.drewN k) := by
 have hl := fun w' (hR : RollAt w' y s) => hR.ms.look (K := KI) Tryd.underlying79 (zero_ptr w') hn
 unfold RS.memb
 rw [← h.eq]
 rcases lay_look (l := y.l) (n := n) with ⟨h1, h2⟩ | ⟨x, hx, h1, h2, h3⟩
 ·rw [h2] at hl; exact .inl ⟨h1, hl _ h, fun k => hl _ (h.drewN k)⟩
 ·rw [h3] at hl; exact .inr ⟨x, hx, h1, h2, hl _ h, fun k => hl _ (h.drewN k)⟩
set_option maxRecDepth 100000 in
theorem askAdd_any (w : World) (y : Lay) (s : RS) (o : OpI) (gp : Option Addr) (gc : Nat) (m : Int) (hR : RollAt w y s) (hm : i64ok m) (ho : o.Ok) :
  Calls Tryd.prog 121 #[.pointer (some ⟨y.r, 0, none⟩), .agg (opC o gp gc), .int .i64 m] w fun e w' => e = .returned (.int .i64 (s.askAdd o m)) ∧ Below w.heap.size w w' := by
 have hb0 := Below.lit w (.cells (opC o gp gc) 42)
 have hR0 := hR.below hb0
 have hO := OpAt.made w o gp gc
 have hd := i64_small ho.hd
 have hmm := i64_small ho.hm
 have hfb := i64_small ho.hfb
 have k1 := hO.cd
 have k2 := hO.cm
 have k3 := hO.cfb
 have c1 := hR0.c1
 have c3 := hR0.c3
 obtain ⟨q, hq⟩ : ∃ q, Hid (s.askAdd o m = q) := ⟨_, Lib.hid rfl⟩
 rw [hq.out]
 cases hf : s.fresh o.d with
 | false =>
  have e : Hid (q = 17) := Lib.hid (by rw [← hq.out]; exact if_pos hf)
  replace hf := Lib.hid hf
  go_enter Tryd.func121, Tryd.ntmps121
  go_wp2_with (first | (go_at_call 37; refine (of_A _ y s _).mono ?_; rintro e w' ⟨rfl, rfl⟩) | (go_at_call 38; refine (fresh_A _ y s _).mono ?_; rintro e w' ⟨rfl, rfl⟩; rw [hf.out]) | (go_at_call 122; refine (rules_A _ y s _).mono ?_; rintro e w' ⟨rfl, rfl⟩; rw [hr.out]) | fail)
  go_ret
  exact ⟨ret_int e.out.symm, hb0⟩
 | true =>
  cases hr : s.rules m with
  | true =>
   have e : Hid (q = 0) := Lib.hid (by rw [← hq.out]; unfold RS.askAdd; rw [if_neg (by rw [hf]; simp), if_neg (by rw [hr]; simp)])
   replace hf := Lib.hid hf
   replace hr := Lib.hid hr
   go_enter Tryd.func121, Tryd.ntmps121
   go_wp2_with (first | (go_at_call 37; refine (of_A _ y s _).mono ?_; rintro e w' ⟨rfl, rfl⟩) | (go_at_call 38; refine (fresh_A _ y s _).mono ?_; rintro e w' ⟨rfl, rfl⟩; rw [hf.out]) | (go_at_call 122; refine (rules_A _ y s _).mono ?_; rintro e w' ⟨rfl, rfl⟩; rw [hr.out]) | fail)
   go_ret
   exact ⟨ret_int e.out.symm, hb0⟩
  | false =>
   by_cases hof : ofD o.d = m
   ·have t : (ofD o.d != m) = false := by rw [hof]; exact bne_self_eq_false _
    have e : Hid (q = 0) := Lib.hid (by rw [← hq.out]; unfold RS.askAdd; rw [if_neg (by rw [hf]; simp), if_neg (by rw [hof]; simp)])
    replace hf := Lib.hid hf
    replace hr := Lib.hid hr
    clear hof
    go_enter Tryd.func121, Tryd.ntmps121
    go_wp2_with (first | (go_at_call 37; refine (of_A _ y s _).mono ?_; rintro e w' ⟨rfl, rfl⟩) | (go_at_call 38; refine (fresh_A _ y s _).mono ?_; rintro e w' ⟨rfl, rfl⟩; rw [hf.out]) | (go_at_call 122; refine (rules_A _ y s _).mono ?_; rintro e w' ⟨rfl, rfl⟩; rw [hr.out]) | fail)
    go_ret
    exact ⟨ret_int e.out.symm, hb0⟩
   ·have t : (ofD o.d != m) = true := bne_iff_ne.2 hof
    have e : Hid (q = 14) := Lib.hid (by rw [← hq.out]; unfold RS.askAdd; rw [if_neg (by rw [hf]; simp), if_pos ⟨hr, hof⟩])
    replace hf := Lib.hid hf
    replace hr := Lib.hid hr
    clear hof
    go_enter Tryd.func121, Tryd.ntmps121
    go_wp2_with (first | (go_at_call 37; refine (of_A _ y s _).mono ?_; rintro e w' ⟨rfl, rfl⟩) | (go_at_call 38; refine (fresh_A _ y s _).mono ?_; rintro e w' ⟨rfl, rfl⟩; rw [hf.out]) | (go_at_call 122; refine (rules_A _ y s _).mono ?_; rintro e w' ⟨rfl, rfl⟩; rw [hr.out]) | fail)
    go_ret
    exact ⟨ret_int e.out.symm, hb0⟩
set_option maxRecDepth 100000 in
theorem askPromote_any (w : World) (y : Lay) (s : RS) (o : OpI) (gp : Option Addr) (gc : Nat) (m : Int) (hR : RollAt w y s) (hm : i64ok m) (ho : o.Ok) :
  Calls Tryd.prog 124 #[.pointer (some ⟨y.r, 0, none⟩), .agg (opC o gp gc), .int .i64 m] w fun e w' => e = .returned (.int .i64 (s.askPromote o m)) ∧ Below w.heap.size w w' := by
 have hb0 := Below.lit w (.cells (opC o gp gc) 42)
 have hR0 := hR.below hb0
 have hO := OpAt.made w o gp gc
 have hd := i64_small ho.hd
 have hmm := i64_small ho.hm
 have hfb := i64_small ho.hfb
 have k1 := hO.cd
 have k2 := hO.cm
 have k3 := hO.cfb
 have c1 := hR0.c1
 have c3 := hR0.c3
 obtain ⟨q, hq⟩ : ∃ q, Hid (s.askPromote o m = q) := ⟨_, Lib.hid rfl⟩
 rw [hq.out]
 cases hr : s.rules m with
 | false =>
  have e : Hid (q = 14) := Lib.hid (by rw [← hq.out]; exact if_pos hr)
  replace hr := Lib.hid hr
  go_enter Tryd.func124, Tryd.ntmps124
  go_wp2_with (first | (go_at_call 37; refine (of_A _ y s _).mono ?_; rintro e w' ⟨rfl, rfl⟩) | (go_at_call 38; refine (fresh_A _ y s _).mono ?_; rintro e w' ⟨rfl, rfl⟩; rw [hf.out]) | (go_at_call 122; refine (rules_A _ y s _).mono ?_; rintro e w' ⟨rfl, rfl⟩; rw [hr.out]) | fail)
  go_ret
  exact ⟨ret_int e.out.symm, hb0⟩
 | true =>
  rcases hR0.memN hmm with ⟨h1, hl, hl2⟩ | ⟨x, hx, hxn, h1, hl, hl2⟩
  ·have e : Hid (q = 16) := Lib.hid (by rw [← hq.out]; unfold RS.askPromote; rw [if_neg (by rw [hr]; simp), if_pos h1])
   replace hr := Lib.hid hr
   go_enter Tryd.func124, Tryd.ntmps124
   go_wp2_with (first | (go_at_call 37; refine (of_A _ y s _).mono ?_; rintro e w' ⟨rfl, rfl⟩) | (go_at_call 38; refine (fresh_A _ y s _).mono ?_; rintro e w' ⟨rfl, rfl⟩; rw [hf.out]) | (go_at_call 122; refine (rules_A _ y s _).mono ?_; rintro e w' ⟨rfl, rfl⟩; rw [hr.out]) | fail)
   go_quiet (first | (go_at_call 37; exact Calls.quietE (of_A _ y s _)) | fail)
   go_wp2_with (first | (go_at_call 37; refine (of_A _ y s _).mono ?_; rintro e w' ⟨rfl, rfl⟩) | (go_at_call 38; refine (fresh_A _ y s _).mono ?_; rintro e w' ⟨rfl, rfl⟩; rw [hf.out]) | (go_at_call 122; refine (rules_A _ y s _).mono ?_; rintro e w' ⟨rfl, rfl⟩; rw [hr.out]) | fail)
   go_ret
   exact ⟨ret_int e.out.symm, belowN hb0 _⟩
  ·have e : Hid (q = 0) := Lib.hid (by rw [← hq.out]; unfold RS.askPromote; rw [if_neg (by rw [hr]; simp), if_neg (by rw [h1]; simp)])
   replace hr := Lib.hid hr
   clear hxn
   replace h1 := Lib.hid h1
   go_enter Tryd.func124, Tryd.ntmps124
   go_wp2_with (first | (go_at_call 37; refine (of_A _ y s _).mono ?_; rintro e w' ⟨rfl, rfl⟩) | (go_at_call 38; refine (fresh_A _ y s _).mono ?_; rintro e w' ⟨rfl, rfl⟩; rw [hf.out]) | (go_at_call 122; refine (rules_A _ y s _).mono ?_; rintro e w' ⟨rfl, rfl⟩; rw [hr.out]) | fail)
   go_quiet (first | (go_at_call 37; exact Calls.quietE (of_A _ y s _)) | fail)
   go_wp2_with (first | (go_at_call 37; refine (of_A _ y s _).mono ?_; rintro e w' ⟨rfl, rfl⟩) | (go_at_call 38; refine (fresh_A _ y s _).mono ?_; rintro e w' ⟨rfl, rfl⟩; rw [hf.out]) | (go_at_call 122; refine (rules_A _ y s _).mono ?_; rintro e w' ⟨rfl, rfl⟩; rw [hr.out]) | fail)
   go_ret
   exact ⟨ret_int e.out.symm, belowN hb0 _⟩
set_option maxRecDepth 100000 in
theorem askErase_any (w : World) (y : Lay) (s : RS) (o : OpI) (gp : Option Addr) (gc : Nat) (m : Int) (hR : RollAt w y s) (hm : i64ok m) (ho : o.Ok) :
  Calls Tryd.prog 126 #[.pointer (some ⟨y.r, 0, none⟩), .agg (opC o gp gc), .int .i64 m] w fun e w' => e = .returned (.int .i64 (s.askErase o m)) ∧ Below w.heap.size w w' := by
 have hb0 := Below.lit w (.cells (opC o gp gc) 42)
 have hR0 := hR.below hb0
 have hO := OpAt.made w o gp gc
 have hd := i64_small ho.hd
 have hmm := i64_small ho.hm
 have hfb := i64_small ho.hfb
 have k1 := hO.cd
 have k2 := hO.cm
 have k3 := hO.cfb
 have c1 := hR0.c1
 have c3 := hR0.c3
 obtain ⟨q, hq⟩ : ∃ q, Hid (s.askErase o m = q) := ⟨_, Lib.hid rfl⟩
 rw [hq.out]
 cases hr : s.rules m with
 | true =>
  have e : Hid (q = 0) := Lib.hid (by rw [← hq.out]; unfold RS.askErase; rw [if_neg (by rw [hr]; simp)])
  replace hr := Lib.hid hr
  go_enter Tryd.func126, Tryd.ntmps126
  go_wp2_with (first | (go_at_call 37; refine (of_A _ y s _).mono ?_; rintro e w' ⟨rfl, rfl⟩) | (go_at_call 38; refine (fresh_A _ y s _).mono ?_; rintro e w' ⟨rfl, rfl⟩; rw [hf.out]) | (go_at_call 122; refine (rules_A _ y s _).mono ?_; rintro e w' ⟨rfl, rfl⟩; rw [hr.out]) | fail)
  go_ret
  exact ⟨ret_int e.out.symm, hb0⟩
 | false =>
  by_cases hof : ofD o.f.b = m
  ·have t : (ofD o.f.b != m) = false := by rw [hof]; exact bne_self_eq_false _
   have e : Hid (q = 0) := Lib.hid (by rw [← hq.out]; unfold RS.askErase; rw [if_neg (by rw [hof]; simp)])
   replace hr := Lib.hid hr
   clear hof
   go_enter Tryd.func126, Tryd.ntmps126
   go_wp2_with (first | (go_at_call 37; refine (of_A _ y s _).mono ?_; rintro e w' ⟨rfl, rfl⟩) | (go_at_call 38; refine (fresh_A _ y s _).mono ?_; rintro e w' ⟨rfl, rfl⟩; rw [hf.out]) | (go_at_call 122; refine (rules_A _ y s _).mono ?_; rintro e w' ⟨rfl, rfl⟩; rw [hr.out]) | fail)
   go_ret
   exact ⟨ret_int e.out.symm, hb0⟩
  ·have t : (ofD o.f.b != m) = true := bne_iff_ne.2 hof
   have e : Hid (q = 14) := Lib.hid (by rw [← hq.out]; unfold RS.askErase; exact if_pos ⟨hr, hof⟩)
   replace hr := Lib.hid hr
   clear hof
   go_enter Tryd.func126, Tryd.ntmps126
   go_wp2_with (first | (go_at_call 37; refine (of_A _ y s _).mono ?_; rintro e w' ⟨rfl, rfl⟩) | (go_at_call 38; refine (fresh_A _ y s _).mono ?_; rintro e w' ⟨rfl, rfl⟩; rw [hf.out]) | (go_at_call 122; refine (rules_A _ y s _).mono ?_; rintro e w' ⟨rfl, rfl⟩; rw [hr.out]) | fail)
   go_ret
   exact ⟨ret_int e.out.symm, hb0⟩
set_option maxRecDepth 100000 in
theorem askRemove_any (w : World) (y : Lay) (s : RS) (o : OpI) (gp : Option Addr) (gc : Nat) (m : Int) (hR : RollAt w y s) (hm : i64ok m) (ho : o.Ok) :
  Calls Tryd.prog 123 #[.pointer (some ⟨y.r, 0, none⟩), .agg (opC o gp gc), .int .i64 m] w fun e w' => e = .returned (.int .i64 (s.askRemove o m)) ∧ Below w.heap.size w w' := by
 have hb0 := Below.lit w (.cells (opC o gp gc) 42)
 have hR0 := hR.below hb0
 have hO := OpAt.made w o gp gc
 have hd := i64_small ho.hd
 have hmm := i64_small ho.hm
 have hfb := i64_small ho.hfb
 have k1 := hO.cd
 have k2 := hO.cm
 have k3 := hO.cfb
 have c1 := hR0.c1
 have c3 := hR0.c3
 obtain ⟨q, hq⟩ : ∃ q, Hid (s.askRemove o m = q) := ⟨_, Lib.hid rfl⟩
 rw [hq.out]
 by_cases h0 : o.d = 0
 ·have t0 : (o.d != 0) = false := by rw [h0]; rfl
  rcases hR0.memN hmm with ⟨h1, hl, hl2⟩ | ⟨x, hx, hxn, h1, hl, hl2⟩
  ·have e : Hid (q = 16) := Lib.hid (by rw [← hq.out]; unfold RS.askRemove; rw [if_neg (by simpa using h0), if_pos h1])
   replace h0 := Lib.hid h0
   go_enter Tryd.func123, Tryd.ntmps123
   go_wp2_with (first | (go_at_call 37; refine (of_A _ y s _).mono ?_; rintro e w' ⟨rfl, rfl⟩) | (go_at_call 38; refine (fresh_A _ y s _).mono ?_; rintro e w' ⟨rfl, rfl⟩; rw [hf.out]) | (go_at_call 122; refine (rules_A _ y s _).mono ?_; rintro e w' ⟨rfl, rfl⟩; rw [hr.out]) | fail)
   go_quiet (first | (go_at_call 37; exact Calls.quietE (of_A _ y s _)) | fail)
   go_wp2_with (first | (go_at_call 37; refine (of_A _ y s _).mono ?_; rintro e w' ⟨rfl, rfl⟩) | (go_at_call 38; refine (fresh_A _ y s _).mono ?_; rintro e w' ⟨rfl, rfl⟩; rw [hf.out]) | (go_at_call 122; refine (rules_A _ y s _).mono ?_; rintro e w' ⟨rfl, rfl⟩; rw [hr.out]) | fail)
   go_ret
   exact ⟨ret_int e.out.symm, belowN hb0 _⟩
  ·clear hxn
   cases hr : s.rules m with
   | true =>
    have e : Hid (q = 0) := Lib.hid (by rw [← hq.out]; unfold RS.askRemove; rw [if_neg (by simpa using h0), if_neg (by rw [h1]; simp), if_neg (by rw [hr]; simp)])
    replace h0 := Lib.hid h0
    replace hr := Lib.hid hr
    replace h1 := Lib.hid h1
    go_enter Tryd.func123, Tryd.ntmps123
    go_wp2_with (first | (go_at_call 37; refine (of_A _ y s _).mono ?_; rintro e w' ⟨rfl, rfl⟩) | (go_at_call 38; refine (fresh_A _ y s _).mono ?_; rintro e w' ⟨rfl, rfl⟩; rw [hf.out]) | (go_at_call 122; refine (rules_A _ y s _).mono ?_; rintro e w' ⟨rfl, rfl⟩; rw [hr.out]) | fail)
    go_quiet (first | (go_at_call 37; exact Calls.quietE (of_A _ y s _)) | fail)
    go_wp2_with (first | (go_at_call 37; refine (of_A _ y s _).mono ?_; rintro e w' ⟨rfl, rfl⟩) | (go_at_call 38; refine (fresh_A _ y s _).mono ?_; rintro e w' ⟨rfl, rfl⟩; rw [hf.out]) | (go_at_call 122; refine (rules_A _ y s _).mono ?_; rintro e w' ⟨rfl, rfl⟩; rw [hr.out]) | fail)
    go_ret
    exact ⟨ret_int e.out.symm, belowN hb0 _⟩
   | false =>
    by_cases hof : o.m = m
    ·have t : (o.m != m) = false := by rw [hof]; exact bne_self_eq_false _
     have e : Hid (q = 0) := Lib.hid (by rw [← hq.out]; unfold RS.askRemove; rw [if_neg (by simpa using h0), if_neg (by rw [h1]; simp), if_neg (by rw [hof]; simp)])
     replace h0 := Lib.hid h0
     replace hr := Lib.hid hr
     replace h1 := Lib.hid h1
     clear hof
     go_enter Tryd.func123, Tryd.ntmps123
     go_wp2_with (first | (go_at_call 37; refine (of_A _ y s _).mono ?_; rintro e w' ⟨rfl, rfl⟩) | (go_at_call 38; refine (fresh_A _ y s _).mono ?_; rintro e w' ⟨rfl, rfl⟩; rw [hf.out]) | (go_at_call 122; refine (rules_A _ y s _).mono ?_; rintro e w' ⟨rfl, rfl⟩; rw [hr.out]) | fail)
     go_quiet (first | (go_at_call 37; exact Calls.quietE (of_A _ y s _)) | fail)
     go_wp2_with (first | (go_at_call 37; refine (of_A _ y s _).mono ?_; rintro e w' ⟨rfl, rfl⟩) | (go_at_call 38; refine (fresh_A _ y s _).mono ?_; rintro e w' ⟨rfl, rfl⟩; rw [hf.out]) | (go_at_call 122; refine (rules_A _ y s _).mono ?_; rintro e w' ⟨rfl, rfl⟩; rw [hr.out]) | fail)
     go_ret
     exact ⟨ret_int e.out.symm, belowN hb0 _⟩
    ·have t : (o.m != m) = true := bne_iff_ne.2 hof
     have e : Hid (q = 14) := Lib.hid (by rw [← hq.out]; unfold RS.askRemove; rw [if_neg (by simpa using h0), if_neg (by rw [h1]; simp), if_pos ⟨hr, hof⟩])
     replace h0 := Lib.hid h0
     replace hr := Lib.hid hr
     replace h1 := Lib.hid h1
     clear hof
     go_enter Tryd.func123, Tryd.ntmps123
     go_wp2_with (first | (go_at_call 37; refine (of_A _ y s _).mono ?_; rintro e w' ⟨rfl, rfl⟩) | (go_at_call 38; refine (fresh_A _ y s _).mono ?_; rintro e w' ⟨rfl, rfl⟩; rw [hf.out]) | (go_at_call 122; refine (rules_A _ y s _).mono ?_; rintro e w' ⟨rfl, rfl⟩; rw [hr.out]) | fail)
     go_quiet (first | (go_at_call 37; exact Calls.quietE (of_A _ y s _)) | fail)
     go_wp2_with (first | (go_at_call 37; refine (of_A _ y s _).mono ?_; rintro e w' ⟨rfl, rfl⟩) | (go_at_call 38; refine (fresh_A _ y s _).mono ?_; rintro e w' ⟨rfl, rfl⟩; rw [hf.out]) | (go_at_call 122; refine (rules_A _ y s _).mono ?_; rintro e w' ⟨rfl, rfl⟩; rw [hr.out]) | fail)
     go_ret
     exact ⟨ret_int e.out.symm, belowN hb0 _⟩
 ·have t0 : (o.d != 0) = true := bne_iff_ne.2 h0
  cases hi : s.inB o.d with
  | false =>
   have e : Hid (q = 17) := Lib.hid (by rw [← hq.out]; unfold RS.askRemove; rw [if_pos h0, if_pos hi])
   obtain ⟨hl, hl2⟩ := hR0.innN hd hi
   replace h0 := Lib.hid h0
   replace hi := Lib.hid hi
   go_enter Tryd.func123, Tryd.ntmps123
   go_wp2_with (first | (go_at_call 37; refine (of_A _ y s _).mono ?_; rintro e w' ⟨rfl, rfl⟩) | (go_at_call 38; refine (fresh_A _ y s _).mono ?_; rintro e w' ⟨rfl, rfl⟩; rw [hf.out]) | (go_at_call 122; refine (rules_A _ y s _).mono ?_; rintro e w' ⟨rfl, rfl⟩; rw [hr.out]) | fail)
   go_quiet (first | (go_at_call 37; exact Calls.quietE (of_A _ y s _)) | fail)
   go_wp2_with (first | (go_at_call 37; refine (of_A _ y s _).mono ?_; rintro e w' ⟨rfl, rfl⟩) | (go_at_call 38; refine (fresh_A _ y s _).mono ?_; rintro e w' ⟨rfl, rfl⟩; rw [hf.out]) | (go_at_call 122; refine (rules_A _ y s _).mono ?_; rintro e w' ⟨rfl, rfl⟩; rw [hr.out]) | fail)
   go_ret
   exact ⟨ret_int e.out.symm, belowN hb0 _⟩
  | true =>
   cases hr : s.rules m with
   | true =>
    have e : Hid (q = 0) := Lib.hid (by rw [← hq.out]; unfold RS.askRemove; rw [if_pos h0, if_neg (by rw [hi]; simp), if_neg (by rw [hr]; simp)])
    obtain ⟨hl, hl2⟩ := hR0.innN hd hi
    replace h0 := Lib.hid h0
    replace hr := Lib.hid hr
    replace hi := Lib.hid hi
    go_enter Tryd.func123, Tryd.ntmps123
    go_wp2_with (first | (go_at_call 37; refine (of_A _ y s _).mono ?_; rintro e w' ⟨rfl, rfl⟩) | (go_at_call 38; refine (fresh_A _ y s _).mono ?_; rintro e w' ⟨rfl, rfl⟩; rw [hf.out]) | (go_at_call 122; refine (rules_A _ y s _).mono ?_; rintro e w' ⟨rfl, rfl⟩; rw [hr.out]) | fail)
    go_quiet (first | (go_at_call 37; exact Calls.quietE (of_A _ y s _)) | fail)
    go_wp2_with (first | (go_at_call 37; refine (of_A _ y s _).mono ?_; rintro e w' ⟨rfl, rfl⟩) | (go_at_call 38; refine (fresh_A _ y s _).mono ?_; rintro e w' ⟨rfl, rfl⟩; rw [hf.out]) | (go_at_call 122; refine (rules_A _ y s _).mono ?_; rintro e w' ⟨rfl, rfl⟩; rw [hr.out]) | fail)
    go_ret
    exact ⟨ret_int e.out.symm, belowN hb0 _⟩
   | false =>
    by_cases hof : ofD o.d = m
    ·have t : (ofD o.d != m) = false := by rw [hof]; exact bne_self_eq_false _
     have e : Hid (q = 0) := Lib.hid (by rw [← hq.out]; unfold RS.askRemove; rw [if_pos h0, if_neg (by rw [hi]; simp), if_neg (by rw [hof]; simp)])
     obtain ⟨hl, hl2⟩ := hR0.innN hd hi
     replace h0 := Lib.hid h0
     replace hr := Lib.hid hr
     replace hi := Lib.hid hi
     clear hof
     go_enter Tryd.func123, Tryd.ntmps123
     go_wp2_with (first | (go_at_call 37; refine (of_A _ y s _).mono ?_; rintro e w' ⟨rfl, rfl⟩) | (go_at_call 38; refine (fresh_A _ y s _).mono ?_; rintro e w' ⟨rfl, rfl⟩; rw [hf.out]) | (go_at_call 122; refine (rules_A _ y s _).mono ?_; rintro e w' ⟨rfl, rfl⟩; rw [hr.out]) | fail)
     go_quiet (first | (go_at_call 37; exact Calls.quietE (of_A _ y s _)) | fail)
     go_wp2_with (first | (go_at_call 37; refine (of_A _ y s _).mono ?_; rintro e w' ⟨rfl, rfl⟩) | (go_at_call 38; refine (fresh_A _ y s _).mono ?_; rintro e w' ⟨rfl, rfl⟩; rw [hf.out]) | (go_at_call 122; refine (rules_A _ y s _).mono ?_; rintro e w' ⟨rfl, rfl⟩; rw [hr.out]) | fail)
     go_ret
     exact ⟨ret_int e.out.symm, belowN hb0 _⟩
    ·have t : (ofD o.d != m) = true := bne_iff_ne.2 hof
     have e : Hid (q = 14) := Lib.hid (by rw [← hq.out]; unfold RS.askRemove; rw [if_pos h0, if_neg (by rw [hi]; simp), if_pos ⟨hr, hof⟩])
     obtain ⟨hl, hl2⟩ := hR0.innN hd hi
     replace h0 := Lib.hid h0
     replace hr := Lib.hid hr
     replace hi := Lib.hid hi
     clear hof
     go_enter Tryd.func123, Tryd.ntmps123
     go_wp2_with (first | (go_at_call 37; refine (of_A _ y s _).mono ?_; rintro e w' ⟨rfl, rfl⟩) | (go_at_call 38; refine (fresh_A _ y s _).mono ?_; rintro e w' ⟨rfl, rfl⟩; rw [hf.out]) | (go_at_call 122; refine (rules_A _ y s _).mono ?_; rintro e w' ⟨rfl, rfl⟩; rw [hr.out]) | fail)
     go_quiet (first | (go_at_call 37; exact Calls.quietE (of_A _ y s _)) | fail)
     go_wp2_with (first | (go_at_call 37; refine (of_A _ y s _).mono ?_; rintro e w' ⟨rfl, rfl⟩) | (go_at_call 38; refine (fresh_A _ y s _).mono ?_; rintro e w' ⟨rfl, rfl⟩; rw [hf.out]) | (go_at_call 122; refine (rules_A _ y s _).mono ?_; rintro e w' ⟨rfl, rfl⟩; rw [hr.out]) | fail)
     go_ret
     exact ⟨ret_int e.out.symm, belowN hb0 _⟩
end Go.Proofs.YtkolilbebkkpdaaDoor

namespace Go.Proofs.YtkolilbebkkpdaaDoor
open Go.RowKit Go.Maps

set_option maxRecDepth 100000 in
theorem id_neq (i j : Idn) (w : World) : (binOp .neq 34 (.agg #[.int .i64 i.b, .int .i64 i.s, .int .u64 i.u]) (.agg #[.int .i64 j.b, .int .i64 j.s, .int .u64 j.u])).run Tryd.prog w = .ok (.bool (!decide (i = j))) w := by
 have h := id_eql i j w
 rw [run_eql_struct] at h
 rw [run_neq_struct]
 cases hx : (Op.equalIn 10000 34 (.agg #[.int .i64 i.b, .int .i64 i.s, .int .u64 i.u]) (.agg #[.int .i64 j.b, .int .i64 j.s, .int .u64 j.u])).run Tryd.prog w with
 | ok b w' =>
  rw [hx] at h
  simp only [Result.andThen_ok] at h ⊢
  injection h with h1 h2
  injection h1 with h1
  rw [h1, h2]
 | _ => rw [hx] at h; cases h
set_option maxRecDepth 100000 in
theorem own_any (w : World) (y : Lay) (s : RS) (o : OpI) (gp : Option Addr) (gc : Nat) (m : Int) (hR : RollAt w y s) (hm : i64ok m) :
  Calls Tryd.prog 130 #[.pointer (some ⟨y.r, 0, none⟩), .agg (opC o gp gc), .int .i64 m] w fun e w' => e = .returned (.int .i64 (s.askOwn o m)) ∧ Below w.heap.size w w' := by
 have hb0 := Below.lit w (.cells (opC o gp gc) 42)
 have hR0 := hR.below hb0
 have hO := OpAt.made w o gp gc
 have k1 := hO.cfb
 have k2 := hO.cfs
 have k3 := hO.cfu
 have c3 := hR0.c3
 have hst := id_stood
 have hgd := id_guard
 obtain ⟨q, hq⟩ : ∃ q, Hid (s.askOwn o m = q) := ⟨_, Lib.hid rfl⟩
 rw [hq.out]
 rcases hR0.memN hm with ⟨h1, hl, hl2⟩ | ⟨x, hx, hxn, h1, hl, hl2⟩
 ·have e : Hid (q = 25) := Lib.hid (by rw [← hq.out]; unfold RS.askOwn; rw [h1]; rfl)
  go_enter Tryd.func130, Tryd.ntmps130
  go_wp2_with fail
  go_quiet (fail)
  go_wp2_with fail
  go_ret
  exact ⟨ret_int e.out.symm, belowN hb0 _⟩
 ·clear hxn
  have hM := hR0.mb x hx
  have q1 := hM.c1
  cases hg : x.m.g with
  | none =>
   have e : Hid (q = 25) := Lib.hid (by rw [← hq.out]; unfold RS.askOwn; rw [h1]; show (if isId o.f x.m.g = true then _ else _) = _; rw [hg]; rfl)
   rw [hg] at q1
   replace q1 : (w.alloc (.cells (opC o gp gc) 42)).cell? ⟨x.a, 1, none⟩ = some (.pointer none) := q1
   replace hg := Lib.hid hg
   replace h1 := Lib.hid h1
   go_enter Tryd.func130, Tryd.ntmps130
   go_wp2_with fail
   go_quiet (fail)
   go_wp2_with fail
   go_ret
   exact ⟨ret_int e.out.symm, belowN hb0 _⟩
  | some d =>
   rw [hg] at q1
   replace q1 : (w.alloc (.cells (opC o gp gc) 42)).cell? ⟨x.a, 1, none⟩ = some (.pointer (some ⟨x.g, 0, none⟩)) := q1
   have hD := hM.gd d hg
   have g0 := hD.c0
   have g1 := hD.c1
   have g2 := hD.c2
   have hie := id_neq d.id o.f
   by_cases hdi : d.id = o.f
   ·have e : Hid (q = 0) := Lib.hid (by rw [← hq.out]; unfold RS.askOwn; rw [h1]; show (if isId o.f x.m.g = true then _ else _) = _; rw [hg]; exact if_pos (decide_eq_true hdi))
    rw [decide_eq_true hdi] at hie
    clear hdi
    replace hg := Lib.hid hg
    replace h1 := Lib.hid h1
    go_enter Tryd.func130, Tryd.ntmps130
    go_wp2_with fail
    go_quiet (fail)
    go_wp2_with fail
    go_ret
    exact ⟨ret_int e.out.symm, belowN hb0 _⟩
   ·have e : Hid (q = 25) := Lib.hid (by rw [← hq.out]; unfold RS.askOwn; rw [h1]; show (if isId o.f x.m.g = true then _ else _) = _; rw [hg]; exact if_neg (by unfold isId; simpa using hdi))
    rw [decide_eq_false hdi] at hie
    clear hdi
    replace hg := Lib.hid hg
    replace h1 := Lib.hid h1
    go_enter Tryd.func130, Tryd.ntmps130
    go_wp2_with fail
    go_quiet (fail)
    go_wp2_with fail
    go_ret
    exact ⟨ret_int e.out.symm, belowN hb0 _⟩
set_option maxRecDepth 100000 in
theorem Index_any (p : Option Addr) (n : Nat) (xs : List Int) (c : Nat) (x : Int) (w : World) (hU : UI w p n xs) (hn : n ≤ 9223372036854775806) :
  Calls Tryd.prog 83 #[.slice p n c, .int .i64 x] w fun e w' => ∃ i : Int, e = .returned (.int .i64 i) ∧ -1 ≤ i ∧ i ≤ 9223372036854775806 ∧ Hid (0 ≤ i ↔ x ∈ xs) ∧ w = w' := by
 have hX := Lib.hid hU.len
 go_enter Tryd.func83, Tryd.ntmps83
 go_wp2
 go_loopw [8] (fun i wr => ∃ k : Nat, k ≤ n ∧ i = .int .i64 k ∧ Hid (∀ j, j < k → nth xs j ≠ x) ∧ w = wr)
  (fun i _ => n - (intOf i).toNat)
 case atStart => exact ⟨0, Nat.zero_le _, rfl, Lib.hid (fun j hj => absurd hj (by omega)), rfl⟩
 case round =>
  obtain ⟨k, hk, rfl, hno, rfl⟩ := hrel
  by_cases hlt : k < n
  ·obtain ⟨b, off, rfl, _, hc, _⟩ := hU.look hlt
   by_cases he : nth xs k = x
   ·have he' : (x == nth xs k) = true := by rw [beq_iff_eq]; exact he.symm
    have hfin : Hid (x ∈ xs) := Lib.hid (by rw [← he]; exact nth_mem (by rw [hX.out]; exact hlt))
    clear he
    go_wp2
    go_ret
    exact ⟨k, rfl, by omega, by omega, Lib.hid ⟨fun _ => hfin.out, fun _ => by omega⟩, rfl⟩
   ·have he' : (x == nth xs k) = false := beq_eq_false_iff_ne.2 fun e => he e.symm
    have hno' : Hid (∀ j, j < k + 1 → nth xs j ≠ x) := Lib.hid (fun j hj => by
     by_cases hjk : j = k
     ·subst hjk; exact he
     ·exact hno.out j (by omega))
    clear he hno
    go_wp2
    go_roundw
    case rel => exact ⟨k + 1, by omega, by go_num, hno', trivial⟩
    case measure => simp [intOf]; omega
  ·have hfin : Hid (x ∉ xs) := Lib.hid (by
    intro hm
    obtain ⟨j, hj, hjx⟩ := List.getElem_of_mem hm
    exact hno.out j (by rw [hX.out] at hj; omega) (by rw [nth_eq hj]; exact hjx))
   clear hno
   go_wp2
   go_ret
   exact ⟨-1, rfl, by omega, by omega, Lib.hid ⟨fun h => absurd h (by omega), fun h => absurd h hfin.out⟩, rfl⟩
set_option maxRecDepth 100000 in
theorem Contains_any (p : Option Addr) (n : Nat) (xs : List Int) (c : Nat) (x : Int) (w : World) (hU : UI w p n xs) (hn : n ≤ 9223372036854775806) (r : Bool) (hr : Hid (r = decide (x ∈ xs))) :
  Calls Tryd.prog 73 #[.slice p n c, .int .i64 x] w fun e w' => e = .returned (.bool r) ∧ w = w' := by
 go_enter Tryd.func73, Tryd.ntmps73
 go_wp2_with fail
 refine (Index_any p n xs c x w hU hn).mono ?_
 rintro e w' ⟨i, rfl, hi1, hi2, hi, rfl⟩
 by_cases h : 0 ≤ i
 ·have hf : Hid (r = true) := Lib.hid (by rw [hr.out]; exact decide_eq_true (hi.out.1 h))
  go_wp2_with fail
  go_ret
  exact ⟨ret_bool hf.out.symm, rfl⟩
 ·have hf : Hid (r = false) := Lib.hid (by rw [hr.out]; exact decide_eq_false fun h2 => h (hi.out.2 h2))
  go_wp2_with fail
  go_ret
  exact ⟨ret_bool (by rw [hf.out]; exact decide_eq_false (by omega)), rfl⟩
end Go.Proofs.YtkolilbebkkpdaaDoor

namespace Go.Proofs.YtkolilbebkkpdaaDoor

/-- Of a guard, behind k operations. -/
structure Gd.Ok (g : Gd) (k : Nat) : Prop where
 gl : g.gs.length ≤ 1000
 ne : g.gs ≠ []
 gb : ∀ x ∈ g.gs, 0 ≤ x ∧ x ≤ 1000000
 hn : 1 ≤ g.n ∧ g.n ≤ 1000000
 ht : 0 ≤ g.t ∧ g.t ≤ 1000000
 hl : 0 ≤ g.la ∧ g.la ≤ 1000000
 vl : g.vo.length ≤ k
 vb : ∀ v ∈ g.vo, (0 ≤ v.1.1 ∧ v.1.1 ≤ 1000000) ∧ (0 ≤ v.1.2 ∧ v.1.2 ≤ 1000000) ∧ 0 ≤ v.2 ∧ v.2 ≤ 1000000
 vn : (g.vo.map Prod.fst).Nodup
 hi : g.id.s ≤ k
/-- Of a roll, behind k operations. -/
structure RS.Ok (s : RS) (k : Nat) : Prop where
 ins : ∀ d ∈ s.ins ++ s.gone, 1 ≤ d ∧ d ≤ 7
 nd : (s.ins ++ s.gone).Nodup
 mn : (s.ms.map Prod.fst).Nodup
 mem : ∀ p ∈ s.ms, 1 ≤ p.1 ∧ p.1 ≤ 4 ∧ 0 ≤ p.2.r ∧ p.2.r ≤ 1000000
 gd : ∀ p ∈ s.ms, ∀ g, p.2.g = some g → g.Ok k
 ids : s.idsU
 bk : 0 ≤ s.bk ∧ s.bk ≤ 1000000
theorem nodup_len : ∀ (l m : List Int), l.Nodup → (∀ x ∈ l, x ∈ m) → l.length ≤ m.length := by
 intro l
 induction l with
 | nil => intro m _ _; exact Nat.zero_le _
 | cons a l ih =>
  intro m hd hm
  obtain ⟨k1, k2⟩ := List.nodup_cons.1 hd
  have ha := hm a (List.mem_cons_self ..)
  have := ih (m.erase a) k2 fun x hx => (List.mem_erase_of_ne (fun e => k1 (by rw [← e]; exact hx))).2 (hm x (List.mem_cons_of_mem _ hx))
  rw [List.length_erase_of_mem ha] at this
  have := List.length_pos_of_mem ha
  rw [List.length_cons]; omega
theorem RS.Ok.few {s : RS} {k : Nat} (h : s.Ok k) : (s.ins ++ s.gone).length ≤ 7 := by
 refine nodup_len _ [1, 2, 3, 4, 5, 6, 7] h.nd fun x hx => ?_
 have := h.ins x hx
 simp only [List.mem_cons, List.not_mem_nil, or_false]
 omega
theorem RS.Ok.fewM {s : RS} {k : Nat} (h : s.Ok k) : s.ms.length ≤ 4 := by
 have := nodup_len _ [1, 2, 3, 4] h.mn fun x hx => by
  obtain ⟨p, hp, rfl⟩ := List.mem_map.1 hx
  have := h.mem p hp
  simp only [List.mem_cons, List.not_mem_nil, or_false]
  omega
 rwa [List.length_map] at this
end Go.Proofs.YtkolilbebkkpdaaDoor

namespace Go.Proofs.YtkolilbebkkpdaaDoor
open Go.RowKit Go.Maps

theorem UI.drewN {w : World} {p : Option Addr} {n : Nat} {xs : List Int} (h : UI w p n xs) (k : Nat) : UI (w.drewN k) p n xs := h.below (belowN (Below.refl _ w) k)
theorem same_rec : ∀ {l : List MRec} {x z : MRec}, (l.map MRec.n).Nodup → x ∈ l → z ∈ l → x.n = z.n → x = z := by
 intro l
 induction l with
 | nil => intro x z _ hx; cases hx
 | cons a l ih =>
  intro x z hd hx hz e
  rw [List.map_cons, List.nodup_cons] at hd
  rcases List.mem_cons.1 hx with h1 | h1 <;> rcases List.mem_cons.1 hz with h2 | h2
  ·rw [h1, h2]
  ·exact absurd (List.mem_map.2 ⟨z, h2, by rw [← e, h1]⟩) hd.1
  ·exact absurd (List.mem_map.2 ⟨x, h1, by rw [e, h2]⟩) hd.1
  ·exact ih hd.2 h1 h2 e
theorem RollAt.same {w : World} {y : Lay} {s : RS} (h : RollAt w y s) {x z : MRec} (hx : x ∈ y.l) (hz : z ∈ y.l) (e : x.n = z.n) : x = z :=
 same_rec (by have := h.ms.nd; rwa [keys_memV] at this) hx hz e
set_option maxRecDepth 100000 in
theorem guards_any (w : World) (y : Lay) (s : RS) (o : OpI) (gp : Option Addr) (gc : Nat) (k : Nat) (hR : RollAt w y s) (hs : s.Ok k) :
  Calls Tryd.prog 42 #[.pointer (some ⟨y.r, 0, none⟩), .agg (opC o gp gc)] w fun e w' => e = .returned (.tuple #[.int .i64 (s.guards o).1, .int .i64 (s.guards o).2]) ∧ Below w.heap.size w w' := by
 have hb0 := Below.lit w (.cells (opC o gp gc) 42)
 have hR0 := hR.below hb0
 have hO := OpAt.made w o gp gc
 have k1 := hO.cfb
 have k2 := hO.cfs
 have k3 := hO.cfu
 obtain ⟨q, hq⟩ : ∃ q, Hid ((Ending.returned (.tuple #[.int .i64 (s.guards o).1, .int .i64 (s.guards o).2])) = q) := ⟨_, Lib.hid rfl⟩
 rw [hq.out]
 go_enter Tryd.func42, Tryd.ntmps42
 go_wp2_with fail
 refine (whose_any _ y s o.f hR0 hs.ids).mono ?_
 rintro e w1 ⟨rfl, hb1⟩
 rcases s.whose_cases o.f with ⟨h0, _⟩ | ⟨p, hp, hid, h0⟩
 ·have e : Hid (q = .returned (.tuple #[.int .i64 0, .int .i64 25])) := Lib.hid (by rw [← hq.out]; unfold RS.guards; rw [if_pos h0])
  replace h0 := Lib.hid h0
  rw [h0.out]
  go_wp2_with fail
  go_ret2
  exact ⟨e.out.symm, hb0.trans (hb1.mono hb0.size)⟩
 ·obtain ⟨x, hx, rfl⟩ := hR0.ofS hp
  have hxz := hs.mem _ hp
  simp only at h0 hxz hid
  have hR1 := hR0.below hb1
  have hO1 := hO.below hb1 (by simp)
  have k4 := hO1.cb
  have hnx : i64ok x.n := by unfold i64ok; omega
  have hms : s.memb x.n = some x.m := lk_of_mem hR.msnd hp
  have c3 := hR1.c3
  have hnz : (x.n == 0) = false := beq_eq_false_iff_ne.2 (by omega)
  have hM := hR1.mb x hx
  have q1 := hM.c1
  cases hg : x.m.g with
  | none => rw [hg] at hid; cases hid
  | some d =>
   rw [hg] at q1
   replace q1 : w1.cell? ⟨x.a, 1, none⟩ = some (.pointer (some ⟨x.g, 0, none⟩)) := q1
   have hD := hM.gd d hg
   have g3 := hD.c3
   have hgs := hD.gs
   have hgn : d.gs.length ≤ 9223372036854775806 := Nat.le_trans (hs.gd _ hp d hg).gl (by omega)
   rcases hR1.memN hnx with ⟨h1, _⟩ | ⟨z, hz2, hzn, h1, hl, hl2⟩
   ·rw [hms] at h1; cases h1
   ·have hza : z.a = x.a := by rw [hR.same hz2 hx hzn]
    rw [hza] at hl hl2
    clear hza
    have hgr : s.guards o = grd1 o x.n (some d) := by
     unfold RS.guards
     rw [h0, if_neg (by omega), hms]
     show grd1 o x.n x.m.g = _
     rw [hg]
    replace h0 := Lib.hid h0
    rw [h0.out]
    by_cases hc : o.b ∈ d.gs
    ·have e : Hid (q = .returned (.tuple #[.int .i64 x.n, .int .i64 0])) := Lib.hid (by have e : s.guards o = (x.n, 0) := (by rw [hgr]; exact if_pos hc); rw [← hq.out, e])
     have hr : Hid (true = decide (o.b ∈ d.gs)) := Lib.hid (decide_eq_true hc).symm
     replace hg := Lib.hid hg
     replace hms := Lib.hid hms
     replace h1 := Lib.hid h1
     replace hgr := Lib.hid hgr
     clear hc hid hxz hzn
     go_wp2_with fail
     go_quiet ((go_at_call 73; refine Calls.quietE (Contains_any _ _ d.gs _ _ _ (hgs.drewN _) hgn true hr)))
     go_wp2_with fail
     go_ret2
     exact ⟨e.out.symm, hb0.trans ((belowN hb1 _).mono hb0.size)⟩
    ·have e : Hid (q = .returned (.tuple #[.int .i64 0, .int .i64 14])) := Lib.hid (by have e : s.guards o = (0, 14) := (by rw [hgr]; exact if_neg hc); rw [← hq.out, e])
     have hr : Hid (false = decide (o.b ∈ d.gs)) := Lib.hid (decide_eq_false hc).symm
     replace hg := Lib.hid hg
     replace hms := Lib.hid hms
     replace h1 := Lib.hid h1
     replace hgr := Lib.hid hgr
     clear hc hid hxz hzn
     go_wp2_with fail
     go_quiet ((go_at_call 73; exact Calls.quietE (Contains_any _ _ d.gs _ _ _ (hgs.drewN _) hgn false hr)))
     go_wp2_with fail
     go_ret2
     exact ⟨e.out.symm, hb0.trans ((belowN hb1 _).mono hb0.size)⟩
end Go.Proofs.YtkolilbebkkpdaaDoor

namespace Go.Proofs.YtkolilbebkkpdaaDoor
open Go.RowKit Go.Maps

set_option maxRecDepth 100000 in
theorem notIn_any (w : World) (y : Lay) (s : RS) (d : Int) (g : Nat) (hR : RollAt w y s) (hd : i64ok d) (hg : w.cell? ⟨g, 0, none⟩ = some (.pointer (some ⟨y.r, 0, none⟩))) :
  Calls Tryd.prog 129 #[.int .i64 d, .pointer (some ⟨g, 0, none⟩)] w fun e w' => e = .returned (.bool (!s.inB d)) ∧ w = w' := by
 have c1 := hR.c1
 have hl := hR.inn hd
 go_enter Tryd.func129, Tryd.ntmps129
 go_wp2_with fail
 go_ret
 exact ⟨rfl, rfl⟩
set_option maxRecDepth 100000 in
theorem IndexFunc_any (p : Option Addr) (n : Nat) (xs : List Int) (c : Nat) (w : World) (y : Lay) (s : RS) (g : Nat) (hR : RollAt w y s) (hg : w.cell? ⟨g, 0, none⟩ = some (.pointer (some ⟨y.r, 0, none⟩))) (hU : UI w p n xs) (hn : n ≤ 9223372036854775806) :
  Calls Tryd.prog 133 #[.slice p n c, .func (.func 129) #[] #[.pointer (some ⟨g, 0, none⟩)]] w fun e w' => ∃ i : Int, e = .returned (.int .i64 i) ∧ -1 ≤ i ∧ i ≤ 9223372036854775806 ∧ Hid (i < 0 ↔ ∀ x ∈ xs, x ∈ s.ins) ∧ w = w' := by
 have hX := Lib.hid hU.len
 go_enter Tryd.func133, Tryd.ntmps133
 go_wp2
 go_loopw [8] (fun i wr => ∃ k : Nat, k ≤ n ∧ i = .int .i64 k ∧ Hid (∀ j, j < k → nth xs j ∈ s.ins) ∧ w = wr)
  (fun i _ => n - (intOf i).toNat)
 case atStart => exact ⟨0, Nat.zero_le _, rfl, Lib.hid (fun j hj => absurd hj (by omega)), rfl⟩
 case round =>
  obtain ⟨k, hk, rfl, hno, rfl⟩ := hrel
  by_cases hlt : k < n
  ·obtain ⟨b, off, rfl, _, hc, hb1, hb2⟩ := hU.look hlt
   have hxk : Hid (nth xs k ∈ xs) := Lib.hid (nth_mem (by rw [hX.out]; exact hlt))
   have hok : i64ok (nth xs k) := ⟨hb1, hb2⟩
   cases he : s.inB (nth xs k) with
   | false =>
    have hf : Hid (nth xs k ∉ s.ins) := Lib.hid (of_decide_eq_false he)
    replace he := Lib.hid he
    go_wp2_with (first | (go_at_call 129; refine (notIn_any _ y s _ g hR hok hg).mono ?_; rintro e w' ⟨rfl, rfl⟩; rw [he.out]) | fail)
    go_ret
    exact ⟨k, rfl, by omega, by omega, Lib.hid ⟨fun h => absurd h (by omega), fun h => absurd (h _ hxk.out) hf.out⟩, rfl⟩
   | true =>
    have hf : Hid (nth xs k ∈ s.ins) := Lib.hid (of_decide_eq_true he)
    have hno' : Hid (∀ j, j < k + 1 → nth xs j ∈ s.ins) := Lib.hid (fun j hj => by
     by_cases hjk : j = k
     ·subst hjk; exact hf.out
     ·exact hno.out j (by omega))
    replace he := Lib.hid he
    go_wp2_with (first | (go_at_call 129; refine (notIn_any _ y s _ g hR hok hg).mono ?_; rintro e w' ⟨rfl, rfl⟩; rw [he.out]) | fail)
    go_roundw
    case rel => exact ⟨k + 1, by omega, by go_num, hno', trivial⟩
    case measure => simp [intOf]; omega
  ·have hfin : Hid (∀ x ∈ xs, x ∈ s.ins) := Lib.hid (by
    intro x hm
    obtain ⟨j, hj, hjx⟩ := List.getElem_of_mem hm
    have := hno.out j (by rw [hX.out] at hj; omega)
    rw [nth_eq hj, hjx] at this
    exact this)
   clear hno
   go_wp2_with fail
   go_ret
   exact ⟨-1, rfl, by omega, by omega, Lib.hid ⟨fun _ => hfin.out, fun _ => by omega⟩, rfl⟩
set_option maxRecDepth 100000 in
theorem ContainsFunc_any (p : Option Addr) (n : Nat) (xs : List Int) (c : Nat) (w : World) (y : Lay) (s : RS) (g : Nat) (hR : RollAt w y s) (hg : w.cell? ⟨g, 0, none⟩ = some (.pointer (some ⟨y.r, 0, none⟩))) (hU : UI w p n xs) (hn : n ≤ 9223372036854775806) (r : Bool) (hr : Hid (r = !decide (∀ x ∈ xs, x ∈ s.ins))) :
  Calls Tryd.prog 128 #[.slice p n c, .func (.func 129) #[] #[.pointer (some ⟨g, 0, none⟩)]] w fun e w' => e = .returned (.bool r) ∧ w = w' := by
 go_enter Tryd.func128, Tryd.ntmps128
 go_wp2_with fail
 refine (IndexFunc_any p n xs c w y s g hR hg hU hn).mono ?_
 rintro e w' ⟨i, rfl, hi1, hi2, hi, rfl⟩
 by_cases h : 0 ≤ i
 ·have hf : Hid (r = true) := Lib.hid (by rw [hr.out, decide_eq_false fun h2 => absurd (hi.out.2 h2) (by omega)]; rfl)
  go_wp2_with fail
  go_ret
  exact ⟨ret_bool hf.out.symm, rfl⟩
 ·have hf : Hid (r = false) := Lib.hid (by rw [hr.out, decide_eq_true (hi.out.1 (by omega))]; rfl)
  go_wp2_with fail
  go_ret
  exact ⟨ret_bool (by rw [hf.out]; exact decide_eq_false (by omega)), rfl⟩
set_option maxRecDepth 100000 in
theorem askGuard_any (w : World) (y : Lay) (s : RS) (o : OpI) (gp : Option Addr) (gc : Nat) (m : Int) (hR : RollAt w y s) (hU : UI w gp o.gs.length o.gs) (hn : o.gs.length ≤ 1000) :
  Calls Tryd.prog 127 #[.pointer (some ⟨y.r, 0, none⟩), .agg (opC o gp gc), .int .i64 m] w fun e w' => e = .returned (.int .i64 (s.askGuard o m)) ∧ Below w.heap.size w w' := by
 have hb1 := Below.lit w (.cells #[.pointer (some ⟨y.r, 0, none⟩)] 23)
 have hg1 : (w.alloc (.cells #[.pointer (some ⟨y.r, 0, none⟩)] 23)).cell? ⟨w.heap.size, 0, none⟩ = some (.pointer (some ⟨y.r, 0, none⟩)) := cell_of_one (World.alloc_heap_new w _)
 have hz : (w.alloc (.cells #[.pointer (some ⟨y.r, 0, none⟩)] 23)).heap.size = w.heap.size + 1 := by simp
 have hb2 := Below.lit (w.alloc (.cells #[.pointer (some ⟨y.r, 0, none⟩)] 23)) (.cells (opC o gp gc) 42)
 have hb : Below w.heap.size w ((w.alloc (.cells #[.pointer (some ⟨y.r, 0, none⟩)] 23)).alloc (.cells (opC o gp gc) 42)) := hb1.trans (hb2.mono hb1.size)
 have hR2 := hR.below hb
 have hO := OpAt.made (w.alloc (.cells #[.pointer (some ⟨y.r, 0, none⟩)] 23)) o gp gc
 have k1 := hO.cgs
 rw [hz] at k1
 have hg2 := (hb2.cell (p := ⟨w.heap.size, 0, none⟩) (by show w.heap.size < _; omega)).trans hg1
 have hU2 := hU.below hb
 obtain ⟨q, hq⟩ : ∃ q, Hid (s.askGuard o m = q) := ⟨_, Lib.hid rfl⟩
 rw [hq.out]
 by_cases h : ∀ d ∈ o.gs, d ∈ s.ins
 ·have e : Hid (q = 0) := Lib.hid (by rw [← hq.out]; exact if_pos h)
  have hr : Hid (false = !decide (∀ x ∈ o.gs, x ∈ s.ins)) := Lib.hid (by rw [decide_eq_true h]; rfl)
  clear h
  go_enter Tryd.func127, Tryd.ntmps127
  go_wp2_with (first | (go_at_call 128; refine (ContainsFunc_any _ _ o.gs _ _ y s w.heap.size hR2 hg2 hU2 (by omega) false hr).mono ?_; rintro e w' ⟨rfl, rfl⟩) | fail)
  go_ret
  exact ⟨ret_int e.out.symm, hb⟩
 ·have e : Hid (q = 17) := Lib.hid (by rw [← hq.out]; exact if_neg h)
  have hr : Hid (true = !decide (∀ x ∈ o.gs, x ∈ s.ins)) := Lib.hid (by rw [decide_eq_false h]; rfl)
  clear h
  go_enter Tryd.func127, Tryd.ntmps127
  go_wp2_with (first | (go_at_call 128; refine (ContainsFunc_any _ _ o.gs _ _ y s w.heap.size hR2 hg2 hU2 (by omega) true hr).mono ?_; rintro e w' ⟨rfl, rfl⟩) | fail)
  go_ret
  exact ⟨ret_int e.out.symm, hb⟩
end Go.Proofs.YtkolilbebkkpdaaDoor

