/-
  Rolls: the keys of a map, in whatever row (1): a range inside a fence; where AppendSeq stands.
-/
import Derived.Test.YtkolilbebkkpdaaDoorRoF
import Derived.Test.YtkolilbebkkpdaaDoorRange
import Derived.Test.YtkolilbebkkpdaaDoorChSort
import Derived.Maps.OwnIn
import Derived.Sort.MapsRangeIn
import Derived.RangeFuncSeq
import Derived.RangeFuncGives
namespace Go.Proofs.YtkolilbebkkpdaaDoor
open Go.RowKit Go.Shelf Go.Maps
attribute [local go_sem] Oper.semAt_some

section
variable {α : Type} [DecidableEq α] {K : KeyT α} {F : Fence} {nf : Nat} (w : World) {ops : Array Oper} {rest : List Oper} {o : Oper} {a : Act} {Q : Exit → Act → World → Prop}
set_option maxRecDepth 100000 in
theorem wpIn_rng (hg : o.guard = none) (m : Operand) (t : TypeId) (hop : o.op = Op.range t m) (e : TypeId) (ht : Tryd.prog.underlying t = some (.map K.kt e)) (b : Nat) (ks : List (α × Value)) (hm : a.eval m = .map (some b)) (hown : MapV K w b ks)
    (hK : ∀ w', Rng K w' b w.heap.size ks [] → w.grownBy w' none → wpListIn F nf Tryd.prog ops Q rest (a.put o.dst (.pointer (some ⟨w.heap.size, 0, none⟩))) w') : wpListIn F nf Tryd.prog ops Q (o :: rest) a w := by
  obtain ⟨n, D, h1, h2, _⟩ := hown
  refine wpListIn_range_own w hg m t hop K.kt e K.keyed ht hR b n D hm h1 ?_
  intro w' hrg hgr hs
  exact hK w' ⟨n, D, _, _, hrg, h2, Come.start h2⟩ hgr
set_option maxRecDepth 100000 in
theorem wpIn_nxt (hg : o.guard = none) (it : Operand) (hop : o.op = Op.next it false) (b r : Nat) (ks : List (α × Value)) (pre : List α) (hit : a.eval it = .pointer (some ⟨r, 0, none⟩)) (h : Rng K w b r ks pre)
    (hDone : pre.Perm (ks.map Prod.fst) → wpListIn F nf Tryd.prog ops Q rest (a.put o.dst (.tuple #[.bool false])) w)
    (hMore : ∀ (x : α) (v : Value) (w' : World), (x, v) ∈ ks → x ∉ pre → K.ok x → Rng K w' b r ks (pre ++ [x]) → w'.rangeLeft b r < w.rangeLeft b r → w.grownBy w' (some r) →
      (Instr.entry (.pointer (some ⟨r, 0, none⟩))).run Tryd.prog w' = .ok (.tuple #[K.val x, v]) w' → wpListIn F nf Tryd.prog ops Q rest (a.put o.dst (.tuple #[.bool true, K.val x, v])) w') :
    wpListIn F nf Tryd.prog ops Q (o :: rest) a w := by
  obtain ⟨n, D, left, cnt, hrg, h2, h3⟩ := h
  refine wpListIn_next_ranges (α := α) (β := Value) w hg it hop K.kt K.keyed hR K.val id (fun key kl hk => by obtain ⟨x, hx, _⟩ := K.all hk; exact ⟨x, hx⟩) (fun v y _ => ⟨v, rfl⟩) b r n D left cnt hit hrg (fun _ hl => hDone (h3.perm hl h2.ok h2.nd)) ?_
  intro x v kl y w' cnt' hkl hleft hv hat hrg' hlt hgr hsz hen
  obtain ⟨x', hx', hok⟩ := K.all hkl
  obtain rfl := K.inj hx'
  have hle : kl = K.lit x := by
    have := K.of hok
    rw [hkl] at this
    injection this
  subst hle
  have hl := h3.left x hok
  rw [hleft] at hl
  have hl2 := hl.symm
  rw [Bool.and_eq_true, decide_eq_true_eq, decide_eq_true_eq] at hl2
  unfold hR at hv
  injection hv with hv
  have hv2 := h2.at_ x hok .nil
  rw [hat, ← hv] at hv2
  have hmem : (x, v) ∈ ks := by
    cases e : lk ks x with
    | none => rw [e] at hv2; cases hv2
    | some u =>
      rw [e] at hv2
      injection hv2 with hv2
      have : v = u := hv2
      rw [this]
      exact lk_mem e
  exact hMore x v w' hmem hl2.2 hok ⟨n, D, _, cnt', hrg', h2, h3.step hok hleft⟩ (by rw [hrg'.left_eq, hrg.left_eq]; exact hlt) hgr hen
end
theorem Rng.iter_walk {α : Type} [DecidableEq α] {K : KeyT α} {w : World} {b r : Nat} {ks : List (α × Value)} {pre : List α} (h : Rng K w b r ks pre) : ∃ o, w.heap[r]? = some o ∧ o.isWalk = true := by
  obtain ⟨n, D, left, cnt, h1, _⟩ := h
  exact h1.iter_walk
theorem Rng.of_walks {α : Type} [DecidableEq α] {K : KeyT α} {w w' : World} {b r : Nat} {ks : List (α × Value)} {pre : List α} (h : Rng K w b r ks pre) (hk : KeepsWalks w w') : Rng K w' b r ks pre ∧ w'.rangeLeft b r = w.rangeLeft b r := by
  obtain ⟨n, D, left, cnt, h1, h2⟩ := h
  have h3 := h1.of_walks hk
  exact ⟨⟨n, D, left, cnt, h3, h2⟩, by rw [h3.left_eq, h1.left_eq]⟩
theorem grown_cell (W : World) (b i : Nat) (v : Value) : W.grownBy (W.setCell ⟨b, i, none⟩ v) (some b) :=
  ⟨rfl, rfl, rfl, by simp [World.setCell], fun k _ hk => Below.heap_setCell _ _ _ k (fun e => hk (by rw [e]))⟩
theorem below_put {B : Nat} {w X : World} (h : Below B w X) {k : Nat} (hk : B ≤ k) (hB : B ≤ X.heap.size) (o : Obj) : Below B w (X.putObj k o) :=
  h.grown (grownBy_putObj' X _ _) hB (fun j e => by cases e; exact hk)
theorem nodup_leI : ∀ (l m : List Int), l.Nodup → (∀ x ∈ l, x ∈ m) → l.length ≤ m.length := by
  intro l
  induction l with
  | nil => intro m _ _; exact Nat.zero_le _
  | cons a l ih =>
    intro m hd hm
    obtain ⟨k1, k2⟩ := List.nodup_cons.1 hd
    have ha := hm a (List.mem_cons_self ..)
    have := ih (m.erase a) k2 fun x hx => (List.mem_erase_of_ne (fun e => k1 (by rw [← e]; exact hx))).2 (hm x (List.mem_cons_of_mem _ hx))
    rw [List.length_erase_of_mem ha] at this
    have := List.length_pos_of_mem ha
    rw [List.length_cons]; omega
/-- Where AppendSeq stands. -/
structure SeqS (w : World) (r : LoopState → Option Code → Loop) (st : LoopState) (v : Value) (pre : List Int) (X : World) : Prop where
  cb : X.heap[w.heap.size]? = some (.cells #[v] 22 (0, 0))
  own : X.ownsRow (w.heap.size + 3) 3 1 v pre.length (pre.map (Value.int .i64))
  df : X.heap[w.heap.size + 1]? = some (.deferred (some []))
  lp : X.heap[w.heap.size + 2]? = some (.loop (r st none))
  bl : Below w.heap.size w X
theorem SeqS.turn {w : World} {r : LoopState → Option Code → Loop} {st : LoopState} {v : Value} {pre : List Int} {X : World} (h : SeqS w r st v pre X) (st' : LoopState) : SeqS w r st' v pre (X.putObj (w.heap.size + 2) (.loop (r st' none))) := by
  refine ⟨(World.putObj_heap_other (by omega)).trans h.cb, h.own.kept (grownBy_putObj' X _ _) ?_, (World.putObj_heap_other (by omega)).trans h.df, World.putObj_heap_same (Array.getElem?_eq_some_iff.1 h.lp).1, below_put h.bl (by omega) h.bl.size _⟩
  cases e : v.ownBlock with
  | none => exact .inl rfl
  | some g => exact .inr fun e' => by injection e' with e'; have := (h.own.lt g e).1; omega
theorem SeqS.abides {w : World} {r : LoopState → Option Code → Loop} : AbidesFrom (w.heap.size + 3) (fun pre X => ∃ v, SeqS w r .ready v pre X) := by
  rintro pre X Y row ⟨v, h⟩ hg hrow
  have keep : ∀ k, k < w.heap.size + 3 → k < X.heap.size → Y.heap[k]? = X.heap[k]? := fun k hk hx => hg.block k hx fun e => by have := (hrow k e.symm).1; omega
  have hl := (Array.getElem?_eq_some_iff.1 h.lp).1
  refine ⟨v, (keep _ (by omega) (by omega)).trans h.cb, h.own.kept hg ?_, (keep _ (by omega) (by omega)).trans h.df, (keep _ (by omega) (by omega)).trans h.lp, h.bl.grown hg h.bl.size fun k e => by have := (hrow k e).1; omega⟩
  cases e : v.ownBlock with
  | none => exact .inl rfl
  | some g =>
    refine .inr fun e' => ?_
    obtain ⟨_, o, ho, hw⟩ := hrow g e'.symm
    rcases h.own.2 with ⟨hv, _⟩ | ⟨g2, cap, cur, hv, _, hgb, _⟩
    · rw [hv] at e; cases e
    · rw [hv] at e
      simp only [Value.ownBlock, Option.some.injEq] at e
      subst e
      rw [hgb] at ho
      cases ho
      cases hw
theorem int_info : (Tryd.prog.info? 3).map (fun i => (i.zero, i.size, i.bytes)) = some (some (.int .i64 0), 1, 8) := by kernel_rfl
/-- One number more. -/
theorem SeqS.more {w : World} {r : LoopState → Option Code → Loop} {v v' : Value} {pre : List Int} {x : Int} {Y W1 : World} {o : Obj} (h : SeqS w r .busy v pre Y) (hg : (Y.alloc o).grownBy W1 v.ownBlock)
    (hown : W1.ownsRow (w.heap.size + 3) 3 1 v' (pre.length + 1) (pre.map (Value.int .i64) ++ [.int .i64 x])) :
    W1.cell? ⟨w.heap.size, 0, none⟩ = some v ∧ W1.frozen? ⟨w.heap.size, 0, none⟩ = false ∧ SeqS w r .busy v' (pre ++ [x]) (W1.setCell ⟨w.heap.size, 0, none⟩ v') ∧ KeepsWalks Y (W1.setCell ⟨w.heap.size, 0, none⟩ v') := by
  have hl := (Array.getElem?_eq_some_iff.1 h.lp).1
  have hlow : ∀ k, v.ownBlock = some k → w.heap.size + 3 ≤ k := fun k e => (h.own.lt k e).1
  have keep : ∀ k, k < w.heap.size + 3 → W1.heap[k]? = Y.heap[k]? := fun k hk => by
    rw [hg.block k (by simp; omega) fun e => by have := hlow k e.symm; omega, Below.heap_alloc _ _ _ (by omega)]
  have keep2 : ∀ k, k ≠ w.heap.size → (W1.setCell ⟨w.heap.size, 0, none⟩ v').heap[k]? = W1.heap[k]? := fun k hk => Below.heap_setCell _ _ _ k hk
  have hcb : W1.heap[w.heap.size]? = some (.cells #[v] 22 (0, 0)) := (keep _ (by omega)).trans h.cb
  have hb1 : Below w.heap.size w W1 := (h.bl.alloc h.bl.size _).grown hg (by simp; exact Nat.le_succ_of_le h.bl.size) fun k e => by have := hlow k e; omega
  have hlw1 : w.heap.size < W1.heap.size := (Array.getElem?_eq_some_iff.1 hcb).1
  refine ⟨cell_of_one hcb, free_of_one hcb, ⟨?_, ?_, ?_, ?_, ?_⟩, ?_⟩
  · show (W1.heap.modify w.heap.size _)[w.heap.size]? = _
    rw [Array.getElem?_modify, if_pos rfl, hcb]; rfl
  · rw [List.length_append, List.map_append]
    refine hown.kept (grown_cell W1 w.heap.size 0 v') (.inr fun e => ?_)
    have := (hown.lt _ e).1
    omega
  · rw [keep2 _ (by omega), keep _ (by omega)]; exact h.df
  · rw [keep2 _ (by omega), keep _ (by omega)]; exact h.lp
  · exact hb1.grown (grown_cell W1 w.heap.size 0 v') hb1.size fun k e => by injection e with e; omega
  · refine ((KeepsWalks.alloc Y o).trans (KeepsWalks.of_grownBy hg fun j ob e ho => ?_)).trans (KeepsWalks.setCell _ _ _)
    rcases h.own.2 with ⟨hv, _⟩ | ⟨g, cap, cur, hv, _, hgb, _⟩
    · rw [hv] at e; cases e
    · rw [hv] at e
      simp only [Value.ownBlock, Option.some.injEq] at e
      subst e
      rw [Below.heap_alloc _ _ _ (Array.getElem?_eq_some_iff.1 hgb).1, hgb] at ho
      cases ho
      rfl
theorem ui_of_row {w : World} {base : Nat} {p : Option Addr} {n c : Nat} {xs : List Int} (h : w.ownsRow base 3 1 (.slice p n c) n (xs.map (Value.int .i64))) (hx : ∀ x ∈ xs, -9223372036854775808 ≤ x ∧ x ≤ 9223372036854775807) : UI w p n xs := by
  have hl : xs.length = n := by have := h.1; simpa using this
  rcases h.2 with ⟨hv, hn⟩ | ⟨g, cap, cur, hv, _, hg, hnc, _, hcs, htake⟩
  · have : xs = [] := List.eq_nil_of_length_eq_zero (by omega)
    exact ⟨hl, .inl (by rw [this]; rfl), hx⟩
  · injection hv with hp _ _
    subst hp
    refine ⟨hl, .inr ⟨g, 0, rfl, fun i hi => ?_⟩, hx⟩
    have hi' : i < xs.length := by simpa using hi
    have := h.cellAt i (by omega)
    simpa [List.getElem?_eq_getElem hi'] using this
/-- A slice's cells lie in a block from B on. -/
def FarP (B : Nat) (p : Option Addr) : Prop := ∀ a, p = some a → B ≤ a.block
end Go.Proofs.YtkolilbebkkpdaaDoor
