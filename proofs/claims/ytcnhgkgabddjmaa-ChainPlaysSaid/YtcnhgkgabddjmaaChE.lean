/-
  Chains of keys (5): what numbers are kept, rising.
-/
import Derived.Test.YtcnhgkgabddjmaaChD
import Derived.Test.YtcnhgkgabddjmaaChSort
namespace Go.Proofs.Ytcnhgkgabddjmaa
open Go.RowKit Go.Shelf Go.Maps
attribute [local go_sem] Oper.semAt_some

/-- Where AppendSeq stands. -/
structure SeqS (w : World) (r : LoopState → Option Code → Loop) (st : LoopState) (v : Value) (pre : List Int) (X : World) : Prop where
  cb : X.heap[w.heap.size]? = some (.cells #[v] 23 (0, 0))
  own : X.ownsRow (w.heap.size + 3) 3 1 v pre.length (pre.map (Value.int .i64))
  df : X.heap[w.heap.size + 1]? = some (.deferred (some []))
  lp : X.heap[w.heap.size + 2]? = some (.loop (r st none))
  bl : Below w.heap.size w X
theorem SeqS.turn {w : World} {r : LoopState → Option Code → Loop} {st : LoopState} {v : Value} {pre : List Int} {X : World} (h : SeqS w r st v pre X) (st' : LoopState) : SeqS w r st' v pre (X.putObj (w.heap.size + 2) (.loop (r st' none))) := by
  refine ⟨(World.putObj_heap_other (by omega)).trans h.cb, h.own.kept (grownBy_putObj' X _ _) ?_, (World.putObj_heap_other (by omega)).trans h.df, World.putObj_heap_same (Array.getElem?_eq_some_iff.1 h.lp).1, below_put h.bl (by omega) h.bl.size _⟩
  cases e : v.ownBlock with
  | none => exact .inl rfl
  | some g => exact .inr fun e' => by injection e' with e'; have := (h.own.lt g e).1; omega
theorem SeqS.abides {w : World} {r : LoopState → Option Code → Loop} : AbidesFrom (w.heap.size + 3) (fun pre X => ∃ v, SeqS w r .ready v pre X) := by
  rintro pre X Y row ⟨v, h⟩ hg hrow
  have keep : ∀ k, k < w.heap.size + 3 → k < X.heap.size → Y.heap[k]? = X.heap[k]? := fun k hk hx => hg.block k hx fun e => by have := (hrow k e.symm).1; omega
  have hl := (Array.getElem?_eq_some_iff.1 h.lp).1
  refine ⟨v, (keep _ (by omega) (by omega)).trans h.cb, h.own.kept hg ?_, (keep _ (by omega) (by omega)).trans h.df, (keep _ (by omega) (by omega)).trans h.lp, h.bl.grown hg h.bl.size fun k e => by have := (hrow k e).1; omega⟩
  cases e : v.ownBlock with
  | none => exact .inl rfl
  | some g =>
    refine .inr fun e' => ?_
    obtain ⟨_, o, ho, hw⟩ := hrow g e'.symm
    rcases h.own.2 with ⟨hv, _⟩ | ⟨g2, cap, cur, hv, _, hgb, _⟩
    · rw [hv] at e; cases e
    · rw [hv] at e
      simp only [Value.ownBlock, Option.some.injEq] at e
      subst e
      rw [hgb] at ho
      cases ho
      cases hw
theorem int_info : (Try.prog.info? 3).map (fun i => (i.zero, i.size, i.bytes)) = some (some (.int .i64 0), 1, 8) := by kernel_rfl
/-- One number more. -/
theorem SeqS.more {w : World} {r : LoopState → Option Code → Loop} {v v' : Value} {pre : List Int} {x : Int} {Y W1 : World} {o : Obj} (h : SeqS w r .busy v pre Y) (hg : (Y.alloc o).grownBy W1 v.ownBlock)
    (hown : W1.ownsRow (w.heap.size + 3) 3 1 v' (pre.length + 1) (pre.map (Value.int .i64) ++ [.int .i64 x])) :
    W1.cell? ⟨w.heap.size, 0, none⟩ = some v ∧ W1.frozen? ⟨w.heap.size, 0, none⟩ = false ∧ SeqS w r .busy v' (pre ++ [x]) (W1.setCell ⟨w.heap.size, 0, none⟩ v') ∧ KeepsWalks Y (W1.setCell ⟨w.heap.size, 0, none⟩ v') := by
  have hl := (Array.getElem?_eq_some_iff.1 h.lp).1
  have hlow : ∀ k, v.ownBlock = some k → w.heap.size + 3 ≤ k := fun k e => (h.own.lt k e).1
  have keep : ∀ k, k < w.heap.size + 3 → W1.heap[k]? = Y.heap[k]? := fun k hk => by
    rw [hg.block k (by simp; omega) fun e => by have := hlow k e.symm; omega, Below.heap_alloc _ _ _ (by omega)]
  have keep2 : ∀ k, k ≠ w.heap.size → (W1.setCell ⟨w.heap.size, 0, none⟩ v').heap[k]? = W1.heap[k]? := fun k hk => Below.heap_setCell _ _ _ k hk
  have hcb : W1.heap[w.heap.size]? = some (.cells #[v] 23 (0, 0)) := (keep _ (by omega)).trans h.cb
  have hb1 : Below w.heap.size w W1 := (h.bl.alloc h.bl.size _).grown hg (by simp; exact Nat.le_succ_of_le h.bl.size) fun k e => by have := hlow k e; omega
  have hlw1 : w.heap.size < W1.heap.size := (Array.getElem?_eq_some_iff.1 hcb).1
  refine ⟨cell_of_one hcb, free_of_one hcb, ⟨?_, ?_, ?_, ?_, ?_⟩, ?_⟩
  · show (W1.heap.modify w.heap.size _)[w.heap.size]? = _
    rw [Array.getElem?_modify, if_pos rfl, hcb]; rfl
  · rw [List.length_append, List.map_append]
    refine hown.kept (grown_cell W1 w.heap.size 0 v') (.inr fun e => ?_)
    have := (hown.lt _ e).1
    omega
  · rw [keep2 _ (by omega), keep _ (by omega)]; exact h.df
  · rw [keep2 _ (by omega), keep _ (by omega)]; exact h.lp
  · exact hb1.grown (grown_cell W1 w.heap.size 0 v') hb1.size fun k e => by injection e with e; omega
  · refine ((KeepsWalks.alloc Y o).trans (KeepsWalks.of_grownBy hg fun j ob e ho => ?_)).trans (KeepsWalks.setCell _ _ _)
    rcases h.own.2 with ⟨hv, _⟩ | ⟨g, cap, cur, hv, _, hgb, _⟩
    · rw [hv] at e; cases e
    · rw [hv] at e
      simp only [Value.ownBlock, Option.some.injEq] at e
      subst e
      rw [Below.heap_alloc _ _ _ (Array.getElem?_eq_some_iff.1 hgb).1, hgb] at ho
      cases ho
      rfl
set_option maxRecDepth 100000 in
set_option maxHeartbeats 4000000 in
theorem appseq_in (Bm b nn : Nat) (ks : List (Int × Int)) (D : DataW Unit) (w : World) (hm : w.cell? ⟨Bm, 0, none⟩ = some (.map (some b))) (hown : w.ownsMap Try.prog 3 (plainElem Try.prog 22) b nn D) (hD : KeptD ks D) (hk : ks.length ≤ 1000) :
    CallsIn Fence.wide 5 Try.prog 63 #[.slice none 0 0, .func (.func 53) #[] #[.pointer (some ⟨Bm, 0, none⟩)]] w fun e w' => ∃ (v : Value) (all : List Int), e = .returned v ∧ all.Nodup ∧ (∀ x, x ∈ all ↔ (valK ks x).isSome = true) ∧ w'.ownsRow w.heap.size 3 1 v all.length (all.map (Value.int .i64)) ∧ Below w.heap.size w w' := by
  have hBl := cell_lt hm
  refine callsIn_of_wp_marks Try.func63 rfl trivial ?_ rfl
  simp only [Try.ntmps63, List.size_toArray, List.length_cons, List.length_nil, Nat.reduceAdd, Nat.reduceSub, Array.replicate_succ, Array.replicate_zero, List.push_toArray, List.append_toArray, List.nil_append, List.cons_append]
  gi_wp2
  obtain ⟨W0, hW0⟩ : ∃ W0, w.alloc (.cells #[.slice none 0 0] 23) = W0 := ⟨_, rfl⟩
  have hs : W0.heap.size = w.heap.size + 1 := by rw [← hW0]; simp
  have hb0 : Below w.heap.size w W0 := by rw [← hW0]; exact Below.lit w _
  have c0 : W0.heap[w.heap.size]? = some (.cells #[.slice none 0 0] 23 (0, 0)) := by rw [← hW0, World.alloc_heap_new]
  rw [hW0]
  refine range_enter rfl (by omega) 53 #[.pointer (some ⟨Bm, 0, none⟩)] rfl trivial (enters_of Try.func53 (by kernel_rfl) rfl) ?_
  intro fn hfn
  rw [hs]
  generalize hr : lrec fn _ _ _ _ _ = r
  obtain ⟨W1, hW1⟩ : ∃ W1, ((W0.alloc (.deferred (some []))).alloc (.loop (r .ready none))) = W1 := ⟨_, rfl⟩
  have hz1 : W1.heap.size = w.heap.size + 3 := by rw [← hW1]; simp; omega
  have hb01 : Below W0.heap.size W0 W1 := by rw [← hW1]; exact (Below.lit W0 _).alloc (by simp) _
  have hb1 : Below w.heap.size w W1 := hb0.trans (hb01.mono hb0.size)
  have hS : SeqS w r .ready (.slice none 0 0) [] W1 := by
    refine ⟨(hb01.block _ (by omega)).trans c0, World.ownsRow_nil W1 _ _ 1, ?_, ?_, hb1⟩
    · rw [← hW1, Below.heap_alloc _ _ _ (by simp; omega)]; have := World.alloc_heap_new W0 (.deferred (some [])); rwa [hs] at this
    · rw [← hW1]; have := World.alloc_heap_new (W0.alloc (.deferred (some []))) (.loop (r .ready none)); rwa [World.size_alloc, hs] at this
  have hm1 : W1.cell? ⟨Bm, 0, none⟩ = some (.map (some b)) := (hb1.cell hBl).trans hm
  have hown1 : W1.ownsMap Try.prog 3 (plainElem Try.prog 22) b nn D := hown.kept (row := none) ⟨hb1.os, hb1.tape, hb1.output, hb1.size, fun i hi _ => hb1.block i hi⟩ (by simp)
  rw [hW1]
  clear hW1 hW0 hb0 c0 hb01
  refine (keys_in (w.heap.size + 2) Bm b nn ks D (fun pre X => ∃ v, SeqS w r .ready v pre X) W1 (by rw [hz1]; exact SeqS.abides) (fun pre x Y hJ hx hx0 hx1 hlen => ?round) hm1 hown1 hD ⟨_, hS⟩).mono ?fin
  case round =>
    obtain ⟨v, hSY⟩ := hJ
    have hlp := hSY.lp
    have hlt := (Array.getElem?_eq_some_iff.1 hlp).1
    have hkw1 : KeepsWalks Y (Y.putObj (w.heap.size + 2) (.loop (r .busy none))) := KeepsWalks.putObj _ hlp rfl
    rw [← hr] at hlp
    refine yield_round trivial hlp rfl { tmps := #[.slice none 0 0, .func (.func 53) #[] #[.pointer (some ⟨Bm, 0, none⟩)], .pointer (some ⟨w.heap.size, 0, none⟩), undef, .slice none 0 0, .int .i64 x, .func (.func 53) #[] #[.pointer (some ⟨Bm, 0, none⟩)], .int .i64 x, undef, undef, undef, undef, undef], defers := [] } ?assign ?body
    case assign =>
      intro K hK
      gi_wp2
      exact hK
    case body =>
      rw [hr]
      have hSb := hSY.turn .busy
      generalize Y.putObj (w.heap.size + 2) (.loop (r .busy none)) = Y2 at *
      have hlb := hSb.lp
      have hlt2 := (Array.getElem?_eq_some_iff.1 hlb).1
      obtain ⟨pv, cv, hvv⟩ : ∃ p c, v = .slice p pre.length c := by
        rcases hSb.own.2 with ⟨hv, h0⟩ | ⟨g, cap, cur, hv, _⟩
        · exact ⟨none, 0, by rw [hv, h0]⟩
        · exact ⟨_, _, hv⟩
      subst hvv
      have hcb := cell_of_one hSb.cb
      obtain ⟨i0, hi, hz0, hz1', hz2⟩ := info_parts int_info
      replace hSb := Lib.hid hSb
      clear hSY hr hS hlp hlb hx hlt
      gi_wp2_with (gi_at_builtin; refine wpListIn_append_own _ rfl _ _ 23 rfl (w.heap.size + 3) 3 i0 (.int .i64 0) 1 8 Try.underlying23 hi hz0 hz1' hz2 rfl (by decide) _ _ _ rfl (hSb.out.own.alloc _) ⟨Y2.heap.size, 0, none⟩ 1 1 [.int .i64 x] rfl rfl (cell_one_new _ _ _) (by simp [Value.oneCell']) (by unfold maxLen; omega) (by omega) (by simp; omega) ?_; intro v' w1 hown' hgrow _; obtain ⟨g', cap', rfl⟩ := ownsRow_succ hown'; obtain ⟨hc1, hf1, hSn, hkn⟩ := hSb.out.more hgrow hown')
      have hT := hSn.turn .ready
      exact ⟨hSn.lp, rfl, ⟨_, hT⟩, (hkw1.trans hkn).trans (KeepsWalks.putObj _ hSn.lp rfl)⟩
  case fin =>
    rintro e X ⟨hv, all, hnd, hall, v, hSX⟩
    refine ⟨hv, .inl ⟨hSX.lp, ?_⟩⟩
    have hSe := hSX.turn .exhausted
    clear hSX hr hS hv
    generalize X.putObj (w.heap.size + 2) (.loop (r .exhausted none)) = X2 at *
    have hcb := cell_of_one hSe.cb
    have hdf := hSe.df
    have hbl := hSe.bl
    obtain ⟨pv, cv, hvv⟩ : ∃ p c, v = .slice p all.length c := by
      rcases hSe.own.2 with ⟨hv, h0⟩ | ⟨g, cap, cur, hv, _⟩
      · exact ⟨none, 0, by rw [hv, h0]⟩
      · exact ⟨_, _, hv⟩
    subst hvv
    gi_wp2
    refine ⟨by simp, .inl ⟨_, _, rfl, run_takeDeferred hdf, ?_⟩⟩
    refine ⟨_, results_tmp rfl _ _ _, _, all, rfl, hnd, hall, ?_, hbl.grown (grownBy_putObj' X2 _ _) hbl.size (fun k e => by cases e; omega)⟩
    have hlow := hSe.own
    refine World.ownsRow.kept (w := X2) ?_ (grownBy_putObj' X2 _ _) (.inr fun e => ?_)
    · refine ⟨hlow.1, ?_⟩
      rcases hlow.2 with h1 | ⟨g, cap, cur, h1, h2, h3⟩
      · exact .inl h1
      · exact .inr ⟨g, cap, cur, h1, by omega, h3⟩
    · have := (hlow.lt _ e).1
      omega
end Go.Proofs.Ytcnhgkgabddjmaa
