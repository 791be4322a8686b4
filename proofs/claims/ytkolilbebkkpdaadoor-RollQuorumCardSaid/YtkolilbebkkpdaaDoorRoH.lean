/-
  Rolls: the keys of a map (2I): the iterator over them, AppendSeq, Collect, Sorted.
-/
import Derived.Test.YtkolilbebkkpdaaDoorRoG
import Derived.Test.YtkolilbebkkpdaaDoorChSort
import Derived.Sort.OwnSortedInts
namespace Go.Proofs.YtkolilbebkkpdaaDoor
open Go.RowKit Go.Shelf Go.Maps Go.Sort
attribute [local go_sem] Oper.semAt_some

theorem KeysF_I (mb : Option Nat) (w : World) :
    Calls Tryd.prog 46 #[.map mb] w fun e w' =>
      e = .returned (.func (.func 75) #[] #[.pointer (some ⟨w.heap.size, 0, none⟩)]) ∧ w.alloc (.cells #[.map mb] 78) = w' := by
  go_enter Tryd.func46, Tryd.ntmps46
  go_wp2
  go_ret
  exact ⟨rfl, rfl⟩
set_option maxRecDepth 100000 in
set_option maxHeartbeats 2000000 in
theorem keys_I (l Bm b : Nat) (ks : List (Int × Value)) (J : List Int → World → Prop) (W : World) (hJ : AbidesFrom W.heap.size J)
    (hY : ∀ pre x Y, J pre Y → i64ok x → pre.length < ks.length → YieldAt Fence.wide 3 Tryd.prog l #[.int .i64 x] Y fun e Z => e = .returned (.bool true) ∧ J (pre ++ [x]) Z ∧ KeepsWalks Y Z)
    (hm : W.cell? ⟨Bm, 0, none⟩ = some (.map (some b))) (hown : MapV KI W b ks) (h0 : J [] W) :
    CallsIn Fence.wide 4 Tryd.prog 75 #[.func (.yield l) #[] #[], .pointer (some ⟨Bm, 0, none⟩)] W fun e W' => (∃ v, e = .returned v) ∧ ∃ all : List Int, all.Perm (ks.map Prod.fst) ∧ J all W' := by
  refine callsIn_of_wp Tryd.func75 rfl trivial ?_ rfl
  simp only [Tryd.ntmps75, List.size_toArray, List.length_cons, List.length_nil, Nat.reduceAdd, Nat.reduceSub, Array.replicate_succ, Array.replicate_zero, List.push_toArray, List.append_toArray, List.nil_append, List.cons_append]
  gi_wp2_with (first
    | (gi_at_range; refine wpIn_rng (K := KI) _ rfl _ 78 rfl 4 Tryd.underlying78 b ks rfl hown ?_; intro w0 hrg0 hg0)
    | gi_in)
  go_frame
  gi_loopw [3] (fun _ wr => ∃ (pre : List Int), Rng KI wr b W.heap.size ks pre ∧ J pre wr)
    (fun _ wr => wr.rangeLeft b W.heap.size)
  case atStart => exact ⟨[], hrg0, hJ [] W w0 none h0 hg0 (fun r e => by cases e)⟩
  case round =>
    obtain ⟨pre, hrg, hJs⟩ := hrel
    gi_wp2_with (first
      | (gi_at_next; refine wpIn_nxt (K := KI) _ rfl _ rfl b W.heap.size ks pre rfl hrg ?_ ?_)
      | gi_in)
    · intro hperm
      gi_wp2
      go_end0
      exact ⟨⟨_, rfl⟩, pre, hperm, hJs⟩
    · intro x v w2 hmem hnp hok hrg2 hlt hg2 hen
      have hJ2 : J pre w2 := hJ pre wr w2 (some W.heap.size) hJs hg2 (fun r e => by cases e; exact ⟨Nat.le_refl _, hrg.iter_walk⟩)
      have hfew : pre.length < ks.length := by
        obtain ⟨k1, k2⟩ := hrg2.perm_of
        have := nodup_leI (pre ++ [x]) (ks.map Prod.fst) k1 k2
        rw [List.length_append, List.length_map] at this
        exact this
      obtain ⟨fn, tmps, assign, body, hy, hR⟩ := hY pre x w2 hJ2 hok hfew
      replace hen : (Instr.entry (.pointer (some ⟨W.heap.size, 0, none⟩))).run Tryd.prog w2 = .ok (.tuple #[.int .i64 x, v]) w2 := hen
      gi_wp2
      refine hR.mono ?_
      rintro e W3 ⟨rfl, hJ3, hk3⟩
      gi_wp2
      have hrg3 := hrg2.of_walks hk3
      go_roundw
      case rel => exact ⟨pre ++ [x], hrg3.1, hJ3⟩
      case measure => rw [hrg3.2]; exact hlt
set_option maxRecDepth 100000 in
set_option maxHeartbeats 4000000 in
theorem appseq_I (Bm b : Nat) (ks : List (Int × Value)) (w : World) (hm : w.cell? ⟨Bm, 0, none⟩ = some (.map (some b))) (hown : MapV KI w b ks) (hk : ks.length ≤ 1000) :
    CallsIn Fence.wide 5 Tryd.prog 84 #[.slice none 0 0, .func (.func 75) #[] #[.pointer (some ⟨Bm, 0, none⟩)]] w fun e w' => ∃ (v : Value) (all : List Int), e = .returned v ∧ all.Perm (ks.map Prod.fst) ∧ w'.ownsRow w.heap.size 3 1 v all.length (all.map (Value.int .i64)) ∧ Below w.heap.size w w' := by
  have hBl := cell_lt hm
  refine callsIn_of_wp_marks Tryd.func84 rfl trivial ?_ rfl
  simp only [Tryd.ntmps84, List.size_toArray, List.length_cons, List.length_nil, Nat.reduceAdd, Nat.reduceSub, Array.replicate_succ, Array.replicate_zero, List.push_toArray, List.append_toArray, List.nil_append, List.cons_append]
  gi_wp2
  obtain ⟨W0, hW0⟩ : ∃ W0, w.alloc (.cells #[.slice none 0 0] 22) = W0 := ⟨_, rfl⟩
  have hs : W0.heap.size = w.heap.size + 1 := by rw [← hW0]; simp
  have hb0 : Below w.heap.size w W0 := by rw [← hW0]; exact Below.lit w _
  have c0 : W0.heap[w.heap.size]? = some (.cells #[.slice none 0 0] 22 (0, 0)) := by rw [← hW0, World.alloc_heap_new]
  rw [hW0]
  refine range_enter rfl (by omega) 75 #[.pointer (some ⟨Bm, 0, none⟩)] rfl trivial (enters_of Tryd.func75 (by kernel_rfl) rfl) ?_
  intro fn hfn
  rw [hs]
  generalize hr : lrec fn _ _ _ _ _ = r
  obtain ⟨W1, hW1⟩ : ∃ W1, ((W0.alloc (.deferred (some []))).alloc (.loop (r .ready none))) = W1 := ⟨_, rfl⟩
  have hz1 : W1.heap.size = w.heap.size + 3 := by rw [← hW1]; simp; omega
  have hb01 : Below W0.heap.size W0 W1 := by rw [← hW1]; exact (Below.lit W0 _).alloc (by simp) _
  have hb1 : Below w.heap.size w W1 := hb0.trans (hb01.mono hb0.size)
  have hS : SeqS w r .ready (.slice none 0 0) [] W1 := by
    refine ⟨(hb01.block _ (by omega)).trans c0, World.ownsRow_nil W1 _ _ 1, ?_, ?_, hb1⟩
    · rw [← hW1, Below.heap_alloc _ _ _ (by simp; omega)]; have := World.alloc_heap_new W0 (.deferred (some [])); rwa [hs] at this
    · rw [← hW1]; have := World.alloc_heap_new (W0.alloc (.deferred (some []))) (.loop (r .ready none)); rwa [World.size_alloc, hs] at this
  have hb1' := Below.mono hb1 (Nat.le_refl _)
  have hm1 : W1.cell? ⟨Bm, 0, none⟩ = some (.map (some b)) := (hb1.cell hBl).trans hm
  have hown1 : MapV KI W1 b ks := hown.below hb1'
  rw [hW1]
  clear hW1 hW0 hb0 c0 hb01
  refine (keys_I (w.heap.size + 2) Bm b ks (fun pre X => ∃ v, SeqS w r .ready v pre X) W1 (by rw [hz1]; exact SeqS.abides) (fun pre x Y hJ hx hlen => ?round) hm1 hown1 ⟨_, hS⟩).mono ?fin
  case round =>
    obtain ⟨v, hSY⟩ := hJ
    have hlp := hSY.lp
    have hlt := (Array.getElem?_eq_some_iff.1 hlp).1
    have hkw1 : KeepsWalks Y (Y.putObj (w.heap.size + 2) (.loop (r .busy none))) := KeepsWalks.putObj _ hlp rfl
    rw [← hr] at hlp
    refine yield_round trivial hlp rfl { tmps := #[.slice none 0 0, .func (.func 75) #[] #[.pointer (some ⟨Bm, 0, none⟩)], .pointer (some ⟨w.heap.size, 0, none⟩), undef, .slice none 0 0, .int .i64 x, .func (.func 75) #[] #[.pointer (some ⟨Bm, 0, none⟩)], .int .i64 x, undef, undef, undef, undef, undef], defers := [] } ?assign ?body
    case assign =>
      intro K hK
      gi_wp2
      exact hK
    case body =>
      rw [hr]
      have hSb := hSY.turn .busy
      generalize Y.putObj (w.heap.size + 2) (.loop (r .busy none)) = Y2 at *
      have hlb := hSb.lp
      have hlt2 := (Array.getElem?_eq_some_iff.1 hlb).1
      obtain ⟨pv, cv, hvv⟩ : ∃ p c, v = .slice p pre.length c := by
        rcases hSb.own.2 with ⟨hv, h0⟩ | ⟨g, cap, cur, hv, _⟩
        · exact ⟨none, 0, by rw [hv, h0]⟩
        · exact ⟨_, _, hv⟩
      subst hvv
      have hcb := cell_of_one hSb.cb
      obtain ⟨i0, hi, hz0, hz1', hz2⟩ := info_parts int_info
      replace hSb := Lib.hid hSb
      clear hSY hr hS hlp hlb hx hlt
      gi_wp2_with (gi_at_builtin; refine wpListIn_append_own _ rfl _ _ 22 rfl (w.heap.size + 3) 3 i0 (.int .i64 0) 1 8 Tryd.underlying22 hi hz0 hz1' hz2 rfl (by decide) _ _ _ rfl (hSb.out.own.alloc _) ⟨Y2.heap.size, 0, none⟩ 1 1 [.int .i64 x] rfl rfl (cell_one_new _ _ _) (by simp [Value.oneCell']) (by unfold maxLen; omega) (by omega) (by simp; omega) ?_; intro v' w1 hown' hgrow _; obtain ⟨g', cap', rfl⟩ := ownsRow_succ hown'; obtain ⟨hc1, hf1, hSn, hkn⟩ := hSb.out.more hgrow hown')
      have hT := hSn.turn .ready
      exact ⟨hSn.lp, rfl, ⟨_, hT⟩, (hkw1.trans hkn).trans (KeepsWalks.putObj _ hSn.lp rfl)⟩
  case fin =>
    rintro e X ⟨hv, all, hnd, v, hSX⟩
    refine ⟨hv, .inl ⟨hSX.lp, ?_⟩⟩
    have hSe := hSX.turn .exhausted
    clear hSX hr hS hv
    generalize X.putObj (w.heap.size + 2) (.loop (r .exhausted none)) = X2 at *
    have hcb := cell_of_one hSe.cb
    have hdf := hSe.df
    have hbl := hSe.bl
    obtain ⟨pv, cv, hvv⟩ : ∃ p c, v = .slice p all.length c := by
      rcases hSe.own.2 with ⟨hv, h0⟩ | ⟨g, cap, cur, hv, _⟩
      · exact ⟨none, 0, by rw [hv, h0]⟩
      · exact ⟨_, _, hv⟩
    subst hvv
    gi_wp2
    refine ⟨by simp, .inl ⟨_, _, rfl, run_takeDeferred hdf, ?_⟩⟩
    refine ⟨_, results_tmp rfl _ _ _, _, all, rfl, hnd, ?_, hbl.grown (grownBy_putObj' X2 _ _) hbl.size (fun k e => by cases e; omega)⟩
    have hlow := hSe.own
    refine World.ownsRow.kept (w := X2) ?_ (grownBy_putObj' X2 _ _) (.inr fun e => ?_)
    · refine ⟨hlow.1, ?_⟩
      rcases hlow.2 with h1 | ⟨g, cap, cur, h1, h2, h3⟩
      · exact .inl h1
      · exact .inr ⟨g, cap, cur, h1, by omega, h3⟩
    · have := (hlow.lt _ e).1
      omega
set_option maxRecDepth 100000 in
theorem Collect_I (Bm b : Nat) (ks : List (Int × Value)) (w : World) (hm : w.cell? ⟨Bm, 0, none⟩ = some (.map (some b))) (hown : MapV KI w b ks) (hk : ks.length ≤ 1000) :
    Calls Tryd.prog 74 #[.func (.func 75) #[] #[.pointer (some ⟨Bm, 0, none⟩)]] w fun e w' => ∃ (v : Value) (all : List Int), e = .returned v ∧ all.Perm (ks.map Prod.fst) ∧ w'.ownsRow w.heap.size 3 1 v all.length (all.map (Value.int .i64)) ∧ Below w.heap.size w w' := by
  go_enter Tryd.func74, Tryd.ntmps74
  go_wp2_with fail
  refine (callsIn_wide.1 (appseq_I Bm b ks w hm hown hk)).mono ?_
  rintro e w' ⟨v, all, rfl, h⟩
  go_wp2_with fail
  go_ret
  exact ⟨v, all, rfl, h⟩
set_option maxRecDepth 100000 in
set_option maxHeartbeats 2000000 in
theorem Sorted_I (Bm b : Nat) (ks : List (Int × Value)) (w : World) (hm : w.cell? ⟨Bm, 0, none⟩ = some (.map (some b))) (hown : MapV KI w b ks) (hk : ks.length ≤ 1000) (hb : ∀ x ∈ ks.map Prod.fst, i64ok x) :
    Calls Tryd.prog 45 #[.func (.func 75) #[] #[.pointer (some ⟨Bm, 0, none⟩)]] w fun e w' => ∃ (p : Option Addr) (c : Nat), e = .returned (.slice p ks.length c) ∧ UI w' p ks.length (sortI (ks.map Prod.fst)) ∧ FarP w.heap.size p ∧ Below w.heap.size w w' := by
  go_enter Tryd.func45, Tryd.ntmps45
  go_wp2_with fail
  refine (Collect_I Bm b ks w hm hown hk).mono ?_
  rintro e w1 ⟨v, all, rfl, hnd, hrow, hb1⟩
  have hs : (all.mergeSort fun x y => decide (x ≤ y)) = sortI (ks.map Prod.fst) := sortI_congr hnd
  have hlen : all.length = ks.length := by rw [hnd.length_eq, List.length_map]
  have hbs : ∀ x ∈ sortI (ks.map Prod.fst), -9223372036854775808 ≤ x ∧ x ≤ 9223372036854775807 := fun x hx => hb x ((sortI_perm _).mem_iff.1 hx)
  have hln2 : (sortI (ks.map Prod.fst)).length = ks.length := by rw [sortI_len, List.length_map]
  replace hbs := Lib.hid hbs
  replace hln2 := Lib.hid hln2
  replace hnd := Lib.hid hnd
  rcases hrow.2 with ⟨rfl, h0⟩ | ⟨g, cap, cur, rfl, hg, hgb, hnc, hcap, hcs, htake⟩
  · clear hrow
    go_wp2_with fail
    refine (Tryd.slices_Sort_int_none _ _ _).mono ?_
    rintro e w2 ⟨rfl, rfl⟩
    go_wp2_with fail
    go_ret
    rw [← hlen, h0]
    have hnil : sortI (ks.map Prod.fst) = [] := by
      apply List.eq_nil_of_length_eq_zero
      rw [hln2.out, ← hlen, h0]
    rw [hnil]
    exact ⟨_, _, rfl, ⟨rfl, .inl rfl, fun _ h => by cases h⟩, fun _ h => (by cases h), hb1⟩
  · have hlt := (Array.getElem?_eq_some_iff.1 hgb).1
    rw [Nat.mul_one] at htake
    have hH := holds_of_blockI hgb htake
    have hsz : all.length < 4611686018427387904 := by unfold maxLen at hcap; omega
    clear hrow
    replace hlen := Lib.hid hlen
    replace hs := Lib.hid hs
    go_wp2_with fail
    refine (Tryd.slices_Sort_int g 0 cap all w1 hH hlt hsz).mono ?_
    rintro e w2 ⟨rfl, n, os, rfl⟩
    rw [hs.out]
    have hrow2 := ownsRow_sortedI (w := w1) (base := w.heap.size) (n := n) (os := os) (ts := sortI (ks.map Prod.fst)) (ss := all) (by rw [hln2.out, hlen.out]) hg hgb hnc hcap hcs
    have hb2 : Below w.heap.size w (grow (putRow (Value.int .i64) (Sort.ahead w1 n) g 0 (sortI (ks.map Prod.fst)).toArray) os) := hb1.grown (grownBy_sortedI _) hb1.size fun k e => by injection e with e; omega
    generalize grow (putRow (Value.int .i64) (Sort.ahead w1 n) g 0 (sortI (ks.map Prod.fst)).toArray) os = w2 at *
    have hu := ui_of_row hrow2 hbs.out
    rw [hlen.out] at hu
    go_wp2_with fail
    go_ret
    rw [hlen.out]
    exact ⟨_, _, rfl, hu, fun a h => (by injection h with h; rw [← h]; exact hg), hb2⟩
end Go.Proofs.YtkolilbebkkpdaaDoor
