/-
  Rolls: a device goes, or comes.
-/
import Derived.Test.YtkolilbebkkpdaaDoorRoD
import Derived.RegionTactic
import Derived.ChangeAlike
namespace Go.Proofs.YtkolilbebkkpdaaDoor
open Go.RowKit Go.Maps

/-! Sets as maps. -/
theorem keys_setV (l : List Int) : (setV l).map Prod.fst = l := by
  unfold setV
  rw [List.map_map]
  exact List.map_id' l
theorem lk_setV (l : List Int) (a : Int) : lk (setV l) a = if a ∈ l then some (.bool true) else none := by
  unfold setV
  induction l with
  | nil => rfl
  | cons x l ih =>
    rw [List.map_cons, lk_cons, ih]
    by_cases h : x = a
    · subst h; simp
    · have : a ≠ x := fun e => h e.symm
      simp [h, this]
theorem dropL_setV (l : List Int) (d : Int) : dropL (setV l) d = setV (l.filter fun e => decide (e ≠ d)) := by
  unfold dropL setV
  rw [List.filter_map]
  rfl
theorem setV_congr {w : World} {b : Nat} {l l' : List Int} (h : MapV KI w b (setV l)) (hn : l'.Nodup) (hm : ∀ a, a ∈ l' ↔ a ∈ l) : MapV KI w b (setV l') :=
  h.congr (by rw [keys_setV]; exact hn) fun a => by
    rw [lk_setV, lk_setV]
    by_cases e : a ∈ l
    · rw [if_pos e, if_pos ((hm a).2 e)]
    · rw [if_neg e, if_neg (fun h2 => e ((hm a).1 h2))]
theorem setV_put {w : World} {b : Nat} {l : List Int} {d : Int} (h : MapV KI w b (putL (setV l) d (.bool true))) (hd : d ∉ l) : MapV KI w b (setV (l ++ [d])) := by
  have e : putL (setV l) d (.bool true) = setV (l ++ [d]) := by
    unfold putL
    rw [lk_setV, if_neg hd]
    unfold setV
    simp
  rwa [e] at h
theorem dropL_memV (l : List MRec) (n : Int) : dropL (memV l) n = memV (l.filter fun x => decide (x.n ≠ n)) := by
  unfold dropL memV
  rw [List.filter_map]
  rfl
/-! Blocks apart. -/
structure Lay.Ne (y : Lay) : Prop where
  r : y.r ≠ y.c ∧ y.r ≠ y.i ∧ y.r ≠ y.w ∧ y.r ≠ y.m ∧ ∀ x ∈ y.l, y.r ∉ x.foot
  c : y.c ≠ y.i ∧ y.c ≠ y.w ∧ y.c ≠ y.m ∧ ∀ x ∈ y.l, y.c ∉ x.foot
  i : y.i ≠ y.w ∧ y.i ≠ y.m ∧ ∀ x ∈ y.l, y.i ∉ x.foot
  w : y.w ≠ y.m ∧ ∀ x ∈ y.l, y.w ∉ x.foot
  m : ∀ x ∈ y.l, y.m ∉ x.foot
  l : (y.l.flatMap MRec.foot).Nodup
theorem Lay.ne {y : Lay} (h : y.foot.Nodup) : y.Ne := by
  unfold Lay.foot at h
  simp only [List.nodup_cons, List.mem_cons, List.mem_flatMap, not_or, not_exists, not_and] at h
  obtain ⟨⟨a1, a2, a3, a4, a5⟩, ⟨b1, b2, b3, b4⟩, ⟨c1, c2, c3⟩, ⟨d1, d2⟩, e1, f⟩ := h
  exact ⟨⟨a1, a2, a3, a4, a5⟩, ⟨b1, b2, b3, b4⟩, ⟨c1, c2, c3⟩, ⟨d1, d2⟩, e1, f⟩
/-- But for block b all blocks lie as they did. -/
structure But (w w' : World) (b : Nat) : Prop where
  os : w'.os = w.os
  tape : w'.tape = w.tape
  out : w'.output = w.output
  size : w.heap.size ≤ w'.heap.size
  blk : ∀ i, i < w.heap.size → i ≠ b → w'.heap[i]? = w.heap[i]?
theorem But.of_turned {w w' : World} {b : Nat} (h : w.mapTurned w' b) : But w w' b := by
  obtain ⟨h1, h2, h3, h4, h5⟩ := mapTurned_block h
  exact ⟨h2, h3, h4, by omega, fun i _ hi => h5 i hi⟩
theorem But.of_grown {w w' : World} {b : Nat} (h : w.grownBy w' (some b)) : But w w' b := ⟨h.os, h.tape, h.output, h.size, fun i hi hb => h.block i hi fun e => by injection e with e; exact hb e⟩
theorem But.turn {w w' : World} {b : Nat} {F F' : List Nat} (h : But w w' b) (hb : b ∈ F) (hF : ∀ i ∈ F', i ∈ F) : Turn w w' F F' :=
  ⟨h.os, h.tape, h.out, h.size, fun i hi hf => h.blk i hi fun e => hf (e ▸ hb), fun i hi => .inl (hF i hi)⟩
theorem MbAt.but {w w' : World} {x : MRec} {b : Nat} (h : MbAt w x) (hw : But w w' b) (hb : b ∉ x.foot) : MbAt w' x :=
  h.keep hw.size fun i hi => hw.blk i (h.lt i hi) fun e => hb (e ▸ hi)
/-- The set of those that are in has turned. -/
theorem RollAt.turn_i {w w' : World} {y : Lay} {s : RS} (h : RollAt w y s) (hw : But w w' y.i) {ins' gone' : List Int} (hi : MapV KI w' y.i (setV ins')) (hn : (ins' ++ gone').Nodup) (hm : ∀ a, a ∈ ins' ++ gone' ↔ a ∈ s.ins ++ s.gone) :
    RollAt w' y ⟨ins', gone', s.ms, s.bk⟩ := by
  have k := Lay.ne h.nd
  refine ⟨(hw.blk _ (blk_lt h.blk) k.r.2.1).trans h.blk, h.cards.keep (hw.blk _ h.cards.lt k.c.1), hi, setV_congr (h.was.keep (hw.blk _ h.was.lt k.i.1.symm)) hn hm, h.ms.keep (hw.blk _ h.ms.lt k.i.2.1.symm), fun x hx => (h.mb x hx).but hw (k.i.2.2 x hx), h.eq, h.nd⟩
/-- The members' map has turned: some are there no more. -/
theorem foot_sub {l l' : List MRec} (h : l'.Sublist l) : (l'.flatMap MRec.foot).Sublist (l.flatMap MRec.foot) := by
  induction h with
  | slnil => exact List.Sublist.refl _
  | cons x _ ih => rw [List.flatMap_cons]; exact ih.trans (List.sublist_append_right _ _)
  | cons_cons x _ ih => rw [List.flatMap_cons, List.flatMap_cons]; exact (List.Sublist.refl _).append ih
theorem Lay.sub {y : Lay} {l' : List MRec} (h : l'.Sublist y.l) : (Lay.foot ⟨y.r, y.c, y.i, y.w, y.m, l'⟩).Sublist y.foot := by
  unfold Lay.foot
  exact ((((foot_sub h).cons_cons _).cons_cons _).cons_cons _).cons_cons _ |>.cons_cons _
theorem RollAt.turn_m {w w' : World} {y : Lay} {s : RS} (h : RollAt w y s) (hw : But w w' y.m) {l' : List MRec} (hl : l'.Sublist y.l) (hm : MapV KI w' y.m (memV l')) : RollAt w' ⟨y.r, y.c, y.i, y.w, y.m, l'⟩ ⟨s.ins, s.gone, l'.map (fun x => (x.n, x.m)), s.bk⟩ := by
  have k := Lay.ne h.nd
  refine ⟨(hw.blk _ (blk_lt h.blk) k.r.2.2.2.1).trans h.blk, h.cards.keep (hw.blk _ h.cards.lt k.c.2.2.1), h.ins.keep (hw.blk _ h.ins.lt k.i.2.1), h.was.keep (hw.blk _ h.was.lt k.w.1), hm, fun x hx => (h.mb x (hl.subset hx)).but hw (k.m x (hl.subset hx)), rfl, h.nd.sublist (Lay.sub hl)⟩
section
variable {α : Type} [DecidableEq α] {K : KeyT α} (w : World) {ops : Array Oper} {rest : List Oper} {o : Oper} {a : Act} {Q : Exit → Act → World → Prop}
set_option maxRecDepth 100000 in
/-- delete(m, k). -/
theorem wp_del (hg : o.guard = none) (m x : Operand) (t kt : TypeId) (hop : o.op = Op.call { callee := Callee.builtin Builtin.delete, args := #[m, x], argTypes := #[t, kt] }) (hkt : kt = K.kt) (e : TypeId) (ht : Tryd.prog.underlying t = some (.map K.kt e)) (b : Nat) (ks : List (α × Value))
    (hm : a.eval m = .map (some b)) (h : MapV K w b ks) (k : α) (hx : a.eval x = K.val k) (hk : K.ok k) (hK : ∀ w', MapV K w' b (dropL ks k) → But w w' b → w'.heap.size = w.heap.size → wpList Tryd.prog ops Q rest (a.put o.dst (.tuple #[])) w') : wpList Tryd.prog ops Q (o :: rest) a w := by
  refine wpList_plain hg fun K' hK' => ?_
  obtain ⟨w', hrun, r1, r2⟩ := h.del ht hk o.type
  unfold Oper.wp
  subst hkt
  simp [execOp, hop, resolve, invoke, builtin, hm, hx, hrun, Result.andThen]
  exact hK' _ _ (hK w' r1 (But.of_turned r2) (mapTurned_block r2).1)
set_option maxRecDepth 100000 in
/-- m[k] = v. -/
theorem wp_upd (hg : o.guard = none) (m x v : Operand) (t : TypeId) (hop : o.op = Op.mapUpdate t m x v) (e : TypeId) (ht : Tryd.prog.underlying t = some (.map K.kt e)) (b : Nat) (ks : List (α × Value)) (hl : ks.length ≤ 1000000)
    (hm : a.eval m = .map (some b)) (h : MapV K w b ks) (k : α) (val : Value) (hx : a.eval x = K.val k) (hv : a.eval v = val) (hk : K.ok k) (hK : ∀ w', MapV K w' b (putL ks k val) → But w w' b → w'.heap.size = w.heap.size → wpList Tryd.prog ops Q rest (a.put o.dst undef) w') : wpList Tryd.prog ops Q (o :: rest) a w := by
  refine wpList_plain hg fun K' hK' => ?_
  obtain ⟨w', hrun, r1, r2⟩ := h.put ht hl hk val
  unfold Oper.wp
  simp [execOp, hop, hm, hx, hv, hrun, Result.andThen]
  exact hK' _ _ (hK w' r1 (But.of_turned r2) (mapTurned_block r2).1)
end
theorem RollAt.u {w : World} {y : Lay} {s : RS} (h : RollAt w y s) : (s.ins ++ s.gone).Nodup := by
  have := h.was.nd
  rwa [keys_setV] at this
/-- Nobody of a member's devices is among some. -/
def NoneIs (m : Int) (pre : List Int) : Prop := ∀ e ∈ pre, ofD e ≠ m
theorem NoneIs.snoc {m : Int} {pre : List Int} {d : Int} (h : NoneIs m pre) (hd : ofD d ≠ m) : NoneIs m (pre ++ [d]) := fun e he => by
  rcases List.mem_append.1 he with he | he
  · exact h e he
  · rw [List.mem_singleton] at he; rw [he]; exact hd
theorem swap_mem {a b : List Int} {d : Int} (hd : d ∈ a) (e : Int) : e ∈ (a.filter fun e => decide (e ≠ d)) ++ (b ++ [d]) ↔ e ∈ a ++ b := by
  simp only [List.mem_append, List.mem_filter, decide_eq_true_eq, List.mem_singleton]
  constructor
  · rintro (⟨h, _⟩ | h | h)
    · exact .inl h
    · exact .inr h
    · exact .inl (h ▸ hd)
  · rintro (h | h)
    · by_cases e2 : e = d
      · exact .inr (.inr e2)
      · exact .inl ⟨h, e2⟩
    · exact .inr (.inl h)
theorem swap_nodup {a b : List Int} {d : Int} (h : (a ++ b).Nodup) (hd : d ∈ a) : ((a.filter fun e => decide (e ≠ d)) ++ (b ++ [d])).Nodup := by
  obtain ⟨h1, h2, h3⟩ := List.nodup_append.1 h
  refine List.nodup_append.2 ⟨h1.filter _, List.nodup_append.2 ⟨h2, by simp, fun x hx y hy e => ?_⟩, fun x hx y hy e => ?_⟩
  · rw [List.mem_singleton] at hy
    exact h3 d hd x hx (by rw [e, hy])
  · rw [List.mem_filter, decide_eq_true_eq] at hx
    rcases List.mem_append.1 hy with hy | hy
    · exact h3 x hx.1 y hy e
    · rw [List.mem_singleton] at hy
      exact hx.2 (by rw [e, hy])
def GoesTo (w : World) (y : Lay) (s : RS) (w' : World) : Prop := ∃ y', RollAt w' y' s ∧ y'.r = y.r ∧ Turn w w' y.foot y'.foot
set_option maxRecDepth 100000 in
set_option maxHeartbeats 4000000 in
theorem goes_any (w : World) (y : Lay) (s : RS) (d : Int) (hR : RollAt w y s) (hd : i64ok d) :
    Calls Tryd.prog 40 #[.pointer (some ⟨y.r, 0, none⟩), .int .i64 d] w fun e w' => e = .returned (.tuple #[]) ∧ GoesTo w y (s.goes d) w' := by
  have hl := hR.inn hd
  have h1 := hR.c1
  by_cases hin : d ∈ s.ins
  · have ein : s.inB d = true := decide_eq_true hin
    rw [ein] at hl
    have hnd := hR.u
    have hdz := (List.nodup_append.1 hnd)
    go_enter Tryd.func40, Tryd.ntmps40
    go_wp2_with (first
      | (at_delete; refine wp_del (K := KI) _ rfl _ _ 78 3 rfl rfl 4 Tryd.underlying78 y.i (setV s.ins) rfl hR.ins d rfl hd ?_; intro w1 hM1 hB1 hz1)
      | fail)
    obtain ⟨ins', hins⟩ : ∃ ins', Hid ((s.ins.filter fun e => decide (e ≠ d)) = ins') := ⟨_, Lib.hid rfl⟩
    have hR1 : RollAt w1 y ⟨s.ins.filter fun e => decide (e ≠ d), s.gone ++ [d], s.ms, s.bk⟩ := hR.turn_i hB1 (by rw [← dropL_setV]; exact hM1) (swap_nodup hnd hin) (swap_mem hin)
    rw [hins.out] at hR1
    have hin' : ∀ e, e ∈ ins' ↔ e ∈ s.ins ∧ e ≠ d := fun e => by rw [← hins.out, List.mem_filter, decide_eq_true_eq]
    replace hin' := Lib.hid hin'
    have hT1 : Turn w w1 y.foot y.foot := hB1.turn (by unfold Lay.foot; simp) fun _ h => h
    refine (of_any w1 y _ d hR1 hd).mono ?_
    rintro e w' ⟨rfl, rfl⟩
    have h1 := hR1.c1
    obtain ⟨m, hm⟩ : ∃ m, Hid (ofD d = m) := ⟨_, Lib.hid rfl⟩
    have hmb := ofD_bd d
    rw [hm.out] at hmb ⊢
    have hmok : i64ok m := by unfold i64ok; omega
    clear hl ein hB1 hM1 hz1 hdz
    go_wp2_with (first
      | (at_range; refine wp_rng (K := KI) _ rfl _ 78 rfl 4 Tryd.underlying78 y.i _ rfl hR1.ins ?_; intro w2 hrg2 hb2)
      | fail)
    (try go_frame)
    go_loopw [5] (fun _ wr => ∃ pre, Rng KI wr y.i w1.heap.size (setV ins') pre ∧ NoneIs m pre ∧ Below w1.heap.size w1 wr)
      (fun _ wr => wr.rangeLeft y.i w1.heap.size)
    case atStart => exact ⟨[], hrg2, fun _ h => (by cases h), hb2⟩
    case round =>
      clear hrg2 hb2
      obtain ⟨pre, hrg, hpre, hb⟩ := hrel
      have hRr := hR1.below hb
      have hTr := hT1.trans (Turn.of_below (F := y.foot) hb)
      have h3 := hRr.c3
      go_wp2_with (first
        | (at_next; refine wp_nxt (K := KI) _ rfl _ rfl y.i w1.heap.size _ pre rfl hrg ?_ ?_)
        | fail)
      · intro hperm
        have hno : Hid (¬ ∃ e ∈ s.ins, e ≠ d ∧ ofD e = ofD d) := Lib.hid (by
          rintro ⟨e, he, hne, ho⟩
          rw [keys_setV] at hperm
          exact hpre e (hperm.mem_iff.2 ((hin'.out e).2 ⟨he, hne⟩)) (by rw [ho]; exact hm.out))
        go_wp2_with (first
          | (at_delete; refine wp_del (K := KI) _ rfl _ _ 79 3 rfl rfl 82 Tryd.underlying79 y.m (memV y.l) rfl hRr.ms m rfl hmok ?_; intro w3 hM3 hB3 hz3)
          | fail)
        go_returns
        refine ⟨rfl, ⟨y.r, y.c, y.i, y.w, y.m, y.l.filter fun x => decide (x.n ≠ m)⟩, ?_, rfl, hTr.trans (hB3.turn (by unfold Lay.foot; simp) fun i hi => (Lay.sub (y := y) (List.filter_sublist (p := fun x : MRec => decide (x.n ≠ m)))).subset hi)⟩
        have hr := hRr.turn_m hB3 (l' := y.l.filter fun x => decide (x.n ≠ m)) List.filter_sublist (by rw [← dropL_memV]; exact hM3)
        have e : s.goes d = ⟨ins', s.gone ++ [d], (y.l.filter fun x => decide (x.n ≠ m)).map (fun x => (x.n, x.m)), s.bk⟩ := by
          unfold RS.goes
          rw [if_pos hin, if_neg hno.out, ← hR.eq, hm.out, hins.out]
          congr 1
          unfold dropL
          rw [List.filter_map]
          rfl
        rw [e]
        exact hr
      · intro n v w2 hmem hnp hok hrg2 hlt hgr hen
        have hn : n ∈ ins' := by
          have := List.mem_map_of_mem (f := Prod.fst) hmem
          rwa [keys_setV] at this
        have hb2 : Below w1.heap.size w1 w2 := hb.grown hgr hb.size fun k e => by injection e with e; omega
        have hR2 := hR1.below hb2
        by_cases ho : ofD n = m
        · have hyes : Hid (∃ e ∈ s.ins, e ≠ d ∧ ofD e = ofD d) := Lib.hid (by
            rw [hin'.out] at hn
            exact ⟨n, hn.1, hn.2, by rw [ho]; exact hm.out.symm⟩)
          have t : (ofD n == m) = true := beq_iff_eq.2 ho
          clear ho
          go_wp2_with (go_at_call 37; refine (of_any _ y _ n hR2 hok).mono ?_; rintro e w' ⟨rfl, rfl⟩)
          go_returns
          refine ⟨rfl, y, ?_, rfl, hT1.trans (Turn.of_below hb2)⟩
          have e : s.goes d = ⟨ins', s.gone ++ [d], s.ms, s.bk⟩ := by
            unfold RS.goes
            rw [if_pos hin, if_pos hyes.out, hins.out]
          rw [e]
          exact hR2
        · have t : (ofD n == m) = false := beq_eq_false_iff_ne.2 ho
          have hpre2 := hpre.snoc ho
          clear ho
          go_wp2_with (go_at_call 37; refine (of_any _ y _ n hR2 hok).mono ?_; rintro e w' ⟨rfl, rfl⟩)
          go_roundw
          case rel => exact ⟨pre ++ [n], hrg2, hpre2, hb2⟩
          case measure => exact hlt
  · have ein : s.inB d = false := decide_eq_false hin
    rw [ein] at hl
    have hs : s.goes d = s := by unfold RS.goes; rw [if_neg hin]
    rw [hs]
    replace ein := Lib.hid ein
    go_enter Tryd.func40, Tryd.ntmps40
    go_wp2_with fail
    go_returns
    exact ⟨rfl, y, hR, rfl, Turn.refl _ _⟩
end Go.Proofs.YtkolilbebkkpdaaDoor
