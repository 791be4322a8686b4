/-
  A roll of one's own among other memory; numbers' lists that grow beside it; operations in variables.
-/
import Derived.Test.YtkolilbebkkpdaaDoorRoLv
import Derived.Test.YtkolilbebkkpdaaDoorRoOps0
import Derived.Test.YtkolilbebkkpdaaDoorRoTl
namespace Go.Proofs.YtkolilbebkkpdaaDoor
open Go.RowKit Go.Maps Go.BigFrame

/-- A roll at r, of one's own: made behind w0 (B: its size). -/
structure SitW (B r : Nat) (w0 W : World) (y : Lay) (s : RS) : Prop where
  roll : RollAt W y s
  hr : y.r = r
  far : ∀ i ∈ y.foot, B ≤ i
  below : Below B w0 W
  asks : Asks W
  hB : B ≤ W.heap.size
/-- What lies in some blocks stays, and stays outside of the roll. -/
def Keeps (W W' : World) (y y' : Lay) : Prop := ∀ i, i < W.heap.size → i ∉ y.foot → W'.heap[i]? = W.heap[i]? ∧ i ∉ y'.foot
def NextR (B r : Nat) (w0 W : World) (y : Lay) (s' : RS) (W' : World) : Prop := ∃ y', SitW B r w0 W' y' s' ∧ W.heap.size ≤ W'.heap.size ∧ Keeps W W' y y'
section
variable {B r : Nat} {w0 W W' : World} {y : Lay} {s s' : RS}
theorem SitW.call (h : SitW B r w0 W y s) (hb : Below W.heap.size W W') : SitW B r w0 W' y s :=
  ⟨h.roll.below hb, h.hr, h.far, h.below.trans (hb.mono h.hB), h.asks.below hb, Nat.le_trans h.hB hb.size⟩
theorem SitW.doo (h : SitW B r w0 W y s) (h0 : 0 < B) (hG : GoesTo W y s' W') : NextR B r w0 W y s' W' := by
  obtain ⟨y', hR, hr, hT⟩ := hG
  have ho : ∀ i, i < W.heap.size → i ∉ y.foot → i ∉ y'.foot := fun i hi hn hf => by
    rcases hT.new i hf with h1 | h1
    · exact hn h1
    · omega
  refine ⟨y', ⟨hR, hr.trans h.hr, fun i hi => ?_, h.below.trans (hT.below h.far h.hB), h.asks.turn hT fun hz => by have := h.far 0 hz; omega, Nat.le_trans h.hB hT.size⟩, hT.size, fun i hi hn => ⟨hT.blk i hi hn, ho i hi hn⟩⟩
  rcases hT.new i hi with h1 | h1
  · exact h.far i h1
  · exact Nat.le_trans h.hB h1
theorem NextR.pre {Z : World} (hb : Below W.heap.size W Z) (h : NextR B r w0 Z y s' W') : NextR B r w0 W y s' W' := by
  obtain ⟨y', h1, h2, h3⟩ := h
  refine ⟨y', h1, Nat.le_trans hb.size h2, fun i hi hn => ?_⟩
  obtain ⟨k1, k2⟩ := h3 i (Nat.lt_of_lt_of_le hi hb.size) hn
  exact ⟨k1.trans (hb.block i hi), k2⟩
theorem SitW.low (h : SitW B r w0 W y s) {i : Nat} (hi : i < B) : i ∉ y.foot := fun hf => by have := h.far i hf; omega
theorem SitW.high (h : SitW B r w0 W y s) {i : Nat} (hi : W.heap.size ≤ i) : i ∉ y.foot := fun hf => by have := h.roll.lt i hf; omega
/-- One block that is not the roll's grows. -/
theorem SitW.grown (h : SitW B r w0 W y s) {row : Option Nat} (hg : W.grownBy W' row) (hr : ∀ g, row = some g → B ≤ g ∧ g ∉ y.foot) (h0 : 0 < B) : SitW B r w0 W' y s := by
  have hb : ∀ i, i < W.heap.size → (∀ g, row = some g → i ≠ g) → W'.heap[i]? = W.heap[i]? := fun i hi hn => hg.block i hi (fun e => hn i e.symm rfl)
  refine ⟨h.roll.keep hg.size fun i hi => hb i (h.roll.lt i hi) fun g e1 e2 => (hr g e1).2 (e2 ▸ hi), h.hr, h.far, h.below.trans ⟨hg.os, hg.tape, hg.output, hg.size, fun i hi => hb i (Nat.lt_of_lt_of_le hi h.hB) fun g e1 e2 => by have := (hr g e1).1; omega⟩, h.asks.block (hb 0 (cell_lt h.asks.a0) fun g e1 e2 => by have := (hr g e1).1; omega), Nat.le_trans h.hB hg.size⟩
theorem Do_w (h : SitW B r w0 W y s) (h0 : 0 < B) (o : OpI) (gp : Option Addr) (gc : Nat) (i : Idn) (k : Nat) (hk : k ≤ 1000) (hs : s.Ok k) (ho : o.Ok) (hU : UI W gp o.gs.length o.gs) (hne : o.k = 9 → o.gs ≠ []) :
    Calls Tryd.prog 13 #[.pointer (some ⟨r, 0, none⟩), .agg (opC o gp gc), .agg #[.int .i64 i.b, .int .i64 i.s, .int .u64 i.u]] W fun e w' => e = .returned (.tuple #[]) ∧ NextR B r w0 W y (s.act o i) w' := by
  have := Do_any W y s o gp gc i k hk h.roll hs ho hU hne
  rw [h.hr] at this
  exact this.mono fun e w' ⟨he, hG⟩ => ⟨he, h.doo h0 hG⟩
theorem May_w (h : SitW B r w0 W y s) (o : OpI) (gp : Option Addr) (gc : Nat) (i : Idn) (k : Nat) (hk : k ≤ 1000) (hs : s.Ok k) (ho : o.Ok) (hU : UI W gp o.gs.length o.gs) :
    Calls Tryd.prog 16 #[.pointer (some ⟨r, 0, none⟩), .agg (opC o gp gc), .agg #[.int .i64 i.b, .int .i64 i.s, .int .u64 i.u]] W fun e w' => e = .returned (.int .i64 (s.may o)) ∧ Below W.heap.size W w' := by
  have := May_any W y s o gp gc i k hk h.asks h.roll hs ho hU
  rwa [h.hr] at this
theorem Has_w (h : SitW B r w0 W y s) (d : Int) (hd : i64ok d) :
    Calls Tryd.prog 18 #[.pointer (some ⟨r, 0, none⟩), .int .i64 d] W fun e w' => e = .returned (.bool (s.inB d)) ∧ W = w' := by
  have := Has_any W y s d h.roll hd
  rwa [h.hr] at this
theorem Role_w (h : SitW B r w0 W y s) (n : Int) (hn : i64ok n) :
    Calls Tryd.prog 19 #[.pointer (some ⟨r, 0, none⟩), .int .i64 n] W fun e w' => e = .returned (.int .i64 (s.role n)) ∧ W = w' := by
  have := Role_any W y s n h.roll hn
  rwa [h.hr] at this
end
theorem OpAt.keep {w w' : World} {b : Nat} {o : OpI} {gp : Option Addr} {gc : Nat} {y y' : Lay} (h : OpAt w b o gp gc) (hk : Keeps w w' y y') (hb : b ∉ y.foot) : OpAt w' b o gp gc := h.block (hk b (cell_lt h.cb) hb).1
theorem OwnI.same {w w' : World} {base : Nat} {v : Value} {n : Nat} {xs : List Int} (h : OwnI w base v n xs) (hb : ∀ g, v.ownBlock = some g → w'.heap[g]? = w.heap[g]?) : OwnI w' base v n xs := by
  refine ⟨h.len, ⟨h.row.1, ?_⟩, h.bd⟩
  rcases h.row.2 with h1 | ⟨g, cap, cur, hv, hg, hgb, h2⟩
  · exact .inl h1
  · exact .inr ⟨g, cap, cur, hv, hg, (hb g (by rw [hv]; rfl)).trans hgb, h2⟩
/-- append(had, y), telling what grew. -/
theorem app_ig {ops : Array Oper} {rest : List Oper} {o : Oper} {a : Act} {Q : Exit → Act → World → Prop} (hgd : o.guard = none) (s x : Operand)
    (ho : o.op = .call { callee := .builtin .append, args := #[s, x], argTypes := #[22, 22] }) {base : Nat} {v : Value} {n : Nat} {xs : List Int} {W : World} {y : Int}
    (hown : OwnI W base v n xs) (hs : a.eval s = v) (hx : a.eval x = .slice (some ⟨W.heap.size, 0, none⟩) 1 1) (hy : -9223372036854775808 ≤ y ∧ y ≤ 9223372036854775807) (hn : n ≤ 8796093022208) (hbase : base ≤ W.heap.size)
    (h : ∀ v' w', OwnI w' base v' (n + 1) (xs ++ [y]) → W.grownBy w' v.ownBlock → (∀ g, v'.ownBlock = some g → v.ownBlock = some g ∨ W.heap.size ≤ g) → wpList Tryd.prog ops Q rest (a.put o.dst v') w') :
    wpList Tryd.prog ops Q (o :: rest) a (W.alloc (.cells #[.int .i64 y] 3)) := by
  obtain ⟨i0, hi, hz0, hz1, hz2⟩ := info_parts int_info
  have hb0 : Below W.heap.size W (W.alloc (.cells #[.int .i64 y] 3)) := (Below.refl _ _).alloc (Nat.le_refl _) _
  have hown' := hown.below hb0
  refine wpList_append_lies _ hgd s x 22 ho base 3 i0 (.int .i64 0) 1 8 Tryd.underlying22 hi hz0 hz1 hz2 rfl (by decide) v n _ hs hown'.row
    ⟨W.heap.size, 0, none⟩ 1 1 [.int .i64 y] hx rfl ?_ (by simp [Value.oneCell']) (by decide) (by unfold maxLen; omega) (by omega) (by simp; omega) _ rfl ?_
  · intro j u hj
    cases j with
    | zero =>
      simp only [List.getElem?_cons_zero, Option.some.injEq] at hj
      subst hj
      exact (Arr.new W 3 [.int .i64 y]).cell (i := 0) (by simp)
    | succ j => simp at hj
  · intro g cap w' h1 h2 h3 h4
    refine h _ w' ⟨by rw [List.length_append, hown.len]; rfl, by rw [List.map_append]; exact h1, ?_⟩ ⟨h2.os, h2.tape, h2.output, Nat.le_trans hb0.size h2.size, fun i hi hne => (h2.block i (Nat.lt_of_lt_of_le hi hb0.size) hne).trans (hb0.block i hi)⟩ ?_
    · intro z hz
      rcases List.mem_append.1 hz with hz | hz
      · exact hown.bd z hz
      · rw [List.mem_singleton] at hz; subst hz; exact hy
    · intro g' hg'
      injection hg' with hg'
      subst hg'
      rcases h3 with h3 | h3
      · exact .inl h3
      · right; rw [h3]; exact hb0.size
/-- A name in a variable. -/
def IdAt (w : World) (b : Nat) (i : Idn) : Prop := w.heap[b]? = some (.cells #[.int .i64 i.b, .int .i64 i.s, .int .u64 i.u] 34 (0, 0))
theorem IdAt.block {w w' : World} {b : Nat} {i : Idn} (h : IdAt w b i) (hb : w'.heap[b]? = w.heap[b]?) : IdAt w' b i := hb.trans h
theorem IdAt.lt {w : World} {b : Nat} {i : Idn} (h : IdAt w b i) : b < w.heap.size := blk_lt h
theorem IdAt.below {w w' : World} {b : Nat} {i : Idn} (h : IdAt w b i) (hb : Below w.heap.size w w') : IdAt w' b i := h.block (hb.block b h.lt)
theorem IdAt.made (w : World) (i : Idn) : IdAt (w.alloc (.cells #[.int .i64 i.b, .int .i64 i.s, .int .u64 i.u] 34)) w.heap.size i := by
  unfold IdAt
  rw [World.alloc_heap_new]
theorem run_buildOp {W : World} {ρ : Operand → Value} {o : Oper} {t : TypeId} {parts : Array (Nat × Operand)} (hop : o.op = .build t parts) {cells : Array Value} (hb : Tryd.prog.built t (parts.map fun (i, x) => (i, ρ x)).toList = some cells) : (execOp ρ o).run Tryd.prog W = .ok (.value (.agg cells)) W := by
  unfold execOp
  simp only [hop, Sem.run_bind, run_build W t _ cells hb, Result.andThen_ok]
  rfl
theorem wp_allocOp {o : Oper} {a : Act} {w : World} {K : Act → World → Prop} {Q : Exit → Act → World → Prop} (hop : o.op = .alloc 42) (h : K (a.put o.dst (.pointer (some ⟨w.heap.size, 0, none⟩))) (w.alloc (.cells (opC eZ none 0) 42))) : o.wp Tryd.prog a w K Q := by
  unfold Oper.wp
  have e : (execOp a.eval o).run Tryd.prog w = .ok (.value (.pointer (some ⟨w.heap.size, 0, none⟩))) (w.alloc (.cells (opC eZ none 0) 42)) := by
    unfold execOp
    simp only [hop, Sem.run_bind, run_allocOp, Result.andThen_ok, Sem.run_pure]
  rw [e]
  exact h
theorem wp_storeOp {o : Oper} {a : Act} {w : World} {K : Act → World → Prop} {Q : Exit → Act → World → Prop} (x y : Operand) (hop : o.op = .store 42 x y) {n : OpI} {gp : Option Addr} {gc : Nat} (hx : a.eval x = .pointer (some ⟨w.heap.size, 0, none⟩)) (hy : a.eval y = .agg (opC n gp gc))
    (h : K (a.put o.dst undef) (w.alloc (.cells (opC n gp gc) 42))) : o.wp Tryd.prog a (w.alloc (.cells (opC eZ none 0) 42)) K Q := by
  unfold Oper.wp
  have e : (execOp a.eval o).run Tryd.prog (w.alloc (.cells (opC eZ none 0) 42)) = .ok .skip (w.alloc (.cells (opC n gp gc) 42)) := by
    unfold execOp
    have := run_storeVar_new (P := Tryd.prog) w 42 (opC eZ none 0) (opC n gp gc) (opC_info n gp gc) rfl (opC_one n gp gc)
    simp only [hop, hx, hy, Instr.storeAt, Instr.sureAddr, Sem.run_bind, Sem.run_pure, Result.andThen_ok, this]
  rw [e]
  exact h
/-- A name loaded. -/
theorem run_loadId {W : World} {b : Nat} {i : Idn} {ρ : Operand → Value} {o : Oper} {x : Operand} (h : IdAt W b i) (hop : o.op = .load 34 x) (hx : ρ x = .pointer (some ⟨b, 0, none⟩)) : (execOp ρ o).run Tryd.prog W = .ok (.value (.agg #[.int .i64 i.b, .int .i64 i.s, .int .u64 i.u])) W := by
  have := run_loadVar_row (P := Tryd.prog) W b _ 34 #[.int .i64 i.b, .int .i64 i.s, .int .u64 i.u] _ _ h Tryd.underlying34 rfl (by kernel_rfl)
  unfold execOp
  simp only [hop, hx, Instr.loadAt, Instr.sureAddr, Sem.run_bind, Sem.run_pure, Result.andThen_ok, this]
theorem OpAt.free {w : World} {b : Nat} {o : OpI} {gp : Option Addr} {gc : Nat} (h : OpAt w b o gp gc) (i : Nat) : w.frozen? ⟨b, i, none⟩ = false := by
  unfold OpAt at h
  simp [World.frozen?, h]
/-- Another tick. -/
theorem OpAt.setA {w : World} {b : Nat} {o : OpI} {gp : Option Addr} {gc : Nat} (h : OpAt w b o gp gc) (x : Int) : OpAt (w.setCell ⟨b, 3, none⟩ (.int .i64 x)) b ⟨o.b, o.s, o.k, x, o.d, o.o, o.m, o.r, o.f, o.gs, o.n, o.t⟩ gp gc := by
  unfold OpAt at h ⊢
  unfold World.setCell
  show (w.heap.modify b _)[b]? = _
  rw [Array.getElem?_modify, if_pos rfl, h]
  rfl
theorem Name_w (o : OpI) (gp : Option Addr) (gc : Nat) (n : Int) (w : World) (hk : 0 ≤ o.k ∧ o.k ≤ 1000000) (hn : 0 ≤ n ∧ n ≤ 1000000) {b s u : Int} (hb : o.b = b) (hs : n + 1 = s) (hu : o.k = u) :
    Calls Tryd.prog 14 #[.agg (opC o gp gc), .int .i64 n] w fun e w' => e = .returned (.agg #[.int .i64 b, .int .i64 s, .int .u64 u]) ∧ Below w.heap.size w w' := by
  subst hb; subst hs; subst hu
  exact Name_any o gp gc n w hk hn
theorem quiet_mid {C : World → Prop} {a : Act} {p : Oper} {K : Act → Prop} {b k : Nat} {n : OpI} {gp : Option Addr} {gc : Nat} (x : Operand) (h : p.op = .load 42 x) (hx : a.eval x = .pointer (some ⟨b, k, none⟩)) (hO : ∀ w, C w → ∀ j u, (opC n gp gc)[j]? = some u → w.cell? ⟨b, k + j, none⟩ = some u) (hk : K (a.put p.dst (.agg (opC n gp gc)))) : p.quiet Tryd.prog a C K :=
  ⟨_, fun w hc => by
    unfold Oper.quietAt
    rw [run_loadO (hO w hc) h hx]
    exact ⟨rfl, rfl⟩, hk⟩
end Go.Proofs.YtkolilbebkkpdaaDoor
