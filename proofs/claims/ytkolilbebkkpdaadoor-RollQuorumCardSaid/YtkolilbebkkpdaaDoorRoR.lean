/-
  A range over a map; two names, the same or not.
-/
import Derived.Test.YtkolilbebkkpdaaDoorRoC
import Derived.Laws.StructEq
namespace Go.Proofs.YtkolilbebkkpdaaDoor
open Go.RowKit Go.Maps

section
variable {α : Type} [DecidableEq α] {K : KeyT α}
/-- A range over the map in block b; its iterator lies in block r; pre: the keys that have come. -/
def Rng (K : KeyT α) (w : World) (b r : Nat) (ks : List (α × Value)) (pre : List α) : Prop :=
  ∃ n D left cnt, w.ranges Tryd.prog K.kt hR b r n D left cnt ∧ Reads K D ks ∧ Come K ks left pre
theorem Rng.keep {w w' : World} {b r : Nat} {ks : List (α × Value)} {pre : List α} (h : Rng K w b r ks pre) (hb : w'.heap[b]? = w.heap[b]?) (hr : w'.heap[r]? = w.heap[r]?) : Rng K w' b r ks pre ∧ w'.rangeLeft b r = w.rangeLeft b r := by
  obtain ⟨n, D, left, cnt, ⟨es, clock, since, seen, c0, h1, h2, h3, h4, h5, h6⟩, h7⟩ := h
  refine ⟨⟨n, D, left, cnt, ⟨es, clock, since, seen, c0, hb.trans h1, h2, h3, h4, hr.trans h5, h6⟩, h7⟩, ?_⟩
  unfold World.rangeLeft
  rw [hb, hr]
theorem Rng.lt {w : World} {b r : Nat} {ks : List (α × Value)} {pre : List α} (h : Rng K w b r ks pre) : b < w.heap.size ∧ r < w.heap.size := by
  obtain ⟨n, D, left, cnt, h1, _⟩ := h
  exact ⟨h1.owns.lt, h1.lt⟩
theorem Rng.below {w w' : World} {b r : Nat} {ks : List (α × Value)} {pre : List α} (h : Rng K w b r ks pre) (hb : Below w.heap.size w w') : Rng K w' b r ks pre ∧ w'.rangeLeft b r = w.rangeLeft b r :=
  h.keep (hb.block _ h.lt.1) (hb.block _ h.lt.2)
theorem Rng.map {w : World} {b r : Nat} {ks : List (α × Value)} {pre : List α} (h : Rng K w b r ks pre) : MapV K w b ks := by
  obtain ⟨n, D, left, cnt, h1, h2, _⟩ := h
  exact MapV.of h1.owns h2
theorem Rng.perm_of {w : World} {b r : Nat} {ks : List (α × Value)} {pre : List α} (h : Rng K w b r ks pre) : pre.Nodup ∧ ∀ a ∈ pre, a ∈ ks.map Prod.fst := by
  obtain ⟨n, D, left, cnt, h1, h2, h3⟩ := h
  exact ⟨h3.nd, h3.mem⟩
variable (w : World) {ops : Array Oper} {rest : List Oper} {o : Oper} {a : Act} {Q : Exit → Act → World → Prop}
set_option maxRecDepth 100000 in
/-- range m. -/
theorem wp_rng (hg : o.guard = none) (m : Operand) (t : TypeId) (hop : o.op = Op.range t m) (e : TypeId) (ht : Tryd.prog.underlying t = some (.map K.kt e)) (b : Nat) (ks : List (α × Value)) (hm : a.eval m = .map (some b)) (hown : MapV K w b ks)
    (hK : ∀ w', Rng K w' b w.heap.size ks [] → Below w.heap.size w w' → wpList Tryd.prog ops Q rest (a.put o.dst (.pointer (some ⟨w.heap.size, 0, none⟩))) w') : wpList Tryd.prog ops Q (o :: rest) a w := by
  obtain ⟨n, D, h1, h2, _⟩ := hown
  refine wpList_range_own w hg m t hop K.kt e K.keyed ht hR b n D hm h1 ?_
  intro w' hrg hgr hs
  exact hK w' ⟨n, D, _, _, hrg, h2, Come.start h2⟩ ⟨hgr.os, hgr.tape, hgr.output, hgr.size, fun i hi => hgr.block i hi (by simp)⟩
set_option maxRecDepth 100000 in
/-- The next entry. -/
theorem wp_nxt (hg : o.guard = none) (it : Operand) (hop : o.op = Op.next it false) (b r : Nat) (ks : List (α × Value)) (pre : List α) (hit : a.eval it = .pointer (some ⟨r, 0, none⟩)) (h : Rng K w b r ks pre)
    (hDone : pre.Perm (ks.map Prod.fst) → wpList Tryd.prog ops Q rest (a.put o.dst (.tuple #[.bool false])) w)
    (hMore : ∀ (x : α) (v : Value) (w' : World), (x, v) ∈ ks → x ∉ pre → K.ok x → Rng K w' b r ks (pre ++ [x]) → w'.rangeLeft b r < w.rangeLeft b r → w.grownBy w' (some r) →
      (Instr.entry (.pointer (some ⟨r, 0, none⟩))).run Tryd.prog w' = .ok (.tuple #[K.val x, v]) w' → wpList Tryd.prog ops Q rest (a.put o.dst (.tuple #[.bool true, K.val x, v])) w') :
    wpList Tryd.prog ops Q (o :: rest) a w := by
  obtain ⟨n, D, left, cnt, hrg, h2, h3⟩ := h
  refine wpList_next_ranges (α := α) (β := Value) w hg it hop K.kt K.keyed hR K.val id (fun key kl hk => by obtain ⟨x, hx, _⟩ := K.all hk; exact ⟨x, hx⟩) (fun v y _ => ⟨v, rfl⟩) b r n D left cnt hit hrg (fun _ hl => hDone (h3.perm hl h2.ok h2.nd)) ?_
  intro x v kl y w' cnt' hkl hleft hv hat hrg' hlt hgr hsz hen
  obtain ⟨x', hx', hok⟩ := K.all hkl
  obtain rfl := K.inj hx'
  have hle : kl = K.lit x := by
    have := K.of hok
    rw [hkl] at this
    injection this
  subst hle
  have hl := h3.left x hok
  rw [hleft] at hl
  have hl2 := hl.symm
  rw [Bool.and_eq_true, decide_eq_true_eq, decide_eq_true_eq] at hl2
  unfold hR at hv
  injection hv with hv
  have hv2 := h2.at_ x hok .nil
  rw [hat, ← hv] at hv2
  have hmem : (x, v) ∈ ks := by
    cases e : lk ks x with
    | none => rw [e] at hv2; cases hv2
    | some u =>
      rw [e] at hv2
      injection hv2 with hv2
      have : v = u := hv2
      rw [this]
      exact lk_mem e
  exact hMore x v w' hmem hl2.2 hok ⟨n, D, _, cnt', hrg', h2, h3.step hok hleft⟩ (by rw [hrg'.left_eq, hrg.left_eq]; exact hlt) hgr hen
end
def idV (i : Idn) : Value := .agg #[.int .i64 i.b, .int .i64 i.s, .int .u64 i.u]
theorem id_stood : Tryd.prog.stoodInHeld 34 = false := by kernel_rfl
theorem id_guard : Tryd.prog.eqGuardType Tryd.prog.depth 34 = false := by kernel_rfl
theorem eqF {P : Program} (w : World) (d : Nat) (xs ys : Array Value) (f : Field) (fs : List Field) {a b : Value} {r : Bool} (hn : f.name ≠ "_") (hx : (part f.type xs f.offset).run P w = .ok a w) (hy : (part f.type ys f.offset).run P w = .ok b w) (hr : (Op.equalIn d f.type a b).run P w = .ok r w) :
    (Op.eqFields d xs ys (f :: fs)).run P w = if r then (Op.eqFields d xs ys fs).run P w else .ok false w := by
  unfold Op.eqFields
  rw [if_pos hn]
  simp only [Sem.run_bind, hx, hy, hr, Result.andThen_ok]
  cases r
  · simp only [Bool.not_false, if_true, Sem.run_pure]; rfl
  · simp only [Bool.not_true, Bool.false_eq_true, if_false, if_true]
    cases fs <;> rfl
set_option maxRecDepth 100000 in
theorem id_eql (i j : Idn) (w : World) : (binOp .eql 34 (.agg #[.int .i64 i.b, .int .i64 i.s, .int .u64 i.u]) (.agg #[.int .i64 j.b, .int .i64 j.s, .int .u64 j.u])).run Tryd.prog w = .ok (.bool (decide (i = j))) w := by
  have hu : Tryd.prog.underlying 34 = some (.struct (Tryd.prog.fieldsOf 34)) := by kernel_rfl
  rw [run_eql_struct, run_equalIn_agg w 9999 _ _ _ hu id_stood]
  have p1 : ∀ x y z : Value, (part 3 #[x, y, z] 0).run Tryd.prog w = .ok x w := fun _ _ _ => by kernel_rfl
  have p2 : ∀ x y z : Value, (part 3 #[x, y, z] 1).run Tryd.prog w = .ok y w := fun _ _ _ => by kernel_rfl
  have p3 : ∀ x y z : Value, (part 32 #[x, y, z] 2).run Tryd.prog w = .ok z w := fun _ _ _ => by kernel_rfl
  obtain ⟨f1, f2, f3, hf, n1, n2, n3, t1, t2, t3, o1, o2, o3⟩ : ∃ f1 f2 f3 : Field, (Tryd.prog.fieldsOf 34).toList = [f1, f2, f3] ∧ f1.name ≠ "_" ∧ f2.name ≠ "_" ∧ f3.name ≠ "_" ∧ f1.type = 3 ∧ f2.type = 3 ∧ f3.type = 32 ∧ f1.offset = 0 ∧ f2.offset = 1 ∧ f3.offset = 2 := by
    simp only [Program.fieldsOf, Tryd.underlying34]
    exact ⟨_, _, _, rfl, by decide, by decide, by decide, rfl, rfl, rfl, rfl, rfl, rfl⟩
  rw [hf, eqF w 9999 _ _ f1 _ n1 (by rw [t1, o1]; exact p1 _ _ _) (by rw [t1, o1]; exact p1 _ _ _) (by rw [t1]; exact run_equalIn_int w 9998 3 .i64 .i64 _ _ Tryd.underlying3),
    eqF w 9999 _ _ f2 _ n2 (by rw [t2, o2]; exact p2 _ _ _) (by rw [t2, o2]; exact p2 _ _ _) (by rw [t2]; exact run_equalIn_int w 9998 3 .i64 .i64 _ _ Tryd.underlying3),
    eqF w 9999 _ _ f3 _ n3 (by rw [t3, o3]; exact p3 _ _ _) (by rw [t3, o3]; exact p3 _ _ _) (by rw [t3]; exact run_equalIn_int w 9998 32 .u64 .u64 _ _ Tryd.underlying32)]
  have hnil : (Op.eqFields 9999 #[.int .i64 i.b, .int .i64 i.s, .int .u64 i.u] #[.int .i64 j.b, .int .i64 j.s, .int .u64 j.u] []).run Tryd.prog w = .ok true w := rfl
  rw [hnil]
  obtain ⟨a, b, c⟩ := i
  obtain ⟨a', b', c'⟩ := j
  by_cases h1 : a = a'
  · by_cases h2 : b = b'
    · by_cases h3 : c = c'
      · subst h1; subst h2; subst h3
        simp [Result.andThen]
      · simp [h1, h2, h3, Result.andThen]
    · simp [h1, h2, Result.andThen]
  · simp [h1, Result.andThen]
end Go.Proofs.YtkolilbebkkpdaaDoor
