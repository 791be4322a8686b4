/-
  Maps, by what stands at each key: one word for maps of any elements, and what an operation makes of it.
-/
import Derived.Test.YtkolilbebkkpdaaDoorProg
import Derived.Test.YtkolilbebkkpdaaDoorRoA
import Derived.Below
import Derived.Lib.Hide
import Derived.Carry
import Derived.OwnWalk
import Derived.Maps.OwnOps
import Derived.Maps.Views
import Derived.Maps.OwnSet
import Derived.Maps.RangeWalk
import Derived.WideKeyEntry
import Derived.DeepKeys4
namespace Go.Proofs.YtkolilbebkkpdaaDoor
open Go.RowKit Go.Maps Go.WideElems Go.MapKept Go.ChangeMaps

/-- An element is read as it is. -/
def hR (v : Value) : Option (DataW Value × List MemPlace) := some (.held v, [])
/-- Keys of a type, as a Lean type has them. -/
structure KeyT (α : Type) where
  kt : TypeId
  val : α → Value
  ok : α → Prop
  keyed : Keyed Tryd.prog kt
  key : ∀ {a}, ok a → ∃ l, keyOf Tryd.prog kt (val a) = some l
  inj : ∀ {a b}, val a = val b → a = b
  all : ∀ {v l}, keyOf Tryd.prog kt v = some l → ∃ a, v = val a ∧ ok a
theorem len_drop {α : Type} [DecidableEq α] {l : List α} (hn : l.Nodup) (a : α) : (l.filter fun x => decide (x ≠ a)).length + (if a ∈ l then 1 else 0) = l.length := by
  induction l with
  | nil => rfl
  | cons x l ih =>
    obtain ⟨h1, h2⟩ := List.nodup_cons.1 hn
    have := ih h2
    by_cases e : x = a
    · subst e
      rw [List.filter_cons_of_neg (by simp), if_pos (List.mem_cons_self ..), List.length_cons]
      rw [if_neg h1] at this
      omega
    · rw [List.filter_cons_of_pos (by simpa using e), List.length_cons, List.length_cons]
      by_cases e2 : a ∈ l
      · rw [if_pos (List.mem_cons_of_mem _ e2)]
        rw [if_pos e2] at this
        omega
      · rw [if_neg (fun h => (List.mem_cons.1 h).elim (fun h => e h.symm) e2)]
        rw [if_neg e2] at this
        omega
section
variable {α : Type} (K : KeyT α)
noncomputable def KeyT.lit (a : α) : Lit := (keyOf Tryd.prog K.kt (K.val a)).getD (.bool false)
theorem KeyT.of {a : α} (h : K.ok a) : keyOf Tryd.prog K.kt (K.val a) = some (K.lit a) := by
  obtain ⟨l, hl⟩ := K.key h
  unfold KeyT.lit
  rw [hl]; rfl
theorem KeyT.lit_inj {a b : α} (ha : K.ok a) (hb : K.ok b) (h : K.lit a = K.lit b) : a = b :=
  K.inj (K.keyed.inj (K.of ha) (by rw [h]; exact K.of hb))
set_option maxRecDepth 100000 in
theorem KeyT.isKey {a : α} (ha : K.ok a) : WideAt.IsKeyLit (K.lit a) := K.keyed.key (v := K.val a) (l := K.lit a) (K.of ha)
end
theorem run_entryStore {w2 : World} {b : Nat} {es es' : Array MapEntry} {clock st i : Nat} {t : TypeId} {v : Value} (hw2 : w2.heap[b]? = some (.map es clock)) (hidx : es.findIdx? (fun e => ((e.born : Nat) : Int) == ((st : Nat) : Int)) = some i)
    (hmod : es.modify i (fun e => { e with val := v }) = es') : (Instr.entryStore t (.map (some b)) (.int .i64 st) v).run Tryd.prog w2 = .ok () (setBlock w2 b (.map es' clock)) := by
  simp [Instr.entryStore, MapKept.run_getObj_map hw2, asInt, asIntOf, hidx, hmod, MapKept.run_setObj_map _ hw2, Result.andThen, setBlock]
theorem setBlock_twice (w : World) (b : Nat) (o o' : Obj) : setBlock (setBlock w b o) b o' = setBlock w b o' := by simp [setBlock]
section
variable {α : Type} [DecidableEq α] (K : KeyT α)
/-- A map's datum reads as a list of pairs. -/
structure Reads (D : DataW Value) (ks : List (α × Value)) : Prop where
  tidy : Tidy D
  nd : (ks.map Prod.fst).Nodup
  ok : ∀ p ∈ ks, K.ok p.1
  at_ : ∀ a, K.ok a → ∀ z, D.atKey (K.lit a) z = match lk ks a with | some v => .held v | none => z
  size : Maps.size D = ks.length
theorem Reads.has {D : DataW Value} {ks : List (α × Value)} (h : Reads K D ks) {a : α} (ha : K.ok a) : Maps.has D (K.lit a) = (lk ks a).isSome := by
  cases e : lk ks a with
  | none => exact has_false_of_atKey fun z => by rw [h.at_ a ha z, e]
  | some v => exact has_true_of_atKey (y := .held v) fun z => by rw [h.at_ a ha z, e]
theorem Reads.empty : Reads K (.map []) ([] : List (α × Value)) := ⟨tidy_empty, List.nodup_nil, fun _ h => (by cases h), fun _ _ _ => rfl, rfl⟩
set_option maxRecDepth 100000 in
theorem Reads.put {D : DataW Value} {ks : List (α × Value)} (h : Reads K D ks) {a : α} (ha : K.ok a) (v : Value) (ht : Tidy (D.put (K.lit a) (.held v))) : Reads K (D.put (K.lit a) (.held v)) (putL ks a v) := by
  refine ⟨ht, nodup_putL h.nd a v, fun p hp => ?_, fun j hj z => ?_, ?_⟩
  · rcases mem_putL hp with rfl | hp
    · exact ha
    · exact h.ok p hp
  · rw [lk_putL]
    by_cases e : j = a
    · subst e
      rw [if_pos rfl, atKey_put_same h.tidy.isMap (K.isKey ha)]
    · rw [if_neg e, atKey_put_other (fun e2 => e (K.lit_inj hj ha e2)), h.at_ j hj z]
  · rw [size_put h.tidy, h.has K ha, h.size]
    have := congrArg List.length (keys_putL ks a v)
    rw [List.length_map] at this
    rw [this]
    by_cases e : a ∈ ks.map Prod.fst
    · rw [if_pos e, if_pos (lk_isSome.2 e), List.length_map]
    · rw [if_neg e, if_neg (fun h2 => e (lk_isSome.1 h2)), List.length_append, List.length_map]; rfl
theorem Reads.del {D : DataW Value} {ks : List (α × Value)} (h : Reads K D ks) {a : α} (ha : K.ok a) (ht : Tidy (D.del (K.lit a))) : Reads K (D.del (K.lit a)) (dropL ks a) := by
  refine ⟨ht, nodup_dropL h.nd a, fun p hp => h.ok p (mem_dropL.1 hp).1, fun j hj z => ?_, ?_⟩
  · rw [lk_dropL]
    by_cases e : j = a
    · subst e
      rw [if_pos rfl, atKey_del_same]
    · rw [if_neg e, atKey_del_other (fun e2 => e (K.lit_inj hj ha e2)), h.at_ j hj z]
  · have h1 := size_del (k := K.lit a) h.tidy
    rw [h.has K ha, h.size] at h1
    have h2 := congrArg List.length (keys_dropL ks a)
    rw [List.length_map] at h2
    rw [h2]
    have hn := h.nd
    have hl : ks.length = (ks.map Prod.fst).length := by rw [List.length_map]
    by_cases e : a ∈ ks.map Prod.fst
    · rw [lk_isSome.2 e, if_pos rfl] at h1
      have := len_drop hn a
      rw [if_pos e] at this
      omega
    · have e2 : (lk ks a).isSome = false := by
        cases h3 : (lk ks a).isSome
        · rfl
        · exact absurd (lk_isSome.1 h3) e
      rw [e2, if_neg (by simp)] at h1
      have := len_drop hn a
      rw [if_neg e] at this
      omega
/-- Two lists that read alike. -/
theorem Reads.congr {D : DataW Value} {ks js : List (α × Value)} (h : Reads K D ks) (hn : (js.map Prod.fst).Nodup) (he : ∀ a, lk js a = lk ks a) : Reads K D js := by
  have hm : ∀ a, a ∈ js.map Prod.fst ↔ a ∈ ks.map Prod.fst := fun a => by rw [← lk_isSome, ← lk_isSome, he]
  refine ⟨h.tidy, hn, fun p hp => ?_, fun a ha z => by rw [he]; exact h.at_ a ha z, ?_⟩
  · obtain ⟨q, hq, e⟩ := List.mem_map.1 ((hm p.1).1 (List.mem_map.2 ⟨p, hp, rfl⟩))
    rw [← e]; exact h.ok q hq
  · have := ((List.perm_ext_iff_of_nodup hn h.nd).2 hm).length_eq
    rw [List.length_map, List.length_map] at this
    rw [this, h.size]
/-- Block b is a map that reads as these pairs, in whatever row. -/
def MapV (w : World) (b : Nat) (ks : List (α × Value)) : Prop := ∃ n D, w.ownsMap Tryd.prog K.kt hR b n D ∧ Reads K D ks ∧ n = ks.length
variable {K}
theorem ownsMap_low {w : World} {b n : Nat} {D : DataW Value} {kt : TypeId} (h : w.ownsMap Tryd.prog kt hR b n D) : w.ownsMap Tryd.prog kt hR b (Maps.size D) D := by
  obtain ⟨es, clock, h1, h2, h3, rfl⟩ := h
  refine ⟨es, clock, h1, h2, ?_, rfl⟩
  rw [size_eq, length_read]
  exact Nat.le_refl _
theorem MapV.of {w : World} {b n : Nat} {D : DataW Value} {ks : List (α × Value)} (h : w.ownsMap Tryd.prog K.kt hR b n D) (k : Reads K D ks) : MapV K w b ks := ⟨_, D, ownsMap_low h, k, k.size⟩
theorem MapV.made (w : World) : MapV K (w.alloc (.map #[] 0)) w.heap.size ([] : List (α × Value)) := MapV.of (World.ownsMap_made w Tryd.prog K.kt hR) (Reads.empty K)
theorem MapV.keep {w w' : World} {b : Nat} {ks : List (α × Value)} (h : MapV K w b ks) (hb : w'.heap[b]? = w.heap[b]?) : MapV K w' b ks := by
  obtain ⟨n, D, ⟨es, clock, h1, h2⟩, h3⟩ := h
  exact ⟨n, D, ⟨es, clock, hb.trans h1, h2⟩, h3⟩
theorem MapV.lt {w : World} {b : Nat} {ks : List (α × Value)} (h : MapV K w b ks) : b < w.heap.size := by
  obtain ⟨n, D, h1, _⟩ := h
  exact h1.lt
theorem MapV.below {w w' : World} {b : Nat} {ks : List (α × Value)} (h : MapV K w b ks) (hb : Below w.heap.size w w') : MapV K w' b ks := h.keep (hb.block b h.lt)
theorem MapV.nd {w : World} {b : Nat} {ks : List (α × Value)} (h : MapV K w b ks) : (ks.map Prod.fst).Nodup := by
  obtain ⟨n, D, _, h2, _⟩ := h
  exact h2.nd
theorem MapV.congr {w : World} {b : Nat} {ks js : List (α × Value)} (h : MapV K w b ks) (hn : (js.map Prod.fst).Nodup) (he : ∀ a, lk js a = lk ks a) : MapV K w b js := by
  obtain ⟨n, D, h1, h2, h3⟩ := h
  exact MapV.of h1 (h2.congr K hn he)
/-- What a look-up gives. -/
def lkv (ks : List (α × Value)) (a : α) (z : Value) : Value := match lk ks a with | some v => v | none => z
set_option maxRecDepth 100000 in
theorem MapV.look {w : World} {b : Nat} {ks : List (α × Value)} (h : MapV K w b ks) {t e : TypeId} (ht : Tryd.prog.underlying t = some (.map K.kt e)) {z : Value} (hz : (zeroValue e).run Tryd.prog w = .ok z w) {a : α} (ha : K.ok a) :
    (Instr.lookup t (.map (some b)) (K.val a) false).run Tryd.prog w = .ok (lkv ks a z) w := by
  obtain ⟨n, D, h1, h2, _⟩ := h
  obtain ⟨v, ps, hrun, hv⟩ := h1.lookup K.keyed ht hz (zd := .held z) (zp := []) rfl (K.of ha)
  rw [hrun]
  unfold hR at hv
  injection hv with hv
  injection hv with hv
  rw [h2.at_ a ha] at hv
  unfold lkv
  cases e : lk ks a with
  | none => rw [e] at hv; injection hv with hv; rw [hv]
  | some u => rw [e] at hv; injection hv with hv; rw [hv]
set_option maxRecDepth 100000 in
theorem MapV.look_ok {w : World} {b : Nat} {ks : List (α × Value)} (h : MapV K w b ks) {t e : TypeId} (ht : Tryd.prog.underlying t = some (.map K.kt e)) {z : Value} (hz : (zeroValue e).run Tryd.prog w = .ok z w) {a : α} (ha : K.ok a) :
    (Instr.lookup t (.map (some b)) (K.val a) true).run Tryd.prog w = .ok (.tuple #[lkv ks a z, .bool (lk ks a).isSome]) w := by
  obtain ⟨n, D, h1, h2, _⟩ := h
  obtain ⟨v, ps, hrun, hv⟩ := h1.look_ok K.keyed ht hz (zd := .held z) (zp := []) rfl (K.of ha)
  rw [hrun, h2.has K ha]
  unfold hR at hv
  injection hv with hv
  injection hv with hv
  rw [h2.at_ a ha] at hv
  unfold lkv
  cases e : lk ks a with
  | none => rw [e] at hv; injection hv with hv; rw [hv]
  | some u => rw [e] at hv; injection hv with hv; rw [hv]
theorem MapV.len {w : World} {b : Nat} {ks : List (α × Value)} (h : MapV K w b ks) {t e : TypeId} (ht : Tryd.prog.underlying t = some (.map K.kt e)) (ty : TypeId) :
    (Builtin.len_ #[t] ty #[.map (some b)]).run Tryd.prog w = .ok (.int .i64 ks.length) w := by
  obtain ⟨n, D, h1, h2, _⟩ := h
  rw [h1.len ht ty, h2.size]
set_option maxRecDepth 100000 in
theorem MapV.put {w : World} {b : Nat} {ks : List (α × Value)} (h : MapV K w b ks) {t e : TypeId} (ht : Tryd.prog.underlying t = some (.map K.kt e)) (hl : ks.length ≤ 1000000) {a : α} (ha : K.ok a) (v : Value) :
    ∃ w', (Instr.mapUpdate t (.map (some b)) (K.val a) v).run Tryd.prog w = .ok () w' ∧ MapV K w' b (putL ks a v) ∧ w.mapTurned w' b := by
  obtain ⟨n, D, h1, h2, h3⟩ := h
  obtain ⟨w', hrun, h4, h5⟩ := h1.store K.keyed ht (by unfold maxLen; omega) (K.of ha) (val := v) (d := .held v) (ps := []) rfl
  exact ⟨w', hrun, MapV.of h4 (h2.put K ha v (h4.tidy K.keyed)), h5⟩
set_option maxRecDepth 100000 in
theorem MapV.del {w : World} {b : Nat} {ks : List (α × Value)} (h : MapV K w b ks) {t e : TypeId} (ht : Tryd.prog.underlying t = some (.map K.kt e)) {a : α} (ha : K.ok a) (ty : TypeId) :
    ∃ w', (Builtin.delete_ #[t, K.kt] ty #[.map (some b), K.val a]).run Tryd.prog w = .ok (.tuple #[]) w' ∧ MapV K w' b (dropL ks a) ∧ w.mapTurned w' b := by
  obtain ⟨n, D, h1, h2, h3⟩ := h
  obtain ⟨w', hrun, h4, h5⟩ := h1.drop K.keyed ht (K.of ha) ty
  exact ⟨w', hrun, MapV.of h4 (h2.del K ha (h4.tidy K.keyed)), h5⟩
set_option maxRecDepth 100000 in
/-- A place in a map, and the store to it, as two operations. -/
theorem MapV.entry {w : World} {b : Nat} {ks : List (α × Value)} (h : MapV K w b ks) {t e : TypeId} (ht : Tryd.prog.underlying t = some (.map K.kt e)) (hl : ks.length ≤ 1000000) {z : Value} (hz : ∀ u : World, (zeroValue e).run Tryd.prog u = .ok z u) {a : α} (ha : K.ok a) (v : Value) :
    ∃ (v0 : Value) (st : Int) (w1 w2 : World), (Instr.mapEntry t (.map (some b)) (K.val a)).run Tryd.prog w = .ok (.tuple #[v0, .int .i64 st]) w1 ∧ (Instr.entryStore t (.map (some b)) (.int .i64 st) v).run Tryd.prog w1 = .ok () w2 ∧ MapV K w2 b (putL ks a v) ∧ w.mapTurned w1 b ∧ w.mapTurned w2 b := by
  obtain ⟨w', hrun', hM', ht'⟩ := h.put ht hl ha v
  obtain ⟨n, D, ⟨es, clock, hb, F, hs, hD⟩, _, _⟩ := h
  obtain ⟨s1, s2, _⟩ := F.stamped
  have hkey := K.of ha
  rcases K.keyed.find w hkey es.toList F.keys with ⟨h1, h2⟩ | ⟨j, e0, h1, h2, h3⟩
  · have hr1 : (Instr.mapEntry t (.map (some b)) (K.val a)).run Tryd.prog w = .ok (.tuple #[z, .int .i64 clock]) (setBlock w b (.map (es.push ⟨K.val a, z, clock⟩) (clock + 1))) := by
      simp [Instr.mapEntry, run_underlying ht, MapKept.run_getObj_map hb, K.keyed.check w false hkey, h1, hz, MapKept.run_setObj_map _ hb, Result.andThen, setBlock, goInt]
    have hb1 : (setBlock w b (.map (es.push ⟨K.val a, z, clock⟩) (clock + 1))).heap[b]? = some (.map (es.push ⟨K.val a, z, clock⟩) (clock + 1)) := heap_setBlock_same hb _
    have hidx : (es.push ⟨K.val a, z, clock⟩).findIdx? (fun e => ((e.born : Nat) : Int) == ((clock : Nat) : Int)) = some es.size := by
      rw [findIdx_arr]
      exact findIdx_born (l := (es.push ⟨K.val a, z, clock⟩).toList) (j := es.size) (e0 := ⟨K.val a, z, clock⟩) (by
        simp only [Array.toList_push, List.map_append, List.map_cons, List.map_nil]
        refine List.nodup_append.2 ⟨s2, by simp, fun a ha c hc e1 => ?_⟩
        simp only [List.mem_singleton] at hc
        obtain ⟨x, hx, rfl⟩ := List.mem_map.1 ha
        have := s1 x hx
        omega) (by simp)
    have hmod : (es.push ⟨K.val a, z, clock⟩).modify es.size (fun e => { e with val := v }) = es.push ⟨K.val a, v, clock⟩ := by
      apply Array.ext'
      rw [Array.toList_modify, Array.toList_push, Array.toList_push, ← Array.length_toList, modify_last]
    have hr2 : (Instr.entryStore t (.map (some b)) (.int .i64 clock) v).run Tryd.prog (setBlock w b (.map (es.push ⟨K.val a, z, clock⟩) (clock + 1))) = .ok () (setBlock w b (.map (es.push ⟨K.val a, v, clock⟩) (clock + 1))) := by
      rw [run_entryStore hb1 hidx hmod, setBlock_twice]
    have hr3 : (Instr.mapUpdate t (.map (some b)) (K.val a) v).run Tryd.prog w = .ok () (setBlock w b (.map (es.push ⟨K.val a, v, clock⟩) (clock + 1))) := by
      simp [Instr.mapUpdate, run_underlying ht, MapKept.run_getObj_map hb, K.keyed.check w false hkey, h1, MapKept.run_setObj_map _ hb, Result.andThen, setBlock]
    rw [hrun'] at hr3
    injection hr3 with _ hw
    refine ⟨z, clock, _, w', hr1, by rw [hr2, hw], hM', ⟨es, clock, _, _, hb, rfl⟩, ht'⟩
  · have hj : es[j]? = some e0 := by simpa using h2
    have hsame : es.modify j (fun e => { e with key := K.val a }) = es := by
      apply Array.ext'
      rw [Array.toList_modify, modify_eq_set _ _ _ _ h2]
      have : ({ e0 with key := K.val a } : MapEntry) = e0 := by rw [← h3]
      rw [this]
      exact set_self _ _ _ h2
    have hr1 : (Instr.mapEntry t (.map (some b)) (K.val a)).run Tryd.prog w = .ok (.tuple #[e0.val, .int .i64 e0.born]) (setBlock w b (.map es clock)) := by
      simp [Instr.mapEntry, run_underlying ht, MapKept.run_getObj_map hb, K.keyed.check w false hkey, h1, hj, h3, K.keyed.stays w hkey, hsame, MapKept.run_setObj_map _ hb, Result.andThen, setBlock, goInt]
    have hb1 : (setBlock w b (.map es clock)).heap[b]? = some (.map es clock) := heap_setBlock_same hb _
    have hidx : es.findIdx? (fun e => ((e.born : Nat) : Int) == ((e0.born : Nat) : Int)) = some j := by
      rw [findIdx_arr]
      exact findIdx_born s2 h2
    have hmod : es.modify j (fun e => { e with val := v }) = es.modify j (fun e' => { e' with key := K.val a, val := v }) := by
      apply Array.ext'
      rw [Array.toList_modify, Array.toList_modify, modify_eq_set _ _ _ _ h2, modify_eq_set _ _ _ _ h2, ← h3]
    have hr2 : (Instr.entryStore t (.map (some b)) (.int .i64 e0.born) v).run Tryd.prog (setBlock w b (.map es clock)) = .ok () (setBlock w b (.map (es.modify j (fun e' => { e' with key := K.val a, val := v })) clock)) := by
      rw [run_entryStore hb1 hidx hmod, setBlock_twice]
    have hr3 : (Instr.mapUpdate t (.map (some b)) (K.val a) v).run Tryd.prog w = .ok () (setBlock w b (.map (es.modify j (fun e' => { e' with key := K.val a, val := v })) clock)) := by
      simp [Instr.mapUpdate, run_underlying ht, MapKept.run_getObj_map hb, K.keyed.check w false hkey, h1, hj, h3, K.keyed.stays w hkey, MapKept.run_setObj_map _ hb, Result.andThen, setBlock]
    rw [hrun'] at hr3
    injection hr3 with _ hw
    exact ⟨e0.val, e0.born, _, w', hr1, by rw [hr2, hw], hM', ⟨es, clock, _, _, hb, rfl⟩, ht'⟩
/-! A range over a map: what has come. -/
structure Come (K : KeyT α) (ks : List (α × Value)) (left : Lit → Bool) (pre : List α) : Prop where
  nd : pre.Nodup
  left : ∀ a, K.ok a → left (K.lit a) = (decide (a ∈ ks.map Prod.fst) && decide (a ∉ pre))
  mem : ∀ a, a ∈ pre → a ∈ ks.map Prod.fst
theorem Come.start {D : DataW Value} {ks : List (α × Value)} (h : Reads K D ks) : Come K ks (Maps.has D) [] :=
  ⟨List.nodup_nil, fun a ha => by
    rw [h.has K ha]
    simp only [List.not_mem_nil, not_false_eq_true, decide_true, Bool.and_true]
    rw [Bool.eq_iff_iff, lk_isSome, decide_eq_true_eq], fun _ h => by cases h⟩
set_option maxRecDepth 100000 in
theorem Come.step {ks : List (α × Value)} {left : Lit → Bool} {pre : List α} (h : Come K ks left pre) {a : α} (ha : K.ok a) (hx : left (K.lit a) = true) : Come K ks (fun z => left z && !z.sameKey (K.lit a)) (pre ++ [a]) := by
  rw [h.left a ha, Bool.and_eq_true, decide_eq_true_eq, decide_eq_true_eq] at hx
  refine ⟨List.nodup_append.2 ⟨h.nd, by simp, fun x hx2 y hy e => hx.2 (by rw [List.mem_singleton] at hy; rw [← hy, ← e]; exact hx2)⟩, fun y hy => ?_, fun y hy => ?_⟩
  · show (left (K.lit y) && !(K.lit y).sameKey (K.lit a)) = _
    rw [h.left y hy]
    by_cases e : y = a
    · subst e
      rw [WideAt.sameKey_self (K.isKey ha)]
      simp
    · rw [sameKey_ne (fun e2 => e (K.lit_inj hy ha e2))]
      simp [e]
  · rcases List.mem_append.1 hy with hy | hy
    · exact h.mem y hy
    · rw [List.mem_singleton] at hy; rw [hy]; exact hx.1
theorem Come.done {ks : List (α × Value)} {left : Lit → Bool} {pre : List α} (h : Come K ks left pre) (hl : ∀ kl, left kl = false) (hok : ∀ p ∈ ks, K.ok p.1) (a : α) : a ∈ pre ↔ a ∈ ks.map Prod.fst := by
  refine ⟨h.mem a, fun hx => ?_⟩
  obtain ⟨p, hp, rfl⟩ := List.mem_map.1 hx
  have := h.left p.1 (hok p hp)
  rw [hl, decide_eq_true hx] at this
  simpa using this
theorem Come.perm {ks : List (α × Value)} {left : Lit → Bool} {pre : List α} (h : Come K ks left pre) (hl : ∀ kl, left kl = false) (hok : ∀ p ∈ ks, K.ok p.1) (hn : (ks.map Prod.fst).Nodup) : pre.Perm (ks.map Prod.fst) :=
  (List.perm_ext_iff_of_nodup h.nd hn).2 fun a => h.done hl hok a
theorem mapTurned_block {w w' : World} {b : Nat} (h : w.mapTurned w' b) : w'.heap.size = w.heap.size ∧ w'.os = w.os ∧ w'.tape = w.tape ∧ w'.output = w.output ∧ ∀ i, i ≠ b → w'.heap[i]? = w.heap[i]? := by
  obtain ⟨es, clock, es', clock', hb, rfl⟩ := h
  exact ⟨by simp [setBlock], rfl, rfl, rfl, fun i hi => heap_setBlock_other hb _ hi⟩
end
/-! The keys: numbers; pairs of numbers. -/
def i64ok (a : Int) : Prop := -9223372036854775808 ≤ a ∧ a ≤ 9223372036854775807
theorem i64wf {a : Int} : (Lit.int .i64 a).wf = true ↔ i64ok a := by
  simp only [Lit.wf, Bool.and_eq_true, decide_eq_true_eq]; exact Iff.rfl
def KI : KeyT Int where
  kt := 3
  val := fun a => .int .i64 a
  ok := i64ok
  keyed := int_keyed Tryd.underlying3
  key := fun h => ⟨_, keyOf_int_mk Tryd.underlying3 (i64wf.2 h)⟩
  inj := fun h => by injection h
  all := fun h => by
    obtain ⟨x, rfl, _, hw⟩ := Maps.keyOf_int_inv Tryd.underlying3 h
    exact ⟨x, rfl, i64wf.1 hw⟩
end Go.Proofs.YtkolilbebkkpdaaDoor
