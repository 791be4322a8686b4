/-
  A roll's copy: the same roll, in blocks of its own.
-/
import Derived.Test.YtkolilbebkkpdaaDoorRsRoCp
import Derived.Test.YtkolilbebkkpdaaDoorRsRoRn
namespace Go.Proofs.YtkolilbebkkpdaaDoor
open Go.RowKit Go.Maps Go.BigFrame

/-- All but two blocks lie as they did. -/
structure Chg (w w' : World) (a b : Nat) : Prop where
  os : w'.os = w.os
  tape : w'.tape = w.tape
  out : w'.output = w.output
  size : w.heap.size ≤ w'.heap.size
  blk : ∀ i, i < w.heap.size → i ≠ a → i ≠ b → w'.heap[i]? = w.heap[i]?
theorem Chg.refl (w : World) (a b : Nat) : Chg w w a b := ⟨rfl, rfl, rfl, Nat.le_refl _, fun _ _ _ _ => rfl⟩
theorem Chg.trans {w v u : World} {a b : Nat} (h : Chg w v a b) (k : Chg v u a b) : Chg w u a b :=
  ⟨k.os.trans h.os, k.tape.trans h.tape, k.out.trans h.out, Nat.le_trans h.size k.size, fun i hi ha hb => (k.blk i (Nat.lt_of_lt_of_le hi h.size) ha hb).trans (h.blk i hi ha hb)⟩
theorem Chg.of_below {w w' : World} (h : Below w.heap.size w w') (a b : Nat) : Chg w w' a b := ⟨h.os, h.tape, h.output, h.size, fun i hi _ _ => h.block i hi⟩
theorem Chg.of_but1 {w w' : World} {a : Nat} (h : But w w' a) (b : Nat) : Chg w w' a b := ⟨h.os, h.tape, h.out, h.size, fun i hi ha _ => h.blk i hi ha⟩
theorem Chg.of_but2 {w w' : World} {b : Nat} (h : But w w' b) (a : Nat) : Chg w w' a b := ⟨h.os, h.tape, h.out, h.size, fun i hi _ hb => h.blk i hi hb⟩
theorem Chg.below {B : Nat} {w w' : World} {a b : Nat} (h : Chg w w' a b) (ha : B ≤ a) (hb : B ≤ b) (hB : B ≤ w.heap.size) : Below B w w' :=
  ⟨h.os, h.tape, h.out, h.size, fun i hi => h.blk i (by omega) (by omega) (by omega)⟩
/-- The members copied so far. -/
structure CpAt (W : World) (y : Lay) (m B : Nat) (pre : List Int) (l2 : List MRec) : Prop where
  keys : l2.map MRec.n = pre
  from_ : ∀ z ∈ l2, ∃ x ∈ y.l, x.n = z.n ∧ x.m = z.m
  map : MapV KI W m (memV l2)
  mb : ∀ z ∈ l2, MbAt W z
  far : ∀ i ∈ l2.flatMap MRec.foot, B ≤ i
  nd : (l2.flatMap MRec.foot).Nodup
theorem perm_map_ex {α β : Type} {f : α → β} {P B : List β} (h : P.Perm B) : ∀ A : List α, A.map f = P → ∃ A' : List α, A'.Perm A ∧ A'.map f = B := by
  induction h with
  | nil => intro A hA; exact ⟨A, List.Perm.refl _, hA⟩
  | cons x _ ih =>
    intro A hA
    cases A with
    | nil => cases hA
    | cons a A =>
      rw [List.map_cons] at hA
      injection hA with h1 h2
      obtain ⟨A', h3, h4⟩ := ih A h2
      exact ⟨a :: A', h3.cons a, by rw [List.map_cons, h1, h4]⟩
  | swap x y l =>
    intro A hA
    match A, hA with
    | a :: b :: A, hA =>
      simp only [List.map_cons, List.cons.injEq] at hA
      obtain ⟨h1, h2, h3⟩ := hA
      exact ⟨b :: a :: A, List.Perm.swap .., by simp [h1, h2, h3]⟩
  | trans _ _ ih1 ih2 =>
    intro A hA
    obtain ⟨A1, h1, h2⟩ := ih1 A hA
    obtain ⟨A2, h3, h4⟩ := ih2 A1 h2
    exact ⟨A2, h3.trans h1, h4⟩
theorem nodup_of_map {α β : Type} (f : α → β) {l : List α} (h : (l.map f).Nodup) : l.Nodup := List.Pairwise.of_map f (fun a b hab e => hab (congrArg f e)) h
/-- All are copied: the copy's layout, in the roll's row. -/
theorem CpAt.done {w W : World} {y : Lay} {s : RS} {m B : Nat} {pre : List Int} {l2 : List MRec} (h : CpAt W y m B pre l2) (hR : RollAt w y s) (hp : pre.Perm ((memV y.l).map Prod.fst)) {r c i k : Nat}
    (hblk : W.heap[r]? = some (.cells (rollCells ⟨r, c, i, k, m, []⟩ s.bk) 81 (0, 0))) (hc : MapV KI W c cardsL) (hi : MapV KI W i (setV s.ins)) (hk : MapV KI W k (setV (s.ins ++ s.gone)))
    (hB : r < B ∧ c < B ∧ i < B ∧ k < B ∧ m < B) (hne : [r, c, i, k, m].Nodup) :
    ∃ l3, RollAt W ⟨r, c, i, k, m, l3⟩ s ∧ ∀ j ∈ l3.flatMap MRec.foot, B ≤ j := by
  have hkn : (y.l.map MRec.n).Nodup := by have := hR.ms.nd; rwa [keys_memV] at this
  rw [keys_memV] at hp
  have hn2 : (l2.map MRec.n).Nodup := by rw [h.keys]; exact hp.nodup_iff.2 hkn
  have hperm : (l2.map fun x => (x.n, x.m)).Perm (y.l.map fun x => (x.n, x.m)) := by
    have hnd1 : (l2.map fun x => (x.n, x.m)).Nodup := by
      refine nodup_of_map Prod.fst ?_
      rw [List.map_map]; exact hn2
    have hnd2 : (y.l.map fun x => (x.n, x.m)).Nodup := by
      refine nodup_of_map Prod.fst ?_
      rw [List.map_map]; exact hkn
    refine (List.perm_ext_iff_of_nodup hnd1 hnd2).2 fun p => ⟨fun hp1 => ?_, fun hp1 => ?_⟩
    · obtain ⟨z, hz, rfl⟩ := List.mem_map.1 hp1
      obtain ⟨x, hx, e1, e2⟩ := h.from_ z hz
      exact List.mem_map.2 ⟨x, hx, by rw [e1, e2]⟩
    · obtain ⟨x, hx, rfl⟩ := List.mem_map.1 hp1
      have hm : x.n ∈ l2.map MRec.n := by rw [h.keys]; exact hp.mem_iff.2 (List.mem_map.2 ⟨x, hx, rfl⟩)
      obtain ⟨z, hz, e⟩ := List.mem_map.1 hm
      obtain ⟨x', hx', e1, e2⟩ := h.from_ z hz
      have := hR.one hx hx' (by rw [e1, e])
      exact List.mem_map.2 ⟨z, hz, by rw [← e2, e, ← this]⟩
  obtain ⟨l3, h3, h4⟩ := perm_map_ex hperm l2 rfl
  have hfp : (l3.flatMap MRec.foot).Perm (l2.flatMap MRec.foot) := h3.flatMap_right _
  have hfar : ∀ j ∈ l3.flatMap MRec.foot, B ≤ j := fun j hj => h.far j (hfp.mem_iff.1 hj)
  refine ⟨l3, ⟨hblk, hc, hi, hk, ?_, fun x hx => h.mb x (h3.mem_iff.1 hx), h4.trans hR.eq, ?_⟩, hfar⟩
  · have hp3 : (memV l3).Perm (memV l2) := h3.map _
    have hn3 : ((memV l3).map Prod.fst).Nodup := by
      rw [keys_memV]
      exact (h3.map MRec.n).nodup_iff.2 hn2
    refine h.map.congr hn3 fun a => ?_
    have hn2' : ((memV l2).map Prod.fst).Nodup := by rw [keys_memV]; exact hn2
    cases e : lk (memV l2) a with
    | some v => exact lk_of_mem hn3 (hp3.mem_iff.2 (lk_mem e))
    | none =>
      rw [lk_none] at e ⊢
      exact fun p hp => e p (hp3.mem_iff.1 hp)
  · unfold Lay.foot
    show ([r, c, i, k, m] ++ l3.flatMap MRec.foot).Nodup
    refine List.nodup_append.2 ⟨hne, hfp.nodup_iff.2 h.nd, fun a ha b hb e => ?_⟩
    have := hfar b hb
    simp only [List.mem_cons, List.not_mem_nil, or_false] at ha
    omega
theorem putL_new {ks : List (Int × Value)} {a : Int} {v : Value} (h : a ∉ ks.map Prod.fst) : putL ks a v = ks ++ [(a, v)] := by
  unfold putL
  rw [if_neg (fun e => h (lk_isSome.1 e))]
theorem CpAt.step {W W' : World} {y : Lay} {m B rg : Nat} {pre : List Int} {l2 : List MRec} (h : CpAt W y m B pre l2) (hB : B ≤ W.heap.size) (hm : m < B) (hrg : rg < B) (hC : Chg W W' m rg) {x z : MRec} (hx : x ∈ y.l) (hn : x.n = z.n) (hxm : x.m = z.m) (hnp : x.n ∉ pre)
    (hM : MapV KI W' m (putL (memV l2) z.n (.pointer (some ⟨z.a, 0, none⟩)))) (hz : MbAt W' z) (hf : z.foot.Nodup) (hnew : ∀ i ∈ z.foot, W.heap.size ≤ i) : CpAt W' y m B (pre ++ [x.n]) (l2 ++ [z]) := by
  rw [putL_new (by rw [keys_memV, h.keys, ← hn]; exact hnp)] at hM
  refine ⟨by rw [List.map_append, h.keys, hn]; rfl, fun u hu => ?_, ?_, fun u hu => ?_, fun i hi => ?_, ?_⟩
  · rcases List.mem_append.1 hu with hu | hu
    · exact h.from_ u hu
    · rw [List.mem_singleton] at hu; subst hu; exact ⟨x, hx, hn, hxm⟩
  · unfold memV at hM ⊢
    rw [List.map_append]
    exact hM
  · rcases List.mem_append.1 hu with hu | hu
    · refine (h.mb u hu).keep hC.size fun i hi => ?_
      have h1 := h.far i (List.mem_flatMap.2 ⟨u, hu, hi⟩)
      exact hC.blk i ((h.mb u hu).lt i hi) (by omega) (by omega)
    · rw [List.mem_singleton] at hu; subst hu; exact hz
  · rw [List.flatMap_append] at hi
    rcases List.mem_append.1 hi with hi | hi
    · exact h.far i hi
    · have := hnew i (by simpa using hi)
      omega
  · rw [List.flatMap_append]
    refine List.nodup_append.2 ⟨h.nd, by simpa using hf, fun a ha b hb e => ?_⟩
    obtain ⟨u, hu, hau⟩ := List.mem_flatMap.1 ha
    have h1 := (h.mb u hu).lt a hau
    have h2 := hnew b (by simpa using hb)
    omega
theorem five_allocs (w : World) (o1 o2 o3 o4 o5 : Obj) : ∀ W, W = ((((w.alloc o1).alloc o2).alloc o3).alloc o4).alloc o5 → W.heap[w.heap.size]? = some o1 ∧ W.heap[w.heap.size + 1]? = some o2 ∧ W.heap[w.heap.size + 2]? = some o3 ∧ W.heap[w.heap.size + 3]? = some o4 ∧ W.heap[w.heap.size + 4]? = some o5 ∧ Below w.heap.size w W ∧ W.heap.size = w.heap.size + 5 := by
  rintro W rfl
  have g1 := Below.lit w o1
  have g2 := Below.lit (w.alloc o1) o2
  have g3 := Below.lit ((w.alloc o1).alloc o2) o3
  have g4 := Below.lit (((w.alloc o1).alloc o2).alloc o3) o4
  have g5 := Below.lit ((((w.alloc o1).alloc o2).alloc o3).alloc o4) o5
  have z1 := World.alloc_heap_new w o1
  have z2 := World.alloc_heap_new (w.alloc o1) o2
  have z3 := World.alloc_heap_new ((w.alloc o1).alloc o2) o3
  have z4 := World.alloc_heap_new (((w.alloc o1).alloc o2).alloc o3) o4
  have z5 := World.alloc_heap_new ((((w.alloc o1).alloc o2).alloc o3).alloc o4) o5
  simp only [World.size_alloc] at g2 g3 g4 g5 z2 z3 z4 z5
  refine ⟨?_, ?_, ?_, ?_, ?_, ?_, by simp⟩
  · rw [g5.block _ (by omega), g4.block _ (by omega), g3.block _ (by omega), g2.block _ (by omega)]; exact z1
  · rw [g5.block _ (by omega), g4.block _ (by omega), g3.block _ (by omega)]; exact z2
  · rw [g5.block _ (by omega), g4.block _ (by omega)]; exact z3
  · rw [g5.block _ (by omega)]; exact z4
  · exact z5
  · exact (((g1.trans (g2.mono (by omega))).trans (g3.mono (by omega))).trans (g4.mono (by omega))).trans (g5.mono (by omega))
end Go.Proofs.YtkolilbebkkpdaaDoor

