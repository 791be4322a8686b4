/-
  maps.Clone: a new block with the same entries.
  A roll's copy: the same roll, in blocks of its own.
  A roll's copy: the walk.
  Guards held against each other; members.
  Members held against each other; two rolls.
-/
import Derived.Test.YtkolilbebkkpdaaDoorRmG
import Derived.Laws.Externs
import Derived.MapKept
import Derived.Test.YtkolilbebkkpdaaDoorRmI
import Derived.Test.YtkolilbebkkpdaaDoorRsRoSa
namespace Go.Proofs.YtkolilbebkkpdaaDoor
open Go.RowKit Go.Maps

theorem run_equalIn_map_nil {P : Program} (w : World) (d : Nat) (t k e : TypeId) (p : Option Nat) (h : P.underlying t = some (.map k e)) :
  (Op.equalIn (d + 1) t (.map p) (.map none)).run P w = .ok p.isNone w := by
 cases p <;> simp [Op.equalIn, run_underlying h]
theorem run_eql_map_nil {P : Program} (w : World) (t k e : TypeId) (p : Option Nat) (h : P.underlying t = some (.map k e)) :
  (binOp .eql t (.map p) (.map none)).run P w = .ok (.bool p.isNone) w := by
 simp only [binOp]
 simp [show Op.equal t (.map p) (.map none) = Op.equalIn (9999 + 1) t (.map p) (.map none) from rfl, run_equalIn_map_nil w 9999 t k e p h]
theorem run_typeAssert_map {P : Program} (w : World) (t xT k e : TypeId) (v : Value) (h : P.underlying t = some (.map k e)) : (Instr.typeAssert (.iface t v) xT t false).run P w = .ok v w := by
 simp [Instr.typeAssert, run_underlying h, go_sem, Result.andThen]
theorem run_maps_clone {P : Program} (w : World) {r : Nat} {es : Array MapEntry} {clock : Nat} (t : TypeId) (hb : w.heap[r]? = some (.map es clock)) :
  (Extern.MapsClone.clone #[.iface t (.map (some r))]).run P w = .ok (.iface t (.map (some w.heap.size))) (w.alloc (.map es clock)) := by
 have e : Extern.MapsClone.clone #[.iface t (.map (some r))] = (getObj r >>= fun o => match o with
   | .map entries clock => (newObj (.map entries clock) >>= fun n => pure (.iface t (.map (some n))))
   | _ => stuck "maps.clone: a map expected") := rfl
 rw [e]
 simp [MapKept.run_getObj_map hb, Result.andThen, go_sem]
/-- The entries of a map, and what a block with the same entries is. -/
theorem MapV.same {α : Type} [DecidableEq α] {K : KeyT α} {w : World} {b : Nat} {ks : List (α × Value)} (h : MapV K w b ks) : ∃ es clock, w.heap[b]? = some (.map es clock) ∧ ∀ (w' : World) (b' : Nat), w'.heap[b']? = some (.map es clock) → MapV K w' b' ks := by
 obtain ⟨n, D, ⟨es, clock, h1, h2⟩, h3⟩ := h
 exact ⟨es, clock, h1, fun w' b' hb => ⟨n, D, ⟨es, clock, hb, h2⟩, h3⟩⟩
set_option maxRecDepth 100000 in
set_option maxHeartbeats 2000000 in
theorem Clone_cards (w : World) (b : Nat) (es : Array MapEntry) (clock : Nat) (hb : w.heap[b]? = some (.map es clock)) :
  Calls Tryd.prog 65 #[.map (some b)] w fun e w' => e = .returned (.map (some w.heap.size)) ∧ w' = w.alloc (.map es clock) := by
 have hq := fun w => run_eql_map_nil (P := Tryd.prog) w 77 _ _ (some b) Tryd.underlying77
 go_enter Tryd.func65, Tryd.ntmps65
 go_wp2
 rw [run_callFunc_extern Tryd.func78 (by kernel_rfl) (by kernel_rfl) (by kernel_rfl) (e := Extern.MapsClone.clone) (by kernel_rfl), run_maps_clone w 77 hb]
 simp only [Result.andThen]
 rw [Oper.upon_value]
 go_wp2
 rw [run_typeAssert_map _ 77 20 _ _ _ Tryd.underlying77]
 simp only [Result.andThen]
 rw [Oper.upon_value]
 go_wp2
 go_ret
 exact ⟨rfl, rfl⟩
set_option maxRecDepth 100000 in
set_option maxHeartbeats 2000000 in
theorem Clone_bools (w : World) (b : Nat) (es : Array MapEntry) (clock : Nat) (hb : w.heap[b]? = some (.map es clock)) :
  Calls Tryd.prog 66 #[.map (some b)] w fun e w' => e = .returned (.map (some w.heap.size)) ∧ w' = w.alloc (.map es clock) := by
 have hq := fun w => run_eql_map_nil (P := Tryd.prog) w 78 _ _ (some b) Tryd.underlying78
 go_enter Tryd.func66, Tryd.ntmps66
 go_wp2
 rw [run_callFunc_extern Tryd.func78 (by kernel_rfl) (by kernel_rfl) (by kernel_rfl) (e := Extern.MapsClone.clone) (by kernel_rfl), run_maps_clone w 78 hb]
 simp only [Result.andThen]
 rw [Oper.upon_value]
 go_wp2
 rw [run_typeAssert_map _ 78 20 _ _ _ Tryd.underlying78]
 simp only [Result.andThen]
 rw [Oper.upon_value]
 go_wp2
 go_ret
 exact ⟨rfl, rfl⟩
set_option maxRecDepth 100000 in
set_option maxHeartbeats 2000000 in
theorem Clone_vouched (w : World) (b : Nat) (es : Array MapEntry) (clock : Nat) (hb : w.heap[b]? = some (.map es clock)) :
  Calls Tryd.prog 67 #[.map (some b)] w fun e w' => e = .returned (.map (some w.heap.size)) ∧ w' = w.alloc (.map es clock) := by
 have hq := fun w => run_eql_map_nil (P := Tryd.prog) w 88 _ _ (some b) Tryd.underlying88
 go_enter Tryd.func67, Tryd.ntmps67
 go_wp2
 rw [run_callFunc_extern Tryd.func78 (by kernel_rfl) (by kernel_rfl) (by kernel_rfl) (e := Extern.MapsClone.clone) (by kernel_rfl), run_maps_clone w 88 hb]
 simp only [Result.andThen]
 rw [Oper.upon_value]
 go_wp2
 rw [run_typeAssert_map _ 88 20 _ _ _ Tryd.underlying88]
 simp only [Result.andThen]
 rw [Oper.upon_value]
 go_wp2
 go_ret
 exact ⟨rfl, rfl⟩
end Go.Proofs.YtkolilbebkkpdaaDoor

namespace Go.Proofs.YtkolilbebkkpdaaDoor
open Go.RowKit Go.Maps Go.BigFrame

/-- All but two blocks lie as they did. -/
structure Chg (w w' : World) (a b : Nat) : Prop where
 os : w'.os = w.os
 tape : w'.tape = w.tape
 out : w'.output = w.output
 size : w.heap.size ≤ w'.heap.size
 blk : ∀ i, i < w.heap.size → i ≠ a → i ≠ b → w'.heap[i]? = w.heap[i]?
theorem Chg.refl (w : World) (a b : Nat) : Chg w w a b := ⟨rfl, rfl, rfl, Nat.le_refl _, fun _ _ _ _ => rfl⟩
theorem Chg.trans {w v u : World} {a b : Nat} (h : Chg w v a b) (k : Chg v u a b) : Chg w u a b :=
 ⟨k.os.trans h.os, k.tape.trans h.tape, k.out.trans h.out, Nat.le_trans h.size k.size, fun i hi ha hb => (k.blk i (Nat.lt_of_lt_of_le hi h.size) ha hb).trans (h.blk i hi ha hb)⟩
theorem Chg.of_below {w w' : World} (h : Below w.heap.size w w') (a b : Nat) : Chg w w' a b := ⟨h.os, h.tape, h.output, h.size, fun i hi _ _ => h.block i hi⟩
theorem Chg.of_but1 {w w' : World} {a : Nat} (h : But w w' a) (b : Nat) : Chg w w' a b := ⟨h.os, h.tape, h.out, h.size, fun i hi ha _ => h.blk i hi ha⟩
theorem Chg.of_but2 {w w' : World} {b : Nat} (h : But w w' b) (a : Nat) : Chg w w' a b := ⟨h.os, h.tape, h.out, h.size, fun i hi _ hb => h.blk i hi hb⟩
theorem Chg.below {B : Nat} {w w' : World} {a b : Nat} (h : Chg w w' a b) (ha : B ≤ a) (hb : B ≤ b) (hB : B ≤ w.heap.size) : Below B w w' :=
 ⟨h.os, h.tape, h.out, h.size, fun i hi => h.blk i (by omega) (by omega) (by omega)⟩
/-- The members copied so far. -/
structure CpAt (W : World) (y : Lay) (m B : Nat) (pre : List Int) (l2 : List MRec) : Prop where
 keys : l2.map MRec.n = pre
 from_ : ∀ z ∈ l2, ∃ x ∈ y.l, x.n = z.n ∧ x.m = z.m
 map : MapV KI W m (memV l2)
 mb : ∀ z ∈ l2, MbAt W z
 far : ∀ i ∈ l2.flatMap MRec.foot, B ≤ i
 nd : (l2.flatMap MRec.foot).Nodup
theorem perm_map_ex {α β : Type} {f : α → β} {P B : List β} (h : P.Perm B) : ∀ A : List α, A.map f = P → ∃ A' : List α, A'.Perm A ∧ A'.map f = B := by
 induction h with
 | nil => intro A hA; exact ⟨A, List.Perm.refl _, hA⟩
 | cons x _ ih =>
  intro A hA
  cases A with
  | nil => cases hA
  | cons a A =>
   rw [List.map_cons] at hA
   injection hA with h1 h2
   obtain ⟨A', h3, h4⟩ := ih A h2
   exact ⟨a :: A', h3.cons a, by rw [List.map_cons, h1, h4]⟩
 | swap x y l =>
  intro A hA
  match A, hA with
  | a :: b :: A, hA =>
   simp only [List.map_cons, List.cons.injEq] at hA
   obtain ⟨h1, h2, h3⟩ := hA
   exact ⟨b :: a :: A, List.Perm.swap .., by simp [h1, h2, h3]⟩
 | trans _ _ ih1 ih2 =>
  intro A hA
  obtain ⟨A1, h1, h2⟩ := ih1 A hA
  obtain ⟨A2, h3, h4⟩ := ih2 A1 h2
  exact ⟨A2, h3.trans h1, h4⟩
theorem nodup_of_map {α β : Type} (f : α → β) {l : List α} (h : (l.map f).Nodup) : l.Nodup := List.Pairwise.of_map f (fun _ _ hab e => hab (congrArg f e)) h
/-- All are copied: the copy's layout, in the roll's row. -/
theorem CpAt.done {w W : World} {y : Lay} {s : RS} {m B : Nat} {pre : List Int} {l2 : List MRec} (h : CpAt W y m B pre l2) (hR : RollAt w y s) (hp : pre.Perm ((memV y.l).map Prod.fst)) {r c i k : Nat}
  (hblk : W.heap[r]? = some (.cells (rollCells ⟨r, c, i, k, m, []⟩ s.bk) 81 (0, 0))) (hc : MapV KI W c cardsL) (hi : MapV KI W i (setV s.ins)) (hk : MapV KI W k (setV (s.ins ++ s.gone)))
  (hB : r < B ∧ c < B ∧ i < B ∧ k < B ∧ m < B) (hne : [r, c, i, k, m].Nodup) :
  ∃ l3, RollAt W ⟨r, c, i, k, m, l3⟩ s ∧ ∀ j ∈ l3.flatMap MRec.foot, B ≤ j := by
 have hkn : (y.l.map MRec.n).Nodup := by have := hR.ms.nd; rwa [keys_memV] at this
 rw [keys_memV] at hp
 have hn2 : (l2.map MRec.n).Nodup := by rw [h.keys]; exact hp.nodup_iff.2 hkn
 have hperm : (l2.map fun x => (x.n, x.m)).Perm (y.l.map fun x => (x.n, x.m)) := by
  have hnd1 : (l2.map fun x => (x.n, x.m)).Nodup := by
   refine nodup_of_map Prod.fst ?_
   rw [List.map_map]; exact hn2
  have hnd2 : (y.l.map fun x => (x.n, x.m)).Nodup := by
   refine nodup_of_map Prod.fst ?_
   rw [List.map_map]; exact hkn
  refine (List.perm_ext_iff_of_nodup hnd1 hnd2).2 fun p => ⟨fun hp1 => ?_, fun hp1 => ?_⟩
  ·obtain ⟨z, hz, rfl⟩ := List.mem_map.1 hp1
   obtain ⟨x, hx, e1, e2⟩ := h.from_ z hz
   exact List.mem_map.2 ⟨x, hx, by rw [e1, e2]⟩
  ·obtain ⟨x, hx, rfl⟩ := List.mem_map.1 hp1
   have hm : x.n ∈ l2.map MRec.n := by rw [h.keys]; exact hp.mem_iff.2 (List.mem_map.2 ⟨x, hx, rfl⟩)
   obtain ⟨z, hz, e⟩ := List.mem_map.1 hm
   obtain ⟨x', hx', e1, e2⟩ := h.from_ z hz
   have := hR.one hx hx' (by rw [e1, e])
   exact List.mem_map.2 ⟨z, hz, by rw [← e2, e, ← this]⟩
 obtain ⟨l3, h3, h4⟩ := perm_map_ex hperm l2 rfl
 have hfp : (l3.flatMap MRec.foot).Perm (l2.flatMap MRec.foot) := h3.flatMap_right _
 have hfar : ∀ j ∈ l3.flatMap MRec.foot, B ≤ j := fun j hj => h.far j (hfp.mem_iff.1 hj)
 refine ⟨l3, ⟨hblk, hc, hi, hk, ?_, fun x hx => h.mb x (h3.mem_iff.1 hx), h4.trans hR.eq, ?_⟩, hfar⟩
 ·have hp3 : (memV l3).Perm (memV l2) := h3.map _
  have hn3 : ((memV l3).map Prod.fst).Nodup := by
   rw [keys_memV]
   exact (h3.map MRec.n).nodup_iff.2 hn2
  refine h.map.congr hn3 fun a => ?_
  have hn2' : ((memV l2).map Prod.fst).Nodup := by rw [keys_memV]; exact hn2
  cases e : lk (memV l2) a with
  | some v => exact lk_of_mem hn3 (hp3.mem_iff.2 (lk_mem e))
  | none =>
   rw [lk_none] at e ⊢
   exact fun p hp => e p (hp3.mem_iff.1 hp)
 ·unfold Lay.foot
  show ([r, c, i, k, m] ++ l3.flatMap MRec.foot).Nodup
  refine List.nodup_append.2 ⟨hne, hfp.nodup_iff.2 h.nd, fun a ha b hb e => ?_⟩
  have := hfar b hb
  simp only [List.mem_cons, List.not_mem_nil, or_false] at ha
  omega
theorem putL_new {ks : List (Int × Value)} {a : Int} {v : Value} (h : a ∉ ks.map Prod.fst) : putL ks a v = ks ++ [(a, v)] := by
 unfold putL
 rw [if_neg (fun e => h (lk_isSome.1 e))]
theorem CpAt.step {W W' : World} {y : Lay} {m B rg : Nat} {pre : List Int} {l2 : List MRec} (h : CpAt W y m B pre l2) (hB : B ≤ W.heap.size) (hm : m < B) (hrg : rg < B) (hC : Chg W W' m rg) {x z : MRec} (hx : x ∈ y.l) (hn : x.n = z.n) (hxm : x.m = z.m) (hnp : x.n ∉ pre)
  (hM : MapV KI W' m (putL (memV l2) z.n (.pointer (some ⟨z.a, 0, none⟩)))) (hz : MbAt W' z) (hf : z.foot.Nodup) (hnew : ∀ i ∈ z.foot, W.heap.size ≤ i) : CpAt W' y m B (pre ++ [x.n]) (l2 ++ [z]) := by
 rw [putL_new (by rw [keys_memV, h.keys, ← hn]; exact hnp)] at hM
 refine ⟨by rw [List.map_append, h.keys, hn]; rfl, fun u hu => ?_, ?_, fun u hu => ?_, fun i hi => ?_, ?_⟩
 ·rcases List.mem_append.1 hu with hu | hu
  ·exact h.from_ u hu
  ·rw [List.mem_singleton] at hu; subst hu; exact ⟨x, hx, hn, hxm⟩
 ·unfold memV at hM ⊢
  rw [List.map_append]
  exact hM
 ·rcases List.mem_append.1 hu with hu | hu
  ·refine (h.mb u hu).keep hC.size fun i hi => ?_
   have h1 := h.far i (List.mem_flatMap.2 ⟨u, hu, hi⟩)
   exact hC.blk i ((h.mb u hu).lt i hi) (by omega) (by omega)
  ·rw [List.mem_singleton] at hu; subst hu; exact hz
 ·rw [List.flatMap_append] at hi
  rcases List.mem_append.1 hi with hi | hi
  ·exact h.far i hi
  ·have := hnew i (by simpa using hi)
   omega
 ·rw [List.flatMap_append]
  refine List.nodup_append.2 ⟨h.nd, by simpa using hf, fun a ha b hb e => ?_⟩
  obtain ⟨u, hu, hau⟩ := List.mem_flatMap.1 ha
  have h1 := (h.mb u hu).lt a hau
  have h2 := hnew b (by simpa using hb)
  omega
theorem five_allocs (w : World) (o1 o2 o3 o4 o5 : Obj) : ∀ W, W = ((((w.alloc o1).alloc o2).alloc o3).alloc o4).alloc o5 → W.heap[w.heap.size]? = some o1 ∧ W.heap[w.heap.size + 1]? = some o2 ∧ W.heap[w.heap.size + 2]? = some o3 ∧ W.heap[w.heap.size + 3]? = some o4 ∧ W.heap[w.heap.size + 4]? = some o5 ∧ Below w.heap.size w W ∧ W.heap.size = w.heap.size + 5 := by
 rintro W rfl
 have g1 := Below.lit w o1
 have g2 := Below.lit (w.alloc o1) o2
 have g3 := Below.lit ((w.alloc o1).alloc o2) o3
 have g4 := Below.lit (((w.alloc o1).alloc o2).alloc o3) o4
 have g5 := Below.lit ((((w.alloc o1).alloc o2).alloc o3).alloc o4) o5
 have z1 := World.alloc_heap_new w o1
 have z2 := World.alloc_heap_new (w.alloc o1) o2
 have z3 := World.alloc_heap_new ((w.alloc o1).alloc o2) o3
 have z4 := World.alloc_heap_new (((w.alloc o1).alloc o2).alloc o3) o4
 have z5 := World.alloc_heap_new ((((w.alloc o1).alloc o2).alloc o3).alloc o4) o5
 simp only [World.size_alloc] at g2 g3 g4 g5 z2 z3 z4 z5
 refine ⟨?_, ?_, ?_, ?_, ?_, ?_, by simp⟩
 ·rw [g5.block _ (by omega), g4.block _ (by omega), g3.block _ (by omega), g2.block _ (by omega)]; exact z1
 ·rw [g5.block _ (by omega), g4.block _ (by omega), g3.block _ (by omega)]; exact z2
 ·rw [g5.block _ (by omega), g4.block _ (by omega)]; exact z3
 ·rw [g5.block _ (by omega)]; exact z4
 ·exact z5
 ·exact (((g1.trans (g2.mono (by omega))).trans (g3.mono (by omega))).trans (g4.mono (by omega))).trans (g5.mono (by omega))
end Go.Proofs.YtkolilbebkkpdaaDoor

namespace Go.Proofs.YtkolilbebkkpdaaDoor
open Go.RowKit Go.Maps Go.BigFrame
attribute [local go_sem] in_gr

theorem mapV_nil {W : World} {b : Nat} (h : W.heap[b]? = some (.map #[] 0)) : MapV KI W b ([] : List (Int × Value)) := by
 obtain ⟨es, ck, h1, h2⟩ := MapV.same (MapV.made (K := KI) W)
 rw [World.alloc_heap_new] at h1
 injection h1 with h1
 injection h1 with h1 h3
 subst h1; subst h3
 exact h2 W b h
/-- What is made ahead of the members. -/
structure CB (w W : World) (s : RS) (r c i k m : Nat) : Prop where
 blk : W.heap[r]? = some (.cells (rollCells ⟨r, c, i, k, m, []⟩ s.bk) 81 (0, 0))
 hc : MapV KI W c cardsL
 hi : MapV KI W i (setV s.ins)
 hk : MapV KI W k (setV (s.ins ++ s.gone))
 hm : MapV KI W m ([] : List (Int × Value))
 hb : Below w.heap.size w W
 low : w.heap.size ≤ r ∧ w.heap.size ≤ c ∧ w.heap.size ≤ i ∧ w.heap.size ≤ k ∧ w.heap.size ≤ m
 nd : [r, c, i, k, m].Nodup
set_option maxRecDepth 100000 in
set_option maxHeartbeats 8000000 in
theorem Copy_any (w : World) (y : Lay) (s : RS) (kk : Nat) (hR : RollAt w y s) (hs : s.Ok kk) :
  Calls Tryd.prog 32 #[.pointer (some ⟨y.r, 0, none⟩)] w fun e w' => ∃ y', e = .returned (.pointer (some ⟨y'.r, 0, none⟩)) ∧ RollAt w' y' s ∧ (∀ i ∈ y'.foot, w.heap.size ≤ i) ∧ Below w.heap.size w w' := by
 obtain ⟨es0, ck0, hg0, hs0⟩ := hR.cards.same
 obtain ⟨es1, ck1, hg1, hs1⟩ := hR.ins.same
 obtain ⟨es2, ck2, hg2, hs2⟩ := hR.was.same
 have hy0 := hR.cards.lt
 have hy1 := hR.ins.lt
 have hy2 := hR.was.lt
 have k0 := hR.c0
 have k1 := hR.c1
 have k2 := hR.c2
 have k4 := hR.c4
 go_enter Tryd.func32, Tryd.ntmps32
 go_upto_region 1 with fail
 go_cut [3] from 8 to 29 (fun v T => ∃ r c i k m : Nat, v = .pointer (some ⟨r, 0, none⟩) ∧ CB w T s r c i k m)
 case first =>
  obtain ⟨wd, hwd⟩ : ∃ wd, Hid (w.drew = wd) := ⟨_, Lib.hid rfl⟩
  have hw0 : Below w.heap.size w wd := by rw [← hwd.out]; exact (Below.refl _ _).drew
  have hzw : w.heap.size = wd.heap.size := by rw [← hwd.out]; rfl
  have hb0 : Below wd.heap.size wd wd := Below.refl _ _
  replace hg0 := (hw0.block _ hy0).trans hg0
  replace hg1 := (hw0.block _ hy1).trans hg1
  replace hg2 := (hw0.block _ hy2).trans hg2
  replace k0 := (hw0.cell (cell_lt k0)).trans k0
  replace k1 := (hw0.cell (cell_lt k1)).trans k1
  replace k2 := (hw0.cell (cell_lt k2)).trans k2
  replace k4 := (hw0.cell (cell_lt k4)).trans k4
  replace hy0 : y.c < wd.heap.size := by omega
  replace hy1 : y.i < wd.heap.size := by omega
  replace hy2 : y.w < wd.heap.size := by omega
  have hzl : w.heap.size ≤ wd.heap.size := by omega
  clear hzw
  refine wp_region_D (D := fun T => Below wd.heap.size wd T) (by kernel_rfl) ?_
  rw [hwd.out]
  change wpAnyD _ _ _ _ _ 23 _ _ _
  apply tkD 0 hb0 rfl
  ·intro T hT
   have hT0 := (hT.cell (cell_lt k0)).trans k0
   have hT1 := (hT.cell (cell_lt k1)).trans k1
   have hT2 := (hT.cell (cell_lt k2)).trans k2
   have hT3 := (hT.cell (cell_lt k4)).trans k4
   go_simp
   try rfl
  try go_frame
  apply tkD 1 hb0 rfl
  ·intro T hT
   have hT0 := (hT.cell (cell_lt k0)).trans k0
   have hT1 := (hT.cell (cell_lt k1)).trans k1
   have hT2 := (hT.cell (cell_lt k2)).trans k2
   have hT3 := (hT.cell (cell_lt k4)).trans k4
   go_simp
   try rfl
  try go_frame
  apply tkD 2 hb0 rfl
  ·intro T hT
   have hT0 := (hT.cell (cell_lt k0)).trans k0
   have hT1 := (hT.cell (cell_lt k1)).trans k1
   have hT2 := (hT.cell (cell_lt k2)).trans k2
   have hT3 := (hT.cell (cell_lt k4)).trans k4
   go_simp
   try rfl
  try go_frame
  apply tkD 3 hb0 rfl
  ·intro T hT
   have hT0 := (hT.cell (cell_lt k0)).trans k0
   have hT1 := (hT.cell (cell_lt k1)).trans k1
   have hT2 := (hT.cell (cell_lt k2)).trans k2
   have hT3 := (hT.cell (cell_lt k4)).trans k4
   go_simp
   try rfl
  try go_frame
  apply tkD 5 hb0 rfl
  ·intro T hT
   have hT0 := (hT.cell (cell_lt k0)).trans k0
   have hT1 := (hT.cell (cell_lt k1)).trans k1
   have hT2 := (hT.cell (cell_lt k2)).trans k2
   have hT3 := (hT.cell (cell_lt k4)).trans k4
   go_simp
   try rfl
  try go_frame
  apply tkD 6 hb0 rfl
  ·intro T hT
   have hT0 := (hT.cell (cell_lt k0)).trans k0
   have hT1 := (hT.cell (cell_lt k1)).trans k1
   have hT2 := (hT.cell (cell_lt k2)).trans k2
   have hT3 := (hT.cell (cell_lt k4)).trans k4
   go_simp
   try rfl
  try go_frame
  apply tkD 7 hb0 rfl
  ·intro T hT
   have hT0 := (hT.cell (cell_lt k0)).trans k0
   have hT1 := (hT.cell (cell_lt k1)).trans k1
   have hT2 := (hT.cell (cell_lt k2)).trans k2
   have hT3 := (hT.cell (cell_lt k4)).trans k4
   go_simp
   try rfl
  try go_frame
  apply tkD 8 hb0 rfl
  ·intro T hT
   have hT0 := (hT.cell (cell_lt k0)).trans k0
   have hT1 := (hT.cell (cell_lt k1)).trans k1
   have hT2 := (hT.cell (cell_lt k2)).trans k2
   have hT3 := (hT.cell (cell_lt k4)).trans k4
   go_simp
   try rfl
  try go_frame
  apply tkD 10 hb0 rfl
  ·intro T hT
   have hT0 := (hT.cell (cell_lt k0)).trans k0
   have hT1 := (hT.cell (cell_lt k1)).trans k1
   have hT2 := (hT.cell (cell_lt k2)).trans k2
   have hT3 := (hT.cell (cell_lt k4)).trans k4
   go_simp
   try rfl
  try go_frame
  apply tkD 11 hb0 rfl
  ·intro T hT
   have hT0 := (hT.cell (cell_lt k0)).trans k0
   have hT1 := (hT.cell (cell_lt k1)).trans k1
   have hT2 := (hT.cell (cell_lt k2)).trans k2
   have hT3 := (hT.cell (cell_lt k4)).trans k4
   go_simp
   try rfl
  try go_frame
  apply tkD 12 hb0 rfl
  ·intro T hT
   have hT0 := (hT.cell (cell_lt k0)).trans k0
   have hT1 := (hT.cell (cell_lt k1)).trans k1
   have hT2 := (hT.cell (cell_lt k2)).trans k2
   have hT3 := (hT.cell (cell_lt k4)).trans k4
   go_simp
   try rfl
  try go_frame
  apply tkD 13 hb0 rfl
  ·intro T hT
   have hT0 := (hT.cell (cell_lt k0)).trans k0
   have hT1 := (hT.cell (cell_lt k1)).trans k1
   have hT2 := (hT.cell (cell_lt k2)).trans k2
   have hT3 := (hT.cell (cell_lt k4)).trans k4
   go_simp
   try rfl
  try go_frame
  apply tkD 16 hb0 rfl
  ·intro T hT
   have hT0 := (hT.cell (cell_lt k0)).trans k0
   have hT1 := (hT.cell (cell_lt k1)).trans k1
   have hT2 := (hT.cell (cell_lt k2)).trans k2
   have hT3 := (hT.cell (cell_lt k4)).trans k4
   go_simp
   try rfl
  try go_frame
  apply tkD 17 hb0 rfl
  ·intro T hT
   have hT0 := (hT.cell (cell_lt k0)).trans k0
   have hT1 := (hT.cell (cell_lt k1)).trans k1
   have hT2 := (hT.cell (cell_lt k2)).trans k2
   have hT3 := (hT.cell (cell_lt k4)).trans k4
   go_simp
   try rfl
  try go_frame
  apply tkD 18 hb0 rfl
  ·intro T hT
   have hT0 := (hT.cell (cell_lt k0)).trans k0
   have hT1 := (hT.cell (cell_lt k1)).trans k1
   have hT2 := (hT.cell (cell_lt k2)).trans k2
   have hT3 := (hT.cell (cell_lt k4)).trans k4
   go_simp
   try rfl
  try go_frame
  apply tkD 19 hb0 rfl
  ·intro T hT
   have hT0 := (hT.cell (cell_lt k0)).trans k0
   have hT1 := (hT.cell (cell_lt k1)).trans k1
   have hT2 := (hT.cell (cell_lt k2)).trans k2
   have hT3 := (hT.cell (cell_lt k4)).trans k4
   go_simp
   try rfl
  try go_frame
  refine twoD 4 15 (by kernel_rfl) rfl rfl (by kernel_rfl) (by kernel_rfl) (fun K hK => ?_) (fun K hK => ?_)
  ·go_simp
   refine (Clone_cards _ _ _ _ ((hb0.block _ hy0).trans hg0)).mono ?_
   rintro e T ⟨rfl, rfl⟩
   have hb1 : Below wd.heap.size wd (wd.alloc (.map es0 ck0)) := hb0.trans ((Below.lit _ _).mono hb0.size)
   refine hK _ _ ⟨hb1, ?_⟩
   clear hK K
   try go_frame
   refine twoD 9 15 (by kernel_rfl) rfl rfl (by kernel_rfl) (by kernel_rfl) (fun K hK => ?_) (fun K hK => ?_)
   ·go_simp
    refine (Clone_bools _ _ _ _ ((hb1.block _ hy1).trans hg1)).mono ?_
    rintro e T ⟨rfl, rfl⟩
    have hb2 : Below wd.heap.size wd ((wd.alloc (.map es0 ck0)).alloc (.map es1 ck1)) := hb1.trans ((Below.lit _ _).mono hb1.size)
    refine hK _ _ ⟨hb2, ?_⟩
    clear hK K
    try go_frame
    refine twoD 14 15 (by kernel_rfl) rfl rfl (by kernel_rfl) (by kernel_rfl) (fun K hK => ?_) (fun K hK => ?_)
    ·go_simp
     refine (Clone_bools _ _ _ _ ((hb2.block _ hy2).trans hg2)).mono ?_
     rintro e T ⟨rfl, rfl⟩
     have hb3 : Below wd.heap.size wd (((wd.alloc (.map es0 ck0)).alloc (.map es1 ck1)).alloc (.map es2 ck2)) := hb2.trans ((Below.lit _ _).mono hb2.size)
     refine hK _ _ ⟨hb3, ?_⟩
     clear hK K
     try go_frame
     refine oneD 15 (by kernel_rfl) rfl (by kernel_rfl) (fun K hK => ?_)
     go_simp
     have hb4 : Below wd.heap.size wd ((((wd.alloc (.map es0 ck0)).alloc (.map es1 ck1)).alloc (.map es2 ck2)).alloc (.map #[] 0)) := hb3.trans ((Below.lit _ _).mono hb3.size)
     refine hK _ _ ⟨hb4, ?_⟩
     clear hK K
     try go_frame
     apply tkD 20 hb4 rfl
     ·intro T hT
      go_simp
      try rfl
     try go_frame
     refine oneD 21 (by kernel_rfl) rfl (by kernel_rfl) (fun K hK => ?_)
     go_simp
     have hb5 : Below wd.heap.size wd (((((wd.alloc (.map es0 ck0)).alloc (.map es1 ck1)).alloc (.map es2 ck2)).alloc (.map #[] 0)).alloc (.cells #[.map (some wd.heap.size), .map (some (wd.heap.size + 1)), .map (some (wd.heap.size + 2)), .map (some (wd.heap.size + 3)), .int .i64 s.bk] 81)) := hb4.trans ((Below.lit _ _).mono hb4.size)
     refine hK _ _ ⟨hb5, ?_⟩
     clear hK K
     try go_frame
     apply tkD 22 hb5 rfl
     ·intro T hT
      go_simp
      try rfl
     try go_frame
     refine wpAnyD_done (by kernel_rfl) ?_ _
     go_wp2_with fail
     go_meet
     obtain ⟨z1, z2, z3, z4, z5, hbF, hzF⟩ := five_allocs wd (.map es0 ck0) (.map es1 ck1) (.map es2 ck2) (.map #[] 0) (.cells #[.map (some wd.heap.size), .map (some (wd.heap.size + 1)), .map (some (wd.heap.size + 2)), .map (some (wd.heap.size + 3)), .int .i64 s.bk] 81) _ rfl
     refine ⟨wd.heap.size + 4, wd.heap.size, wd.heap.size + 1, wd.heap.size + 2, wd.heap.size + 3, rfl, ⟨z5, hs0 _ _ z1, hs1 _ _ z2, hs2 _ _ z3, mapV_nil z4, hw0.trans (hbF.mono hw0.size), ⟨by omega, by omega, by omega, by omega, by omega⟩, by simp⟩⟩
    ·go_simp
     have hb3 : Below wd.heap.size wd (((wd.alloc (.map es0 ck0)).alloc (.map es1 ck1)).alloc (.map #[] 0)) := hb2.trans ((Below.lit _ _).mono hb2.size)
     refine hK _ _ ⟨hb3, ?_⟩
     clear hK K
     try go_frame
     refine oneD 14 (by kernel_rfl) rfl (by kernel_rfl) (fun K hK => ?_)
     go_simp
     refine (Clone_bools _ _ _ _ ((hb3.block _ hy2).trans hg2)).mono ?_
     rintro e T ⟨rfl, rfl⟩
     have hb4 : Below wd.heap.size wd ((((wd.alloc (.map es0 ck0)).alloc (.map es1 ck1)).alloc (.map #[] 0)).alloc (.map es2 ck2)) := hb3.trans ((Below.lit _ _).mono hb3.size)
     refine hK _ _ ⟨hb4, ?_⟩
     clear hK K
     try go_frame
     apply tkD 20 hb4 rfl
     ·intro T hT
      go_simp
      try rfl
     try go_frame
     refine oneD 21 (by kernel_rfl) rfl (by kernel_rfl) (fun K hK => ?_)
     go_simp
     have hb5 : Below wd.heap.size wd (((((wd.alloc (.map es0 ck0)).alloc (.map es1 ck1)).alloc (.map #[] 0)).alloc (.map es2 ck2)).alloc (.cells #[.map (some wd.heap.size), .map (some (wd.heap.size + 1)), .map (some (wd.heap.size + 3)), .map (some (wd.heap.size + 2)), .int .i64 s.bk] 81)) := hb4.trans ((Below.lit _ _).mono hb4.size)
     refine hK _ _ ⟨hb5, ?_⟩
     clear hK K
     try go_frame
     apply tkD 22 hb5 rfl
     ·intro T hT
      go_simp
      try rfl
     try go_frame
     refine wpAnyD_done (by kernel_rfl) ?_ _
     go_wp2_with fail
     go_meet
     obtain ⟨z1, z2, z3, z4, z5, hbF, hzF⟩ := five_allocs wd (.map es0 ck0) (.map es1 ck1) (.map #[] 0) (.map es2 ck2) (.cells #[.map (some wd.heap.size), .map (some (wd.heap.size + 1)), .map (some (wd.heap.size + 3)), .map (some (wd.heap.size + 2)), .int .i64 s.bk] 81) _ rfl
     refine ⟨wd.heap.size + 4, wd.heap.size, wd.heap.size + 1, wd.heap.size + 3, wd.heap.size + 2, rfl, ⟨z5, hs0 _ _ z1, hs1 _ _ z2, hs2 _ _ z4, mapV_nil z3, hw0.trans (hbF.mono hw0.size), ⟨by omega, by omega, by omega, by omega, by omega⟩, by simp⟩⟩
   ·go_simp
    have hb2 : Below wd.heap.size wd ((wd.alloc (.map es0 ck0)).alloc (.map #[] 0)) := hb1.trans ((Below.lit _ _).mono hb1.size)
    refine hK _ _ ⟨hb2, ?_⟩
    clear hK K
    try go_frame
    refine oneD 9 (by kernel_rfl) rfl (by kernel_rfl) (fun K hK => ?_)
    go_simp
    refine (Clone_bools _ _ _ _ ((hb2.block _ hy1).trans hg1)).mono ?_
    rintro e T ⟨rfl, rfl⟩
    have hb3 : Below wd.heap.size wd (((wd.alloc (.map es0 ck0)).alloc (.map #[] 0)).alloc (.map es1 ck1)) := hb2.trans ((Below.lit _ _).mono hb2.size)
    refine hK _ _ ⟨hb3, ?_⟩
    clear hK K
    try go_frame
    refine oneD 14 (by kernel_rfl) rfl (by kernel_rfl) (fun K hK => ?_)
    go_simp
    refine (Clone_bools _ _ _ _ ((hb3.block _ hy2).trans hg2)).mono ?_
    rintro e T ⟨rfl, rfl⟩
    have hb4 : Below wd.heap.size wd ((((wd.alloc (.map es0 ck0)).alloc (.map #[] 0)).alloc (.map es1 ck1)).alloc (.map es2 ck2)) := hb3.trans ((Below.lit _ _).mono hb3.size)
    refine hK _ _ ⟨hb4, ?_⟩
    clear hK K
    try go_frame
    apply tkD 20 hb4 rfl
    ·intro T hT
     go_simp
     try rfl
    try go_frame
    refine oneD 21 (by kernel_rfl) rfl (by kernel_rfl) (fun K hK => ?_)
    go_simp
    have hb5 : Below wd.heap.size wd (((((wd.alloc (.map es0 ck0)).alloc (.map #[] 0)).alloc (.map es1 ck1)).alloc (.map es2 ck2)).alloc (.cells #[.map (some wd.heap.size), .map (some (wd.heap.size + 2)), .map (some (wd.heap.size + 3)), .map (some (wd.heap.size + 1)), .int .i64 s.bk] 81)) := hb4.trans ((Below.lit _ _).mono hb4.size)
    refine hK _ _ ⟨hb5, ?_⟩
    clear hK K
    try go_frame
    apply tkD 22 hb5 rfl
    ·intro T hT
     go_simp
     try rfl
    try go_frame
    refine wpAnyD_done (by kernel_rfl) ?_ _
    go_wp2_with fail
    go_meet
    obtain ⟨z1, z2, z3, z4, z5, hbF, hzF⟩ := five_allocs wd (.map es0 ck0) (.map #[] 0) (.map es1 ck1) (.map es2 ck2) (.cells #[.map (some wd.heap.size), .map (some (wd.heap.size + 2)), .map (some (wd.heap.size + 3)), .map (some (wd.heap.size + 1)), .int .i64 s.bk] 81) _ rfl
    refine ⟨wd.heap.size + 4, wd.heap.size, wd.heap.size + 2, wd.heap.size + 3, wd.heap.size + 1, rfl, ⟨z5, hs0 _ _ z1, hs1 _ _ z3, hs2 _ _ z4, mapV_nil z2, hw0.trans (hbF.mono hw0.size), ⟨by omega, by omega, by omega, by omega, by omega⟩, by simp⟩⟩
  ·go_simp
   have hb1 : Below wd.heap.size wd (wd.alloc (.map #[] 0)) := hb0.trans ((Below.lit _ _).mono hb0.size)
   refine hK _ _ ⟨hb1, ?_⟩
   clear hK K
   try go_frame
   refine oneD 4 (by kernel_rfl) rfl (by kernel_rfl) (fun K hK => ?_)
   go_simp
   refine (Clone_cards _ _ _ _ ((hb1.block _ hy0).trans hg0)).mono ?_
   rintro e T ⟨rfl, rfl⟩
   have hb2 : Below wd.heap.size wd ((wd.alloc (.map #[] 0)).alloc (.map es0 ck0)) := hb1.trans ((Below.lit _ _).mono hb1.size)
   refine hK _ _ ⟨hb2, ?_⟩
   clear hK K
   try go_frame
   refine oneD 9 (by kernel_rfl) rfl (by kernel_rfl) (fun K hK => ?_)
   go_simp
   refine (Clone_bools _ _ _ _ ((hb2.block _ hy1).trans hg1)).mono ?_
   rintro e T ⟨rfl, rfl⟩
   have hb3 : Below wd.heap.size wd (((wd.alloc (.map #[] 0)).alloc (.map es0 ck0)).alloc (.map es1 ck1)) := hb2.trans ((Below.lit _ _).mono hb2.size)
   refine hK _ _ ⟨hb3, ?_⟩
   clear hK K
   try go_frame
   refine oneD 14 (by kernel_rfl) rfl (by kernel_rfl) (fun K hK => ?_)
   go_simp
   refine (Clone_bools _ _ _ _ ((hb3.block _ hy2).trans hg2)).mono ?_
   rintro e T ⟨rfl, rfl⟩
   have hb4 : Below wd.heap.size wd ((((wd.alloc (.map #[] 0)).alloc (.map es0 ck0)).alloc (.map es1 ck1)).alloc (.map es2 ck2)) := hb3.trans ((Below.lit _ _).mono hb3.size)
   refine hK _ _ ⟨hb4, ?_⟩
   clear hK K
   try go_frame
   apply tkD 20 hb4 rfl
   ·intro T hT
    go_simp
    try rfl
   try go_frame
   refine oneD 21 (by kernel_rfl) rfl (by kernel_rfl) (fun K hK => ?_)
   go_simp
   have hb5 : Below wd.heap.size wd (((((wd.alloc (.map #[] 0)).alloc (.map es0 ck0)).alloc (.map es1 ck1)).alloc (.map es2 ck2)).alloc (.cells #[.map (some (wd.heap.size + 1)), .map (some (wd.heap.size + 2)), .map (some (wd.heap.size + 3)), .map (some wd.heap.size), .int .i64 s.bk] 81)) := hb4.trans ((Below.lit _ _).mono hb4.size)
   refine hK _ _ ⟨hb5, ?_⟩
   clear hK K
   try go_frame
   apply tkD 22 hb5 rfl
   ·intro T hT
    go_simp
    try rfl
   try go_frame
   refine wpAnyD_done (by kernel_rfl) ?_ _
   go_wp2_with fail
   go_meet
   obtain ⟨z1, z2, z3, z4, z5, hbF, hzF⟩ := five_allocs wd (.map #[] 0) (.map es0 ck0) (.map es1 ck1) (.map es2 ck2) (.cells #[.map (some (wd.heap.size + 1)), .map (some (wd.heap.size + 2)), .map (some (wd.heap.size + 3)), .map (some wd.heap.size), .int .i64 s.bk] 81) _ rfl
   refine ⟨wd.heap.size + 4, wd.heap.size + 1, wd.heap.size + 2, wd.heap.size + 3, wd.heap.size, rfl, ⟨z5, hs0 _ _ z2, hs1 _ _ z3, hs2 _ _ z4, mapV_nil z1, hw0.trans (hbF.mono hw0.size), ⟨by omega, by omega, by omega, by omega, by omega⟩, by simp⟩⟩
 case rest =>
  obtain ⟨r, c, i, k, m, rfl, hCB⟩ := hcut
  have hRc := hR.below hCB.hb
  have h3 := hRc.c3
  clear hg0 hg1 hg2 hs0 hs1 hs2 k0 k1 k2 k4 hy0 hy1 hy2
  have hlowm := hCB.low
  have hym := hR.ms.lt
  have hmn : m < wc.heap.size := hCB.hm.lt
  have hrn : r < wc.heap.size := blk_lt hCB.blk
  replace hlowm := Lib.hid hlowm
  replace hCB := Lib.hid hCB
  go_wp2_with (first
   | (at_range; refine wp_rng (K := KI) _ rfl _ 79 rfl 82 Tryd.underlying79 y.m (memV y.l) rfl hRc.ms ?_; intro w1 hrg1 hb1)
   | fail)
  go_frame
  have hz1 : wc.heap.size < w1.heap.size := hrg1.lt.2
  obtain ⟨rg, hrgn⟩ : ∃ rg, Hid (wc.heap.size = rg) := ⟨_, Lib.hid rfl⟩
  obtain ⟨B, hBn⟩ : ∃ B, Hid (w1.heap.size = B) := ⟨_, Lib.hid rfl⟩
  have hcp0 : CpAt w1 y m B [] [] := ⟨rfl, fun _ h => (by cases h), (hCB.out.hm).below hb1, fun _ h => (by cases h), fun _ h => (by cases h), List.nodup_nil⟩
  have hmB : m < B := by have := hBn.out; omega
  have hrB : rg < B := by have := hBn.out; have := hrgn.out; omega
  have hmr : m ≠ rg := by have := hrgn.out; omega
  have hymr : y.m ≠ m := by have := hlowm.out; omega
  rw [hrgn.out] at hrg1 ⊢
  replace hmB := Lib.hid hmB
  replace hrB := Lib.hid hrB
  replace hmr := Lib.hid hmr
  replace hymr := Lib.hid hymr
  have hC0 := Lib.hid (Chg.refl w1 m rg)
  clear h3 hRc hz1 hym hmn hrn
  go_loopw [4] (fun _ wr => ∃ pre l2, Rng KI wr y.m rg (memV y.l) pre ∧ CpAt wr y m B pre l2 ∧ Hid (Chg w1 wr m rg))
   (fun _ wr => wr.rangeLeft y.m rg)
  case atStart => exact ⟨[], [], hrg1, hcp0, hC0⟩
  case round =>
   obtain ⟨pre, l2, hrg, hcp, hC⟩ := hrel
   go_wp2_with (first
    | (at_next; refine wp_nxt (K := KI) _ rfl _ rfl y.m rg (memV y.l) pre rfl hrg ?_ ?_)
    | fail)
   ·intro hperm
    go_wp2_with fail
    go_ret
    have hCBo := hCB.out
    obtain ⟨nr, nrest⟩ := List.nodup_cons.1 hCBo.nd
    obtain ⟨nc, nrest⟩ := List.nodup_cons.1 nrest
    obtain ⟨ni, nrest⟩ := List.nodup_cons.1 nrest
    obtain ⟨nk, _⟩ := List.nodup_cons.1 nrest
    simp only [List.mem_cons, List.not_mem_nil, or_false, not_or] at nr nc ni nk
    have hrl := blk_lt hCBo.blk
    have hcl := hCBo.hc.lt
    have hil := hCBo.hi.lt
    have hkl := hCBo.hk.lt
    have hml := hCBo.hm.lt
    have hrge := hrgn.out
    have hBe := hBn.out
    have hsz1 := hb1.size
    have hst : ∀ j, j < wc.heap.size → j ≠ m → wr.heap[j]? = wc.heap[j]? := fun j hj hjm => (hC.out.blk j (by omega) hjm (by omega)).trans (hb1.block j hj)
    obtain ⟨l3, hl3, hfar⟩ := hcp.done hR hperm (r := r) (c := c) (i := i) (k := k) ((hst r hrl nr.2.2.2).trans hCBo.blk) (hCBo.hc.keep (hst c hcl nc.2.2)) (hCBo.hi.keep (hst i hil ni.2)) (hCBo.hk.keep (hst k hkl nk)) ⟨by omega, by omega, by omega, by omega, by omega⟩ hCBo.nd
    have hlo := hlowm.out
    have hsz0 := hCBo.hb.size
    refine ⟨⟨r, c, i, k, m, l3⟩, rfl, hl3, fun j hj => ?_, (hCBo.hb.trans (hb1.mono hsz0)).trans (hC.out.below (by omega) (by omega) (by omega))⟩
    unfold Lay.foot at hj
    simp only [List.mem_cons] at hj
    rcases hj with rfl | rfl | rfl | rfl | rfl | hj
    ·exact hlo.1
    ·exact hlo.2.1
    ·exact hlo.2.2.1
    ·exact hlo.2.2.2.1
    ·exact hlo.2.2.2.2
    ·have := hfar j hj; omega
   ·intro n v w2 hmem hnp hok hrg2 hlt hgr hen
    obtain ⟨x, hx, hxn, rfl⟩ := mem_memV hmem
    have hC2 : Chg wr w2 m rg := Chg.of_but2 (But.of_grown hgr) m
    have hC12 := hC.out.trans hC2
    have hbw2 : Below w.heap.size w w2 := by
     have h1 := hCB.out.hb.size
     have h2 := hb1.size
     have h3 := hlowm.out
     have h4 := hrgn.out
     exact (hCB.out.hb.trans (hb1.mono h1)).trans (hC12.below (by omega) (by omega) (by omega))
    have hM := (hR.below hbw2).mb x hx
    have q0 := hM.c0
    have q1 := hM.c1
    have qr : w2.cell? ⟨r, 3, none⟩ = some (.map (some m)) := by
     have h1 := blk_lt hCB.out.blk
     have h2 := hb1.size
     have h4 := hrgn.out
     obtain ⟨nr, _⟩ := List.nodup_cons.1 hCB.out.nd
     simp only [List.mem_cons, List.not_mem_nil, or_false, not_or] at nr
     have h5 : w2.heap[r]? = wc.heap[r]? := (hC12.blk r (by omega) nr.2.2.2 (by omega)).trans (hb1.block r h1)
     simp [World.cell?, h5, hCB.out.blk]; rfl
    have hlen : (memV l2).length ≤ 1000000 := by
     have h1 := hrg.perm_of
     have h2 := nodup_len pre _ h1.1 h1.2
     rw [keys_memV, List.length_map] at h2
     have h3 := congrArg List.length hR.eq
     rw [List.length_map] at h3
     have h4 := congrArg List.length hcp.keys
     rw [List.length_map] at h4
     have h5 := hs.fewM
     unfold memV
     rw [List.length_map]
     omega
    have hbr2 : Hid (B ≤ wr.heap.size) := Lib.hid (by rw [← hBn.out]; exact hC.out.size)
    replace hC12 := Lib.hid hC12
    replace hC2 := Lib.hid hC2
    replace hbw2 := Lib.hid hbw2
    cases hg : x.m.g with
    | none =>
     rw [hg] at q1
     replace q1 : w2.cell? ⟨x.a, 1, none⟩ = some (.pointer none) := q1
     replace hg := Lib.hid hg
     have hb3 := Below.lit w2 (.cells #[.int .i64 x.m.r, .pointer none] 87)
     have z3 := World.alloc_heap_new w2 (.cells #[.int .i64 x.m.r, .pointer none] 87)
     obtain ⟨w3, hw3, z3⟩ := nameW (p := fun W => W.heap[w2.heap.size]? = some (.cells #[.int .i64 x.m.r, .pointer none] 87 (0, 0))) z3
     rw [hw3.out] at hb3
     have q13 := (hb3.cell (cell_lt q1)).trans q1
     have qr3 := (hb3.cell (cell_lt qr)).trans qr
     have hM3 : MapV KI w3 m (memV l2) := by
      exact (hcp.map.keep ((But.of_grown hgr).blk _ hcp.map.lt hmr.out)).below hb3
     replace hb3 := Lib.hid hb3
     replace z3 := Lib.hid z3
     go_wp2_with (first
      | (rw [hw3.out])
      | (at_mapUpdate; refine wp_upd (K := KI) _ rfl _ _ _ 79 rfl 82 Tryd.underlying79 m (memV l2) hlen rfl hM3 n (.pointer (some ⟨w2.heap.size, 0, none⟩)) rfl rfl hok ?_; intro w6 hM6 hB6 hz6)
      | fail)
     have hwz := hcp.map.lt
     have hbr := hbr2.out
     have hC6 : Chg w2 w6 m rg := (Chg.of_below hb3.out m rg).trans (Chg.of_but1 hB6 rg)
     have hCr6 := hC2.out.trans hC6
     have hk6 : ∀ j, j < w2.heap.size → j ≠ m → w6.heap[j]? = w2.heap[j]? := fun j hj hjm => (hB6.blk j (Nat.lt_of_lt_of_le hj hb3.out.size) hjm).trans (hb3.out.block j hj)
     obtain ⟨hrg6, hleft⟩ := hrg2.keep (hk6 _ hrg2.lt.1 hymr.out) (hk6 _ hrg2.lt.2 (fun e => hmr.out e.symm))
     go_frame
     go_roundw
     case rel => exact ⟨pre ++ [n], l2 ++ [⟨n, ⟨x.m.r, none⟩, w2.heap.size, 0, 0, 0, 0⟩], hrg6, by
      have := hcp.step (z := ⟨n, ⟨x.m.r, none⟩, w2.heap.size, 0, 0, 0, 0⟩) hbr hmB.out hrB.out hCr6 hx hxn (by rw [← hg.out]) (hxn ▸ hnp) hM6 ⟨(hB6.blk _ (by rw [← hw3.out]; simp) (by show w2.heap.size ≠ m; have := hC2.out.size; have := hcp.map.lt; omega)).trans z3.out, fun d hd => by cases hd⟩ (by simp [MRec.foot, gfoot]) (by intro j hj; simp only [MRec.foot, gfoot, List.mem_singleton] at hj; rw [hj]; exact hC2.out.size)
      rwa [hxn] at this, Lib.hid (hC12.out.trans hC6)⟩
     case measure => rw [hleft]; exact hlt
    | some d =>
     rw [hg] at q1
     replace q1 : w2.cell? ⟨x.a, 1, none⟩ = some (.pointer (some ⟨x.g, 0, none⟩)) := q1
     have hD := hM.gd d hg
     have hgdok := hs.gd _ (hR.memS hx) d hg
     replace hg := Lib.hid hg
     have hb3 := Below.lit w2 (.cells #[.int .i64 x.m.r, .pointer (some ⟨x.g, 0, none⟩)] 87)
     have z3 := World.alloc_heap_new w2 (.cells #[.int .i64 x.m.r, .pointer (some ⟨x.g, 0, none⟩)] 87)
     have hz3 : (w2.alloc (.cells #[.int .i64 x.m.r, .pointer (some ⟨x.g, 0, none⟩)] 87)).heap.size = w2.heap.size + 1 := by simp
     obtain ⟨w3, hw3, z3, hz3⟩ := nameW (p := fun W => W.heap[w2.heap.size]? = some (.cells #[.int .i64 x.m.r, .pointer (some ⟨x.g, 0, none⟩)] 87 (0, 0)) ∧ W.heap.size = w2.heap.size + 1) ⟨z3, hz3⟩
     rw [hw3.out] at hb3
     have q13 := (hb3.cell (cell_lt q1)).trans q1
     have qr3 := (hb3.cell (cell_lt qr)).trans qr
     have hD3 : GdAt w3 x.g x.v x.e x.c d := hD.keep hb3.size (hb3.block _ (blk_lt hD.blk)) (hb3.block _ hD.vo.lt) (hb3.block _ hD.lt)
     have e0 := hD3.c0
     have e1 := hD3.c1
     have e2 := hD3.c2
     have e3 := hD3.c3
     have e4 := hD3.c4
     have e5 := hD3.c5
     have e6 := hD3.c6
     have e7 := hD3.c7
     have e8 := hD3.c8
     have hb4 := Below.lit w3 (.cells (gdCells x.v x.e x.c d) 90)
     have z4 := World.alloc_heap_new w3 (.cells (gdCells x.v x.e x.c d) 90)
     obtain ⟨g4, hg4n⟩ : ∃ g4, Hid (w3.heap.size = g4) := ⟨_, Lib.hid rfl⟩
     obtain ⟨a3, ha3n⟩ : ∃ a3, Hid (w2.heap.size = a3) := ⟨_, Lib.hid rfl⟩
     have hz4 : (w3.alloc (.cells (gdCells x.v x.e x.c d) 90)).heap.size = g4 + 1 := by rw [← hg4n.out]; simp
     obtain ⟨w4, hw4, hg4b, hz4⟩ := nameW (p := fun W => W.heap[w3.heap.size]? = some (.cells (gdCells x.v x.e x.c d) 90 (0, 0)) ∧ W.heap.size = g4 + 1) ⟨z4, hz4⟩
     rw [hw4.out] at hb4
     rw [hg4n.out] at hg4b
     rw [ha3n.out] at z3
     have hM4 : MapV KI w4 m (memV l2) := ((hcp.map.keep ((But.of_grown hgr).blk _ hcp.map.lt hmr.out)).below hb3).below hb4
     have hD4 : GdAt w4 x.g x.v x.e x.c d := hD3.keep hb4.size (hb4.block _ (blk_lt hD3.blk)) (hb4.block _ hD3.vo.lt) (hb4.block _ hD3.lt)
     have qr4 := (hb4.cell (cell_lt qr3)).trans qr3
     have hg34 : w3.heap.size = a3 + 1 := by rw [hz3, ha3n.out]
     have hg4a : g4 = a3 + 1 := by rw [← hg4n.out, hg34]
     have z34 : w4.heap[a3]? = some (.cells #[.int .i64 x.m.r, .pointer (some ⟨x.g, 0, none⟩)] 87 (0, 0)) := (hb4.block _ (by omega)).trans z3
     have ha1 : w4.cell? ⟨a3, 1, none⟩ = some (.pointer (some ⟨x.g, 0, none⟩)) := by simp [World.cell?, z34]
     have haf : w4.frozen? ⟨a3, 1, none⟩ = false := by simp [World.frozen?, z34]
     have f3 : w4.cell? ⟨g4, 3, none⟩ = some (.slice (some ⟨x.e, 0, none⟩) d.gs.length x.c) := by simp [World.cell?, hg4b, gdCells]
     have f6 : w4.cell? ⟨g4, 6, none⟩ = some (.map (some x.v)) := by simp [World.cell?, hg4b, gdCells]
     have ff3 : w4.frozen? ⟨g4, 3, none⟩ = false := by simp [World.frozen?, hg4b]
     have ff6 : w4.frozen? ⟨g4, 6, none⟩ = false := by simp [World.frozen?, hg4b]
     obtain ⟨es3, ck3, hgv, hsv⟩ := hD4.vo.same
     have hvl := hD4.vo.lt
     have hgs := hD4.gs
     have hlen2 : d.gs.length ≤ 1000000 := by have := hgdok.gl; omega
     have hpos : 0 < d.gs.length := List.length_pos_iff.2 hgdok.ne
     have hb34 : Below w2.heap.size w2 w4 := hb3.trans (hb4.mono hb3.size)
     replace hb3 := Lib.hid hb3
     replace hb4 := Lib.hid hb4
     replace hb34 := Lib.hid hb34
     replace z3 := Lib.hid z3
     replace z34 := Lib.hid z34
     replace hz3 := Lib.hid hz3
     replace hg34 := Lib.hid hg34
     replace hg4a := Lib.hid hg4a
     have hw4l : Hid (w3.alloc (.cells #[.int .i64 d.id.b, .int .i64 d.id.s, .int .u64 d.id.u, .slice (some ⟨x.e, 0, none⟩) d.gs.length x.c, .int .i64 d.n, .int .i64 d.t, .map (some x.v), .bool d.ob, .int .i64 d.la] 90) = w4) := hw4
     go_upto_region 8 with (first
      | (rw [hw3.out])
      | (rw [hw4l.out])
      | fail)
     rw [hg4n.out, ha3n.out]
     go_cut [7] from 54 to 61 (fun v T => v = .pointer (some ⟨g4, 0, none⟩) ∧ ∃ gb gcc mv : Nat, GdAt T g4 mv gb gcc d ∧ But w4 T g4 ∧ w4.heap.size ≤ gb ∧ w4.heap.size ≤ mv ∧ gb < mv)
     case first =>
      obtain ⟨wd, hwd⟩ : ∃ wd, Hid (w4.drew = wd) := ⟨_, Lib.hid rfl⟩
      have hbd : Below w4.heap.size w4 wd := by rw [← hwd.out]; exact (Below.refl _ _).drew
      have hzd : wd.heap.size = w4.heap.size := by rw [← hwd.out]; rfl
      replace f3 := (hbd.cell (cell_lt f3)).trans f3
      replace f6 := (hbd.cell (cell_lt f6)).trans f6
      replace ff3 : wd.frozen? ⟨g4, 3, none⟩ = false := by rw [← hwd.out]; exact ff3
      replace ff6 : wd.frozen? ⟨g4, 6, none⟩ = false := by rw [← hwd.out]; exact ff6
      replace hg4b := (hbd.block _ (blk_lt hg4b)).trans hg4b
      replace hgv := (hbd.block _ hvl).trans hgv
      replace hvl : x.v < wd.heap.size := by omega
      have hgsd := hgs.below hbd
      have hgw : g4 < wd.heap.size := cell_lt f3
      replace hzd := Lib.hid hzd
      refine wp_region_D (D := fun _ => True) (by kernel_rfl) ?_
      rw [hwd.out]
      change wpAnyD _ _ _ _ _ 10 _ _ _
      apply tkD 0 trivial rfl
      ·intro T hT
       go_simp
       try rfl
      try go_frame
      apply tkD 3 trivial rfl
      ·intro T hT
       go_simp
       try rfl
      try go_frame
      refine twoD 1 4 (by kernel_rfl) rfl rfl (by kernel_rfl) (by kernel_rfl) (fun K hK => ?_) (fun K hK => ?_)
      ·go_simp
       refine hK _ _ ⟨trivial, ?_⟩
       clear hK K
       try go_frame
       refine twoD 2 4 (by kernel_rfl) rfl rfl (by kernel_rfl) (by kernel_rfl) (fun K hK => ?_) (fun K hK => ?_)
       ·go_simp
        refine (Clone_pos _ _ d.gs x.c _ hgsd hlen2 hpos).mono ?_
        rintro e T ⟨gb, gcc, rfl, hgb1, hgb2, hgb3, hU5, hb5⟩
        refine hK _ _ ⟨trivial, ?_⟩
        clear hK K
        try go_frame
        have f6T := (hb5.cell (cell_lt f6)).trans f6
        refine oneD 4 (by kernel_rfl) rfl (by kernel_rfl) (fun K hK => ?_)
        go_simp
        refine hK _ _ ⟨trivial, ?_⟩
        clear hK K
        try go_frame
        refine oneD 5 (by kernel_rfl) rfl (by kernel_rfl) (fun K hK => ?_)
        go_simp
        refine (Clone_vouched T x.v es3 ck3 ((hb5.block _ hvl).trans hgv)).mono ?_
        rintro e T' ⟨rfl, rfl⟩
        refine hK _ _ ⟨trivial, ?_⟩
        clear hK K
        try go_frame
        have hb6 := Below.lit T (.map es3 ck3)
        have hb56 := hb5.trans (hb6.mono hb5.size)
        have n3 := (hb56.cell (cell_lt f3)).trans f3
        have n6 := (hb56.cell (cell_lt f6)).trans f6
        have nf3 := (hb56.frozen (cell_lt f3)).trans ff3
        have nf6 := (hb56.frozen (cell_lt f6)).trans ff6
        obtain ⟨w7, hw7⟩ : ∃ w7, Hid (T.alloc (.map es3 ck3) = w7) := ⟨_, Lib.hid rfl⟩
        have hz7 := World.alloc_heap_new T (.map es3 ck3)
        have hT7 : w7.heap.size = T.heap.size + 1 := by rw [← hw7.out]; simp
        rw [hw7.out] at hb6 hb56 n3 n6 nf3 nf6 hz7
        rw [hw7.out]
        have hB1 := But.of_grown (grown_cell w7 g4 3 (.slice (some ⟨gb, 0, none⟩) d.gs.length gcc))
        have hB2 := But.of_grown (grown_cell (w7.setCell ⟨g4, 3, none⟩ (.slice (some ⟨gb, 0, none⟩) d.gs.length gcc)) g4 6 (.map (some T.heap.size)))
        have hblk := setCell_blk (setCell_blk ((hb56.block _ (cell_lt f3)).trans hg4b) 3 (.slice (some ⟨gb, 0, none⟩) d.gs.length gcc)) 6 (.map (some T.heap.size))
        replace hT7 := Lib.hid hT7
        apply tkD 6 trivial rfl
        ·intro T hT
         go_simp
         try rfl
        try go_frame
        refine oneD 7 (by kernel_rfl) rfl (by kernel_rfl) (fun K hK => ?_)
        go_simp
        refine hK _ _ ⟨trivial, ?_⟩
        clear hK K
        try go_frame
        apply tkD 8 trivial rfl
        ·intro T hT
         go_simp
         try rfl
        try go_frame
        refine oneD 9 (by kernel_rfl) rfl (by kernel_rfl) (fun K hK => ?_)
        go_simp
        refine hK _ _ ⟨trivial, ?_⟩
        clear hK K
        try go_frame
        refine wpAnyD_done (by kernel_rfl) ?_ _
        go_wp2_with fail
        go_meet
        have hTs := hb5.size
        have hT7 := hT7.out
        have hg4 := cell_lt f3
        refine ⟨rfl, gb, gcc, T.heap.size, ⟨hblk, (hU5.below hb6).block (((hB1.trans hB2).blk _ (by omega) (by omega))), Nat.lt_of_lt_of_le (by omega) (hB1.trans hB2).size, hgb3, hsv _ _ (((hB1.trans hB2).blk _ (by omega) (by omega)).trans hz7)⟩, ?_, Nat.le_trans hbd.size hgb1, by have := hbd.size; omega, by omega⟩
        exact (But.of_below hbd g4).trans ((But.of_below hb56 g4).trans (hB1.trans hB2))
       ·go_simp
        refine hK _ _ ⟨trivial, ?_⟩
        clear hK K
        try go_frame
        refine oneD 2 (by kernel_rfl) rfl (by kernel_rfl) (fun K hK => ?_)
        go_simp
        refine (Clone_pos _ _ d.gs x.c _ hgsd hlen2 hpos).mono ?_
        rintro e T ⟨gb, gcc, rfl, hgb1, hgb2, hgb3, hU5, hb5⟩
        refine hK _ _ ⟨trivial, ?_⟩
        clear hK K
        try go_frame
        refine oneD 5 (by kernel_rfl) rfl (by kernel_rfl) (fun K hK => ?_)
        go_simp
        refine (Clone_vouched T x.v es3 ck3 ((hb5.block _ hvl).trans hgv)).mono ?_
        rintro e T' ⟨rfl, rfl⟩
        refine hK _ _ ⟨trivial, ?_⟩
        clear hK K
        try go_frame
        have hb6 := Below.lit T (.map es3 ck3)
        have hb56 := hb5.trans (hb6.mono hb5.size)
        have n3 := (hb56.cell (cell_lt f3)).trans f3
        have n6 := (hb56.cell (cell_lt f6)).trans f6
        have nf3 := (hb56.frozen (cell_lt f3)).trans ff3
        have nf6 := (hb56.frozen (cell_lt f6)).trans ff6
        obtain ⟨w7, hw7⟩ : ∃ w7, Hid (T.alloc (.map es3 ck3) = w7) := ⟨_, Lib.hid rfl⟩
        have hz7 := World.alloc_heap_new T (.map es3 ck3)
        have hT7 : w7.heap.size = T.heap.size + 1 := by rw [← hw7.out]; simp
        rw [hw7.out] at hb6 hb56 n3 n6 nf3 nf6 hz7
        rw [hw7.out]
        have hB1 := But.of_grown (grown_cell w7 g4 3 (.slice (some ⟨gb, 0, none⟩) d.gs.length gcc))
        have hB2 := But.of_grown (grown_cell (w7.setCell ⟨g4, 3, none⟩ (.slice (some ⟨gb, 0, none⟩) d.gs.length gcc)) g4 6 (.map (some T.heap.size)))
        have hblk := setCell_blk (setCell_blk ((hb56.block _ (cell_lt f3)).trans hg4b) 3 (.slice (some ⟨gb, 0, none⟩) d.gs.length gcc)) 6 (.map (some T.heap.size))
        replace hT7 := Lib.hid hT7
        apply tkD 6 trivial rfl
        ·intro T hT
         go_simp
         try rfl
        try go_frame
        refine oneD 7 (by kernel_rfl) rfl (by kernel_rfl) (fun K hK => ?_)
        go_simp
        refine hK _ _ ⟨trivial, ?_⟩
        clear hK K
        try go_frame
        apply tkD 8 trivial rfl
        ·intro T hT
         go_simp
         try rfl
        try go_frame
        refine oneD 9 (by kernel_rfl) rfl (by kernel_rfl) (fun K hK => ?_)
        go_simp
        refine hK _ _ ⟨trivial, ?_⟩
        clear hK K
        try go_frame
        refine wpAnyD_done (by kernel_rfl) ?_ _
        go_wp2_with fail
        go_meet
        have hTs := hb5.size
        have hT7 := hT7.out
        have hg4 := cell_lt f3
        refine ⟨rfl, gb, gcc, T.heap.size, ⟨hblk, (hU5.below hb6).block (((hB1.trans hB2).blk _ (by omega) (by omega))), Nat.lt_of_lt_of_le (by omega) (hB1.trans hB2).size, hgb3, hsv _ _ (((hB1.trans hB2).blk _ (by omega) (by omega)).trans hz7)⟩, ?_, Nat.le_trans hbd.size hgb1, by have := hbd.size; omega, by omega⟩
        exact (But.of_below hbd g4).trans ((But.of_below hb56 g4).trans (hB1.trans hB2))
      ·go_simp
       refine hK _ _ ⟨trivial, ?_⟩
       clear hK K
       try go_frame
       refine oneD 1 (by kernel_rfl) rfl (by kernel_rfl) (fun K hK => ?_)
       go_simp
       refine hK _ _ ⟨trivial, ?_⟩
       clear hK K
       try go_frame
       refine oneD 2 (by kernel_rfl) rfl (by kernel_rfl) (fun K hK => ?_)
       go_simp
       refine (Clone_pos _ _ d.gs x.c _ hgsd hlen2 hpos).mono ?_
       rintro e T ⟨gb, gcc, rfl, hgb1, hgb2, hgb3, hU5, hb5⟩
       refine hK _ _ ⟨trivial, ?_⟩
       clear hK K
       try go_frame
       refine oneD 5 (by kernel_rfl) rfl (by kernel_rfl) (fun K hK => ?_)
       go_simp
       refine (Clone_vouched T x.v es3 ck3 ((hb5.block _ hvl).trans hgv)).mono ?_
       rintro e T' ⟨rfl, rfl⟩
       refine hK _ _ ⟨trivial, ?_⟩
       clear hK K
       try go_frame
       have hb6 := Below.lit T (.map es3 ck3)
       have hb56 := hb5.trans (hb6.mono hb5.size)
       have n3 := (hb56.cell (cell_lt f3)).trans f3
       have n6 := (hb56.cell (cell_lt f6)).trans f6
       have nf3 := (hb56.frozen (cell_lt f3)).trans ff3
       have nf6 := (hb56.frozen (cell_lt f6)).trans ff6
       obtain ⟨w7, hw7⟩ : ∃ w7, Hid (T.alloc (.map es3 ck3) = w7) := ⟨_, Lib.hid rfl⟩
       have hz7 := World.alloc_heap_new T (.map es3 ck3)
       have hT7 : w7.heap.size = T.heap.size + 1 := by rw [← hw7.out]; simp
       rw [hw7.out] at hb6 hb56 n3 n6 nf3 nf6 hz7
       rw [hw7.out]
       have hB1 := But.of_grown (grown_cell w7 g4 3 (.slice (some ⟨gb, 0, none⟩) d.gs.length gcc))
       have hB2 := But.of_grown (grown_cell (w7.setCell ⟨g4, 3, none⟩ (.slice (some ⟨gb, 0, none⟩) d.gs.length gcc)) g4 6 (.map (some T.heap.size)))
       have hblk := setCell_blk (setCell_blk ((hb56.block _ (cell_lt f3)).trans hg4b) 3 (.slice (some ⟨gb, 0, none⟩) d.gs.length gcc)) 6 (.map (some T.heap.size))
       replace hT7 := Lib.hid hT7
       apply tkD 6 trivial rfl
       ·intro T hT
        go_simp
        try rfl
       try go_frame
       refine oneD 7 (by kernel_rfl) rfl (by kernel_rfl) (fun K hK => ?_)
       go_simp
       refine hK _ _ ⟨trivial, ?_⟩
       clear hK K
       try go_frame
       apply tkD 8 trivial rfl
       ·intro T hT
        go_simp
        try rfl
       try go_frame
       refine oneD 9 (by kernel_rfl) rfl (by kernel_rfl) (fun K hK => ?_)
       go_simp
       refine hK _ _ ⟨trivial, ?_⟩
       clear hK K
       try go_frame
       refine wpAnyD_done (by kernel_rfl) ?_ _
       go_wp2_with fail
       go_meet
       have hTs := hb5.size
       have hT7 := hT7.out
       have hg4 := cell_lt f3
       refine ⟨rfl, gb, gcc, T.heap.size, ⟨hblk, (hU5.below hb6).block (((hB1.trans hB2).blk _ (by omega) (by omega))), Nat.lt_of_lt_of_le (by omega) (hB1.trans hB2).size, hgb3, hsv _ _ (((hB1.trans hB2).blk _ (by omega) (by omega)).trans hz7)⟩, ?_, Nat.le_trans hbd.size hgb1, by have := hbd.size; omega, by omega⟩
       exact (But.of_below hbd g4).trans ((But.of_below hb56 g4).trans (hB1.trans hB2))
     case rest =>
      obtain ⟨rfl, gb, gcc, mv, hG5, hB5, hgbl, hmvl, hgbm⟩ := hcut
      have hg34e := hg34.out
      have hg4e := hg4a.out
      have hg4w := blk_lt hg4b
      have hml4 : m < a3 := by
       have h1 := hcp.map.lt
       have h2 := hC2.out.size
       have h3 := ha3n.out
       omega
      have hrl4 : r < a3 := by
       have h3 := ha3n.out
       have h4 := cell_lt qr
       have h4 : r < w2.heap.size := h4
       omega
      have hrm : r ≠ m := by
       obtain ⟨nr, _⟩ := List.nodup_cons.1 hCB.out.nd
       simp only [List.mem_cons, List.not_mem_nil, or_false, not_or] at nr
       exact nr.2.2.2
      have hkeep : ∀ j, j < a3 → wc.heap[j]? = w4.heap[j]? := fun j hj => hB5.blk j (by omega) (by omega)
      have z5 := (hB5.blk a3 (by omega) (by omega)).trans z34.out
      have b1 : wc.cell? ⟨a3, 1, none⟩ = some (.pointer (some ⟨x.g, 0, none⟩)) := by simp [World.cell?, z5]
      have b2 : wc.frozen? ⟨a3, 1, none⟩ = false := by simp [World.frozen?, z5]
      have hB9 := But.of_grown (grown_cell wc a3 1 (.pointer (some ⟨g4, 0, none⟩)))
      have z9 := setCell_blk z5 1 (.pointer (some ⟨g4, 0, none⟩))
      obtain ⟨w9, hw9, z9⟩ := nameW (p := fun W => W.heap[a3]? = some (.cells #[.int .i64 x.m.r, .pointer (some ⟨g4, 0, none⟩)] 87 (0, 0))) z9
      rw [hw9.out] at hB9
      have hM9 : MapV KI w9 m (memV l2) := (hM4.keep (hkeep m hml4)).keep (hB9.blk m (by have := hB5.size; omega) (by omega))
      have qr9 : w9.cell? ⟨r, 3, none⟩ = some (.map (some m)) := by
       have h1 : w9.heap[r]? = w4.heap[r]? := (hB9.blk r (by have := hB5.size; omega) (by omega)).trans (hkeep r hrl4)
       rw [← qr4]
       simp [World.cell?, h1]
      replace hkeep := Lib.hid hkeep
      replace z9 := Lib.hid z9
      replace hB9 := Lib.hid hB9
      replace hB5 := Lib.hid hB5
      replace hG5 := Lib.hid hG5
      replace hrm := Lib.hid hrm
      replace hml4 := Lib.hid hml4
      replace hrl4 := Lib.hid hrl4
      replace hg34e := Lib.hid hg34e
      replace hg4e := Lib.hid hg4e
      replace hgbl := Lib.hid hgbl
      replace hmvl := Lib.hid hmvl
      replace hgbm := Lib.hid hgbm
      clear z5
      go_wp2_with (first
       | (rw [hw9.out])
       | (at_mapUpdate; refine wp_upd (K := KI) _ rfl _ _ _ 79 rfl 82 Tryd.underlying79 m (memV l2) hlen rfl hM9 n (.pointer (some ⟨a3, 0, none⟩)) rfl rfl hok ?_; intro w6 hM6 hB6 hz6)
       | fail)
      have hbr := hbr2.out
      have hgb' := hgbl.out
      have hmv' := hmvl.out
      have hgm' := hgbm.out
      have hga := hg4e.out
      have hm3 := hml4.out
      have ha3 := ha3n.out
      have hs5 := hB5.out.size
      have hs9 := hB9.out.size
      have hs34 := hb34.out.size
      have hk6 : ∀ j, j < w2.heap.size → j ≠ m → w6.heap[j]? = w2.heap[j]? := fun j hj hjm =>
       (hB6.blk j (by omega) hjm).trans ((hB9.out.blk j (by omega) (by omega)).trans ((hB5.out.blk j (by omega) (by omega)).trans (hb34.out.block j hj)))
      have hC6 : Chg w2 w6 m rg := ⟨hB6.os.trans (hB9.out.os.trans (hB5.out.os.trans hb34.out.os)), hB6.tape.trans (hB9.out.tape.trans (hB5.out.tape.trans hb34.out.tape)), hB6.out.trans (hB9.out.out.trans (hB5.out.out.trans hb34.out.output)), by omega, fun j hj hjm _ => hk6 j hj hjm⟩
      have hCr6 := hC2.out.trans hC6
      obtain ⟨hrg6, hleft⟩ := hrg2.keep (hk6 _ hrg2.lt.1 hymr.out) (hk6 _ hrg2.lt.2 (fun e => hmr.out e.symm))
      have hgl := hG5.out.lt
      have hvl5 := hG5.out.vo.lt
      have hgbk := blk_lt hG5.out.blk
      have hMb : MbAt w6 ⟨n, ⟨x.m.r, some d⟩, a3, g4, mv, gb, gcc⟩ := by
       refine ⟨(hB6.blk a3 (blk_lt z9.out) (by omega)).trans z9.out, fun d' hd' => ?_⟩
       have hd' : some d = some d' := hd'
       injection hd' with hd'
       subst hd'
       exact hG5.out.keep (by omega) ((hB6.blk _ (by omega) (by omega)).trans (hB9.out.blk _ (by omega) (by omega))) ((hB6.blk _ (by omega) (by omega)).trans (hB9.out.blk _ (by omega) (by omega))) ((hB6.blk _ (by omega) (by omega)).trans (hB9.out.blk _ (by omega) (by omega)))
      go_frame
      go_roundw
      case rel => exact ⟨pre ++ [n], l2 ++ [⟨n, ⟨x.m.r, some d⟩, a3, g4, mv, gb, gcc⟩], hrg6, by
       have := hcp.step (z := ⟨n, ⟨x.m.r, some d⟩, a3, g4, mv, gb, gcc⟩) hbr hmB.out hrB.out hCr6 hx hxn (by rw [← hg.out]) (hxn ▸ hnp) hM6 hMb (by simp [MRec.foot, gfoot]; omega) (by
        intro j hj
        have hc2s := hC2.out.size
        simp only [MRec.foot, gfoot, List.mem_cons, List.not_mem_nil, or_false] at hj
        omega)
       rwa [hxn] at this, Lib.hid (hC12.out.trans hC6)⟩
      case measure => rw [hleft]; exact hlt
end Go.Proofs.YtkolilbebkkpdaaDoor

namespace Go.Proofs.YtkolilbebkkpdaaDoor
open Go.RowKit Go.Maps Go.BigFrame
attribute [local go_sem] in_gr

set_option maxRecDepth 100000 in
set_option maxHeartbeats 16000000 in
theorem gsame_any (w : World) (g v e c g' v' e' c' : Nat) (d d' : Gd) (hD : GdAt w g v e c d) (hD' : GdAt w g' v' e' c' d') (hl : d.gs.length ≤ 1000000) (hl' : d'.gs.length ≤ 1000000) :
  Calls Tryd.prog 72 #[.pointer (some ⟨g, 0, none⟩), .pointer (some ⟨g', 0, none⟩)] w fun e w' => e = .returned (.bool (sameG (some d) (some d'))) ∧ Below w.heap.size w w' := by
 have hst := id_stood
 have hgd := id_guard
 have a0 := GrIn.cells hD.c0
 have a1 := GrIn.cells hD.c1
 have a2 := GrIn.cells hD.c2
 have a3 := GrIn.cells hD.c3
 have a4 := GrIn.cells hD.c4
 have a5 := GrIn.cells hD.c5
 have a6 := GrIn.cells hD.c6
 have a7 := GrIn.cells hD.c7
 have a8 := GrIn.cells hD.c8
 have b0 := GrIn.cells hD'.c0
 have b1 := GrIn.cells hD'.c1
 have b2 := GrIn.cells hD'.c2
 have b3 := GrIn.cells hD'.c3
 have b4 := GrIn.cells hD'.c4
 have b5 := GrIn.cells hD'.c5
 have b6 := GrIn.cells hD'.c6
 have b7 := GrIn.cells hD'.c7
 have b8 := GrIn.cells hD'.c8
 have hsl : ∀ z : GrIn w, _ := fun z => SliceEq_any _ _ _ _ _ _ c c' z.at_ (hD.gs.below z.gr) (hD'.gs.below z.gr) hl hl'
 have hev : ∀ z : GrIn w, _ := fun z => EqualV_any z.at_ v v' _ _ (hD.vo.below z.gr) (hD'.vo.below z.gr)
 have hid := fun T => id_eql d.id d'.id T
 obtain ⟨x1, h1⟩ : ∃ x, Hid (decide (d.id = d'.id) = x) := ⟨_, Lib.hid rfl⟩
 obtain ⟨x2, h2⟩ : ∃ x, Hid (decide (d.gs = d'.gs) = x) := ⟨_, Lib.hid rfl⟩
 obtain ⟨x3, h3⟩ : ∃ x, Hid ((d.n == d'.n) = x) := ⟨_, Lib.hid rfl⟩
 obtain ⟨x4, h4⟩ : ∃ x, Hid ((d.t == d'.t) = x) := ⟨_, Lib.hid rfl⟩
 obtain ⟨x5, h5⟩ : ∃ x, Hid (eqV d.vo d'.vo = x) := ⟨_, Lib.hid rfl⟩
 obtain ⟨x6, h6⟩ : ∃ x, Hid ((d.ob == d'.ob) = x) := ⟨_, Lib.hid rfl⟩
 obtain ⟨x7, h7⟩ : ∃ x, Hid ((d.la == d'.la) = x) := ⟨_, Lib.hid rfl⟩
 have hres : Hid (sameG (some d) (some d') = (x1 && x2 && x3 && x4 && x5 && x6 && x7)) := Lib.hid (by
  rw [← h1.out, ← h2.out, ← h3.out, ← h4.out, ← h5.out, ← h6.out, ← h7.out]
  unfold sameG
  have hb : ∀ a b : Int, (a == b) = decide (a = b) := fun a b => by by_cases h : a = b <;> simp [h]
  have hc : ∀ a b : Bool, (a == b) = decide (a = b) := fun a b => by by_cases h : a = b <;> simp [h]
  rw [hb, hb, hb, hc])
 rw [hres.out]
 rw [h1.out] at hid
 rw [h2.out] at hsl
 rw [h5.out] at hev
 have q3 := h3.out
 have q4 := h4.out
 have q6 := h6.out
 have q7 := h7.out
 replace hsl := Lib.hid hsl
 replace hev := Lib.hid hev
 clear hres
 go_enter Tryd.func72, Tryd.ntmps72
 go_upto_region 3 with fail
 simp only [List.append_eq, List.cons_append, List.nil_append]
 cases x1 with
 | false =>
  refine wp_region_gr (by kernel_rfl) (by kernel_rfl) ?_
  repeat (go_big_quiet_step (first
   | (go_at_call 81; rename_i z; refine (hsl.out z).mono ?_; rintro e w' ⟨rfl, hbz⟩; exact ⟨rfl, z.on hbz⟩)
   | (go_at_call 82; rename_i z; refine (hev.out z).mono ?_; rintro e w' ⟨rfl, hbz⟩; exact ⟨rfl, z.on hbz⟩)))
  refine wpQuiet_nil ?_
  intro V2 hw10'
  obtain ⟨⟨_, hw_V2⟩, rfl⟩ := hw10'
  change Exit.then _ _ _ _ V2
  go_wp2_with fail
  go_ret
  exact ⟨rfl, hw_V2⟩
 | true =>
  cases x2 with
  | false =>
   refine wp_region_gr (by kernel_rfl) (by kernel_rfl) ?_
   repeat (go_big_quiet_step (first
    | (go_at_call 81; rename_i z; refine (hsl.out z).mono ?_; rintro e w' ⟨rfl, hbz⟩; exact ⟨rfl, z.on hbz⟩)
    | (go_at_call 82; rename_i z; refine (hev.out z).mono ?_; rintro e w' ⟨rfl, hbz⟩; exact ⟨rfl, z.on hbz⟩)))
   refine wpQuiet_nil ?_
   intro V2 hw10'
   obtain ⟨⟨_, hw_V2⟩, rfl⟩ := hw10'
   change Exit.then _ _ _ _ V2
   go_wp2_with fail
   go_ret
   exact ⟨rfl, hw_V2⟩
  | true =>
   cases x3 with
   | false =>
    refine wp_region_gr (by kernel_rfl) (by kernel_rfl) ?_
    repeat (go_big_quiet_step (first
     | (go_at_call 81; rename_i z; refine (hsl.out z).mono ?_; rintro e w' ⟨rfl, hbz⟩; exact ⟨rfl, z.on hbz⟩)
     | (go_at_call 82; rename_i z; refine (hev.out z).mono ?_; rintro e w' ⟨rfl, hbz⟩; exact ⟨rfl, z.on hbz⟩)))
    refine wpQuiet_nil ?_
    intro V2 hw10'
    obtain ⟨⟨_, hw_V2⟩, rfl⟩ := hw10'
    change Exit.then _ _ _ _ V2
    go_wp2_with fail
    go_ret
    exact ⟨rfl, hw_V2⟩
   | true =>
    cases x4 with
    | false =>
     refine wp_region_gr (by kernel_rfl) (by kernel_rfl) ?_
     repeat (go_big_quiet_step (first
      | (go_at_call 81; rename_i z; refine (hsl.out z).mono ?_; rintro e w' ⟨rfl, hbz⟩; exact ⟨rfl, z.on hbz⟩)
      | (go_at_call 82; rename_i z; refine (hev.out z).mono ?_; rintro e w' ⟨rfl, hbz⟩; exact ⟨rfl, z.on hbz⟩)))
     refine wpQuiet_nil ?_
     intro V2 hw10'
     obtain ⟨⟨_, hw_V2⟩, rfl⟩ := hw10'
     change Exit.then _ _ _ _ V2
     go_wp2_with fail
     go_ret
     exact ⟨rfl, hw_V2⟩
    | true =>
     cases x5 with
     | false =>
      refine wp_region_gr (by kernel_rfl) (by kernel_rfl) ?_
      repeat (go_big_quiet_step (first
       | (go_at_call 81; rename_i z; refine (hsl.out z).mono ?_; rintro e w' ⟨rfl, hbz⟩; exact ⟨rfl, z.on hbz⟩)
       | (go_at_call 82; rename_i z; refine (hev.out z).mono ?_; rintro e w' ⟨rfl, hbz⟩; exact ⟨rfl, z.on hbz⟩)))
      refine wpQuiet_nil ?_
      intro V2 hw10'
      obtain ⟨⟨_, hw_V2⟩, rfl⟩ := hw10'
      change Exit.then _ _ _ _ V2
      go_wp2_with fail
      go_ret
      exact ⟨rfl, hw_V2⟩
     | true =>
      cases x6 with
      | false =>
       refine wp_region_gr (by kernel_rfl) (by kernel_rfl) ?_
       repeat (go_big_quiet_step (first
        | (go_at_call 81; rename_i z; refine (hsl.out z).mono ?_; rintro e w' ⟨rfl, hbz⟩; exact ⟨rfl, z.on hbz⟩)
        | (go_at_call 82; rename_i z; refine (hev.out z).mono ?_; rintro e w' ⟨rfl, hbz⟩; exact ⟨rfl, z.on hbz⟩)))
       refine wpQuiet_nil ?_
       intro V2 hw10'
       obtain ⟨⟨_, hw_V2⟩, rfl⟩ := hw10'
       change Exit.then _ _ _ _ V2
       go_wp2_with fail
       go_ret
       exact ⟨rfl, hw_V2⟩
      | true =>
       cases x7 with
       | false =>
        refine wp_region_gr (by kernel_rfl) (by kernel_rfl) ?_
        repeat (go_big_quiet_step (first
         | (go_at_call 81; rename_i z; refine (hsl.out z).mono ?_; rintro e w' ⟨rfl, hbz⟩; exact ⟨rfl, z.on hbz⟩)
         | (go_at_call 82; rename_i z; refine (hev.out z).mono ?_; rintro e w' ⟨rfl, hbz⟩; exact ⟨rfl, z.on hbz⟩)))
        refine wpQuiet_nil ?_
        intro V2 hw10'
        obtain ⟨⟨_, hw_V2⟩, rfl⟩ := hw10'
        change Exit.then _ _ _ _ V2
        go_wp2_with fail
        go_ret
        exact ⟨rfl, hw_V2⟩
       | true =>
        refine wp_region_gr (by kernel_rfl) (by kernel_rfl) ?_
        repeat (go_big_quiet_step (first
         | (go_at_call 81; rename_i z; refine (hsl.out z).mono ?_; rintro e w' ⟨rfl, hbz⟩; exact ⟨rfl, z.on hbz⟩)
         | (go_at_call 82; rename_i z; refine (hev.out z).mono ?_; rintro e w' ⟨rfl, hbz⟩; exact ⟨rfl, z.on hbz⟩)))
        refine wpQuiet_nil ?_
        intro V2 hw10'
        obtain ⟨⟨_, hw_V2⟩, rfl⟩ := hw10'
        change Exit.then _ _ _ _ V2
        go_wp2_with fail
        go_ret
        exact ⟨rfl, hw_V2⟩
end Go.Proofs.YtkolilbebkkpdaaDoor

namespace Go.Proofs.YtkolilbebkkpdaaDoor
open Go.RowKit Go.Maps Go.BigFrame
attribute [local go_sem] in_gr

set_option maxRecDepth 100000 in
set_option maxHeartbeats 4000000 in
theorem gsameO_any (w : World) (o o' : Option Gd) (g v e c g' v' e' c' : Nat) (hD : ∀ d, o = some d → GdAt w g v e c d) (hD' : ∀ d, o' = some d → GdAt w g' v' e' c' d) (hl : ∀ d, o = some d → d.gs.length ≤ 1000000) (hl' : ∀ d, o' = some d → d.gs.length ≤ 1000000) :
  Calls Tryd.prog 72 #[gptr o g, gptr o' g'] w fun e w' => e = .returned (.bool (sameG o o')) ∧ Below w.heap.size w w' := by
 cases o with
 | some d =>
  cases o' with
  | some d' => exact gsame_any w g v e c g' v' e' c' d d' (hD d rfl) (hD' d' rfl) (hl d rfl) (hl' d' rfl)
  | none =>
   show Calls Tryd.prog 72 #[.pointer (some ⟨g, 0, none⟩), .pointer none] w fun e w' => e = .returned (.bool false) ∧ Below w.heap.size w w'
   go_enter Tryd.func72, Tryd.ntmps72
   go_wp2_with fail
   go_ret
   exact ⟨rfl, Below.refl _ _⟩
 | none =>
  cases o' with
  | some d' =>
   show Calls Tryd.prog 72 #[.pointer none, .pointer (some ⟨g', 0, none⟩)] w fun e w' => e = .returned (.bool false) ∧ Below w.heap.size w w'
   have hq : (binOp .eql 85 (.pointer none) (.pointer (some ⟨g', 0, none⟩))).run Tryd.prog w = .ok (.bool false) w := by kernel_rfl
   go_enter Tryd.func72, Tryd.ntmps72
   go_wp2_with fail
   go_ret
   exact ⟨rfl, Below.refl _ _⟩
  | none =>
   show Calls Tryd.prog 72 #[.pointer none, .pointer none] w fun e w' => e = .returned (.bool true) ∧ Below w.heap.size w w'
   go_enter Tryd.func72, Tryd.ntmps72
   go_wp2_with fail
   go_ret
   exact ⟨rfl, Below.refl _ _⟩
set_option maxRecDepth 100000 in
set_option maxHeartbeats 4000000 in
theorem msame_any (w : World) (x x' : MRec) (hM : MbAt w x) (hM' : MbAt w x') (hl : ∀ d, x.m.g = some d → d.gs.length ≤ 1000000) (hl' : ∀ d, x'.m.g = some d → d.gs.length ≤ 1000000) :
  Calls Tryd.prog 71 #[.pointer (some ⟨x.a, 0, none⟩), .pointer (some ⟨x'.a, 0, none⟩)] w fun e w' => e = .returned (.bool (sameM x.m x'.m)) ∧ Below w.heap.size w w' := by
 have a0 := GrIn.cells hM.c0
 have a1 := GrIn.cells hM.c1
 have b0 := GrIn.cells hM'.c0
 have b1 := GrIn.cells hM'.c1
 have hgs : ∀ z : GrIn w, _ := fun z => gsameO_any z.at_ x.m.g x'.m.g x.g x.v x.e x.c x'.g x'.v x'.e x'.c (fun d hd => (hM.gd d hd).keep z.gr.size (z.gr.block _ (blk_lt (hM.gd d hd).blk)) (z.gr.block _ (hM.gd d hd).vo.lt) (z.gr.block _ (hM.gd d hd).lt)) (fun d hd => (hM'.gd d hd).keep z.gr.size (z.gr.block _ (blk_lt (hM'.gd d hd).blk)) (z.gr.block _ (hM'.gd d hd).vo.lt) (z.gr.block _ (hM'.gd d hd).lt)) hl hl'
 obtain ⟨p1, hp1⟩ : ∃ p, Hid (gptr x.m.g x.g = p) := ⟨_, Lib.hid rfl⟩
 obtain ⟨p2, hp2⟩ : ∃ p, Hid (gptr x'.m.g x'.g = p) := ⟨_, Lib.hid rfl⟩
 rw [hp1.out] at a1 hgs
 rw [hp2.out] at b1 hgs
 obtain ⟨x1, h1⟩ : ∃ x1, Hid ((x.m.r == x'.m.r) = x1) := ⟨_, Lib.hid rfl⟩
 obtain ⟨x2, h2⟩ : ∃ x2, Hid (sameG x.m.g x'.m.g = x2) := ⟨_, Lib.hid rfl⟩
 have hres : Hid (sameM x.m x'.m = (x1 && x2)) := Lib.hid (by
  rw [← h1.out, ← h2.out]
  unfold sameM
  rfl)
 rw [hres.out]
 rw [h2.out] at hgs
 have q1 := h1.out
 replace hgs := Lib.hid hgs
 clear hres
 go_enter Tryd.func71, Tryd.ntmps71
 go_upto_region 1 with fail
 cases x1 with
 | false =>
  refine wp_region_gr (by kernel_rfl) (by kernel_rfl) ?_
  repeat (go_big_quiet_step (fail))
  refine wpQuiet_nil ?_
  intro V2 hw10'
  obtain ⟨⟨_, hw_V2⟩, rfl⟩ := hw10'
  change Exit.then _ _ _ _ V2
  go_wp2_with fail
  go_ret
  exact ⟨rfl, hw_V2⟩
 | true =>
  refine wp_region_gr (by kernel_rfl) (by kernel_rfl) ?_
  repeat (go_big_quiet_step ((go_at_call 72; rename_i z; refine (hgs.out z).mono ?_; rintro e w' ⟨rfl, hbz⟩; exact ⟨rfl, z.on hbz⟩)))
  refine wpQuiet_nil ?_
  intro V2 hw10'
  obtain ⟨⟨_, hw_V2⟩, rfl⟩ := hw10'
  change Exit.then _ _ _ _ V2
  go_wp2_with fail
  go_ret
  exact ⟨rfl, hw_V2⟩
theorem nodup_inj {α β : Type} {f : α → β} : ∀ {l : List α}, (l.map f).Nodup → ∀ {x y}, x ∈ l → y ∈ l → f x = f y → x = y := by
 intro l
 induction l with
 | nil => intro _ x y hx; cases hx
 | cons a l ih =>
  intro h x y hx hy e
  rw [List.map_cons, List.nodup_cons] at h
  rcases List.mem_cons.1 hx with hx1 | hx1
  ·rcases List.mem_cons.1 hy with hy1 | hy1
   ·rw [hx1, hy1]
   ·rw [hx1] at e
    exact absurd (e ▸ List.mem_map_of_mem hy1) h.1
  ·rcases List.mem_cons.1 hy with hy1 | hy1
   ·rw [hy1] at e
    exact absurd (e ▸ List.mem_map_of_mem hx1) h.1
   ·exact ih h.2 hx1 hy1 e
def recL (l : List MRec) : List (Int × Mb) := l.map fun x => (x.n, x.m)
theorem sameL_true {a b : List (Int × Mb)} (hl : a.length = b.length) (h : ∀ p ∈ a, ∃ m, lk b p.1 = some m ∧ sameM p.2 m = true) : sameL a b = true := by
 unfold sameL
 rw [Bool.and_eq_true, decide_eq_true_eq, List.all_eq_true]
 refine ⟨hl, fun p hp => ?_⟩
 obtain ⟨m, h1, h2⟩ := h p hp
 rw [h1]; exact h2
theorem sameL_false {a b : List (Int × Mb)} {p : Int × Mb} (hp : p ∈ a) (h : lk b p.1 = none ∨ ∃ m, lk b p.1 = some m ∧ sameM p.2 m = false) : sameL a b = false := by
 unfold sameL
 rw [Bool.and_eq_false_iff]
 refine .inr ?_
 rw [List.all_eq_false]
 refine ⟨p, hp, ?_⟩
 rcases h with h | ⟨m, h1, h2⟩
 ·rw [h]; simp
 ·rw [h1]; simp [h2]
set_option maxRecDepth 100000 in
set_option maxHeartbeats 4000000 in
theorem EqualF_any (w : World) (b1 b2 : Nat) (l1 l2 : List MRec) (h1 : MapV KI w b1 (memV l1)) (h2 : MapV KI w b2 (memV l2)) (hM1 : ∀ x ∈ l1, MbAt w x) (hM2 : ∀ x ∈ l2, MbAt w x)
  (hg1 : ∀ x ∈ l1, ∀ d, x.m.g = some d → d.gs.length ≤ 1000000) (hg2 : ∀ x ∈ l2, ∀ d, x.m.g = some d → d.gs.length ≤ 1000000) :
  Calls Tryd.prog 70 #[.map (some b1), .map (some b2), .func (.func 71) #[] #[]] w fun e w' => e = .returned (.bool (sameL (recL l1) (recL l2))) ∧ Below w.heap.size w w' := by
 have hl1 := h1.len (K := KI) Tryd.underlying79
 have hl2 := h2.len (K := KI) Tryd.underlying79
 have e1 : (memV l1).length = l1.length := by unfold memV; rw [List.length_map]
 have e2 : (memV l2).length = l2.length := by unfold memV; rw [List.length_map]
 have r1 : (recL l1).length = l1.length := by unfold recL; rw [List.length_map]
 have r2 : (recL l2).length = l2.length := by unfold recL; rw [List.length_map]
 have hn1 : (l1.map MRec.n).Nodup := by have := h1.nd; rwa [keys_memV] at this
 have hn2 : ((recL l2).map Prod.fst).Nodup := by
  have := h2.nd
  rw [keys_memV] at this
  unfold recL
  rw [List.map_map]
  exact this
 rw [e1] at hl1
 rw [e2] at hl2
 by_cases hlen : l1.length = l2.length
 ·go_enter Tryd.func70, Tryd.ntmps70
  rw [hlen] at hl1
  replace hlen := Lib.hid hlen
  replace hM1 := Lib.hid hM1
  replace hM2 := Lib.hid hM2
  replace hg1 := Lib.hid hg1
  replace hg2 := Lib.hid hg2
  go_wp2_with (first
   | (at_range; refine wp_rng (K := KI) _ rfl _ 79 rfl 82 Tryd.underlying79 b1 (memV l1) rfl h1 ?_; intro w1 hrg1 hb1)
   | fail)
  go_frame
  obtain ⟨rg, hrgn⟩ : ∃ rg, Hid (w.heap.size = rg) := ⟨_, Lib.hid rfl⟩
  rw [hrgn.out] at hrg1 ⊢
  go_loopw [7] (fun _ wr => ∃ pre, Rng KI wr b1 rg (memV l1) pre ∧ Hid (∀ x ∈ l1, x.n ∈ pre → ∃ m, lk (recL l2) x.n = some m ∧ sameM x.m m = true) ∧ Hid (Below w.heap.size w wr)) (fun _ wr => wr.rangeLeft b1 rg)
  case atStart => exact ⟨[], hrg1, Lib.hid (fun _ _ h => (by cases h)), Lib.hid hb1⟩
  case round =>
   obtain ⟨pre, hrg, hpre, hb⟩ := hrel
   go_wp2_with (first
    | (at_next; refine wp_nxt (K := KI) _ rfl _ rfl b1 rg (memV l1) pre rfl hrg ?_ ?_)
    | fail)
   ·intro hperm
    rw [keys_memV] at hperm
    have hR : Hid (sameL (recL l1) (recL l2) = true) := Lib.hid (sameL_true (by rw [r1, r2]; exact hlen.out) fun p hp => by
     unfold recL at hp
     obtain ⟨x, hx, rfl⟩ := List.mem_map.1 hp
     exact hpre.out x hx (hperm.mem_iff.2 (List.mem_map_of_mem hx)))
    go_wp2_with fail
    go_ret
    rw [hR.out]
    exact ⟨rfl, hb.out⟩
   ·intro n v w2 hmem hnp hok hrg2 hlt hgr hen
    obtain ⟨x, hx, hxn, rfl⟩ := mem_memV hmem
    have hxr : (x.n, x.m) ∈ recL l1 := List.mem_map.2 ⟨x, hx, rfl⟩
    have hb2 : Below w.heap.size w w2 := hb.out.grown hgr hb.out.size fun k e => by injection e with e; have := hrgn.out; omega
    have hlk := (h2.below hb2).look_ok (K := KI) Tryd.underlying79 (zero_ptr w2) hok
    unfold lkv at hlk
    have hcs : (lk (memV l2) n = none ∧ lk (recL l2) n = none) ∨ ∃ z ∈ l2, z.n = n ∧ lk (memV l2) n = some (.pointer (some ⟨z.a, 0, none⟩)) ∧ lk (recL l2) n = some z.m := by
     cases hu : lk (memV l2) n with
     | none =>
      refine .inl ⟨rfl, lk_none.2 fun p hp e => ?_⟩
      unfold recL at hp
      obtain ⟨z, hz, rfl⟩ := List.mem_map.1 hp
      exact lk_none.1 hu (z.n, .pointer (some ⟨z.a, 0, none⟩)) (List.mem_map.2 ⟨z, hz, rfl⟩) e
     | some u =>
      obtain ⟨z, hz, hzn, rfl⟩ := mem_memV (lk_mem hu)
      exact .inr ⟨z, hz, hzn, rfl, lk_of_mem hn2 (List.mem_map.2 ⟨z, hz, by rw [hzn]⟩)⟩
    replace hmem := Lib.hid hmem
    rcases hcs with ⟨hu, hu2⟩ | ⟨z, hz, hzn, hu, hu2⟩
    ·rw [hu] at hlk
     replace hlk : (Instr.lookup 79 (.map (some b2)) (KI.val n) true).run Tryd.prog w2 = .ok (.tuple #[.pointer none, .bool false]) w2 := hlk
     have hR : Hid (sameL (recL l1) (recL l2) = false) := Lib.hid (sameL_false hxr (.inl (by show lk _ x.n = none; rw [hxn]; exact hu2)))
     clear hu hu2
     go_wp2_with fail
     go_ret
     rw [hR.out]
     exact ⟨rfl, hb2⟩
    ·rw [hu] at hlk
     replace hlk : (Instr.lookup 79 (.map (some b2)) (KI.val n) true).run Tryd.prog w2 = .ok (.tuple #[.pointer (some ⟨z.a, 0, none⟩), .bool true]) w2 := hlk
     have hms := msame_any w2 x z ((hM1.out x hx).keep hb2.size fun i hi => hb2.block i ((hM1.out x hx).lt i hi)) ((hM2.out z hz).keep hb2.size fun i hi => hb2.block i ((hM2.out z hz).lt i hi)) (hg1.out x hx) (hg2.out z hz)
     replace hms := Lib.hid hms
     clear hu
     replace hu2 := Lib.hid hu2
     go_wp2_with fail
     refine hms.out.mono ?_
     rintro e w3 ⟨rfl, hb3⟩
     have hb23 := hb2.trans (hb3.mono hb2.size)
     have hrg3 := hrg2.below hb3
     cases hsm : sameM x.m z.m with
     | true =>
      have hpre2 : Hid (∀ u ∈ l1, u.n ∈ pre ++ [n] → ∃ m, lk (recL l2) u.n = some m ∧ sameM u.m m = true) := Lib.hid (fun u hu hup => by
       rcases List.mem_append.1 hup with hup | hup
       ·exact hpre.out u hu hup
       ·rw [List.mem_singleton] at hup
        have huk : u = x := by
         exact nodup_inj hn1 hu hx (hup.trans hxn.symm)
        subst huk
        exact ⟨z.m, by rw [hup]; exact hu2.out, hsm⟩)
      replace hsm := Lib.hid hsm
      go_wp2_with fail
      go_roundw
      case rel => exact ⟨pre ++ [n], hrg3.1, hpre2, Lib.hid hb23⟩
      case measure => rw [hrg3.2]; exact hlt
     | false =>
      have hR : Hid (sameL (recL l1) (recL l2) = false) := Lib.hid (sameL_false hxr (.inr ⟨z.m, by show lk _ x.n = _; rw [hxn]; exact hu2.out, hsm⟩))
      replace hsm := Lib.hid hsm
      go_wp2_with fail
      go_ret
      rw [hR.out]
      exact ⟨rfl, hb23⟩
 ·have hlb : ((l1.length : Int) != (l2.length : Int)) = true := by rw [bne_iff_ne]; omega
  have hR : Hid (sameL (recL l1) (recL l2) = false) := Lib.hid (by unfold sameL; rw [decide_eq_false (by rw [r1, r2]; exact hlen)]; rfl)
  replace hlen := Lib.hid hlen
  go_enter Tryd.func70, Tryd.ntmps70
  go_wp2_with fail
  go_ret
  rw [hR.out]
  exact ⟨rfl, Below.refl _ _⟩
set_option maxRecDepth 100000 in
set_option maxHeartbeats 8000000 in
theorem Same_any (w : World) (y y' : Lay) (s s' : RS) (k k' : Nat) (hR : RollAt w y s) (hR' : RollAt w y' s') (hs : s.Ok k) (hs' : s'.Ok k') :
  Calls Tryd.prog 34 #[.pointer (some ⟨y.r, 0, none⟩), .pointer (some ⟨y'.r, 0, none⟩)] w fun e w' => e = .returned (.bool (s.same s')) ∧ Below w.heap.size w w' := by
 have a1 := GrIn.cells hR.c1
 have a2 := GrIn.cells hR.c2
 have a3 := GrIn.cells hR.c3
 have a4 := GrIn.cells hR.c4
 have b1 := GrIn.cells hR'.c1
 have b2 := GrIn.cells hR'.c2
 have b3 := GrIn.cells hR'.c3
 have b4 := GrIn.cells hR'.c4
 have hE1 : ∀ z : GrIn w, _ := fun z => EqualB_any z.at_ y.i y'.i _ _ (hR.ins.below z.gr) (hR'.ins.below z.gr)
 have hE2 : ∀ z : GrIn w, _ := fun z => EqualB_any z.at_ y.w y'.w _ _ (hR.was.below z.gr) (hR'.was.below z.gr)
 have hgl : ∀ x ∈ y.l, ∀ d, x.m.g = some d → d.gs.length ≤ 1000000 := fun x hx d hd => by have := (hs.gd _ (hR.memS hx) d hd).gl; omega
 have hgl' : ∀ x ∈ y'.l, ∀ d, x.m.g = some d → d.gs.length ≤ 1000000 := fun x hx d hd => by have := (hs'.gd _ (hR'.memS hx) d hd).gl; omega
 have hE3 : ∀ z : GrIn w, _ := fun z => EqualF_any z.at_ y.m y'.m y.l y'.l (hR.ms.below z.gr) (hR'.ms.below z.gr) (fun x hx => (hR.below z.gr).mb x hx) (fun x hx => (hR'.below z.gr).mb x hx) hgl hgl'
 have hq1 : recL y.l = s.ms := hR.eq
 have hq2 : recL y'.l = s'.ms := hR'.eq
 rw [hq1, hq2] at hE3
 obtain ⟨x1, h1⟩ : ∃ x, Hid (eqI s.ins s'.ins = x) := ⟨_, Lib.hid rfl⟩
 obtain ⟨x2, h2⟩ : ∃ x, Hid (eqI (s.ins ++ s.gone) (s'.ins ++ s'.gone) = x) := ⟨_, Lib.hid rfl⟩
 obtain ⟨x3, h3⟩ : ∃ x, Hid ((s.bk == s'.bk) = x) := ⟨_, Lib.hid rfl⟩
 obtain ⟨x4, h4⟩ : ∃ x, Hid (sameL s.ms s'.ms = x) := ⟨_, Lib.hid rfl⟩
 have hres : Hid (s.same s' = (x1 && x2 && x3 && x4)) := Lib.hid (by
  rw [← h1.out, ← h2.out, ← h3.out, ← h4.out]
  rfl)
 rw [hres.out]
 rw [h1.out] at hE1
 rw [h2.out] at hE2
 rw [h4.out] at hE3
 have q3 := h3.out
 replace hE1 := Lib.hid hE1
 replace hE2 := Lib.hid hE2
 replace hE3 := Lib.hid hE3
 clear hres hgl hgl' hq1 hq2
 go_enter Tryd.func34, Tryd.ntmps34
 go_upto_region 1 with fail
 cases x1 with
 | false =>
  refine wp_region_gr (by kernel_rfl) (by kernel_rfl) ?_
  repeat (go_big_quiet_step (first
   | (go_at_call 69; rename_i z; first | (with_reducible refine (hE1.out z).mono ?_; rintro e w' ⟨rfl, hbz⟩; exact ⟨rfl, z.on hbz⟩) | (with_reducible refine (hE2.out z).mono ?_; rintro e w' ⟨rfl, hbz⟩; exact ⟨rfl, z.on hbz⟩))
   | (go_at_call 70; rename_i z; refine (hE3.out z).mono ?_; rintro e w' ⟨rfl, hbz⟩; exact ⟨rfl, z.on hbz⟩)))
  refine wpQuiet_nil ?_
  intro V2 hw10'
  obtain ⟨⟨_, hw_V2⟩, rfl⟩ := hw10'
  change Exit.then _ _ _ _ V2
  go_wp2_with fail
  go_ret
  exact ⟨rfl, hw_V2⟩
 | true =>
  cases x2 with
  | false =>
   refine wp_region_gr (by kernel_rfl) (by kernel_rfl) ?_
   repeat (go_big_quiet_step (first
    | (go_at_call 69; rename_i z; first | (with_reducible refine (hE1.out z).mono ?_; rintro e w' ⟨rfl, hbz⟩; exact ⟨rfl, z.on hbz⟩) | (with_reducible refine (hE2.out z).mono ?_; rintro e w' ⟨rfl, hbz⟩; exact ⟨rfl, z.on hbz⟩))
    | (go_at_call 70; rename_i z; refine (hE3.out z).mono ?_; rintro e w' ⟨rfl, hbz⟩; exact ⟨rfl, z.on hbz⟩)))
   refine wpQuiet_nil ?_
   intro V2 hw10'
   obtain ⟨⟨_, hw_V2⟩, rfl⟩ := hw10'
   change Exit.then _ _ _ _ V2
   go_wp2_with fail
   go_ret
   exact ⟨rfl, hw_V2⟩
  | true =>
   cases x3 with
   | false =>
    refine wp_region_gr (by kernel_rfl) (by kernel_rfl) ?_
    repeat (go_big_quiet_step (first
     | (go_at_call 69; rename_i z; first | (with_reducible refine (hE1.out z).mono ?_; rintro e w' ⟨rfl, hbz⟩; exact ⟨rfl, z.on hbz⟩) | (with_reducible refine (hE2.out z).mono ?_; rintro e w' ⟨rfl, hbz⟩; exact ⟨rfl, z.on hbz⟩))
     | (go_at_call 70; rename_i z; refine (hE3.out z).mono ?_; rintro e w' ⟨rfl, hbz⟩; exact ⟨rfl, z.on hbz⟩)))
    refine wpQuiet_nil ?_
    intro V2 hw10'
    obtain ⟨⟨_, hw_V2⟩, rfl⟩ := hw10'
    change Exit.then _ _ _ _ V2
    go_wp2_with fail
    go_ret
    exact ⟨rfl, hw_V2⟩
   | true =>
    cases x4 with
    | false =>
     refine wp_region_gr (by kernel_rfl) (by kernel_rfl) ?_
     repeat (go_big_quiet_step (first
      | (go_at_call 69; rename_i z; first | (with_reducible refine (hE1.out z).mono ?_; rintro e w' ⟨rfl, hbz⟩; exact ⟨rfl, z.on hbz⟩) | (with_reducible refine (hE2.out z).mono ?_; rintro e w' ⟨rfl, hbz⟩; exact ⟨rfl, z.on hbz⟩))
      | (go_at_call 70; rename_i z; refine (hE3.out z).mono ?_; rintro e w' ⟨rfl, hbz⟩; exact ⟨rfl, z.on hbz⟩)))
     refine wpQuiet_nil ?_
     intro V2 hw10'
     obtain ⟨⟨_, hw_V2⟩, rfl⟩ := hw10'
     change Exit.then _ _ _ _ V2
     go_wp2_with fail
     go_ret
     exact ⟨rfl, hw_V2⟩
    | true =>
     refine wp_region_gr (by kernel_rfl) (by kernel_rfl) ?_
     repeat (go_big_quiet_step (first
      | (go_at_call 69; rename_i z; first | (with_reducible refine (hE1.out z).mono ?_; rintro e w' ⟨rfl, hbz⟩; exact ⟨rfl, z.on hbz⟩) | (with_reducible refine (hE2.out z).mono ?_; rintro e w' ⟨rfl, hbz⟩; exact ⟨rfl, z.on hbz⟩))
      | (go_at_call 70; rename_i z; refine (hE3.out z).mono ?_; rintro e w' ⟨rfl, hbz⟩; exact ⟨rfl, z.on hbz⟩)))
     refine wpQuiet_nil ?_
     intro V2 hw10'
     obtain ⟨⟨_, hw_V2⟩, rfl⟩ := hw10'
     change Exit.then _ _ _ _ V2
     go_wp2_with fail
     go_ret
     exact ⟨rfl, hw_V2⟩
end Go.Proofs.YtkolilbebkkpdaaDoor

