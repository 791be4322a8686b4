/-
  Devices, Members.
-/
import Derived.Test.YtkolilbebkkpdaaDoorRoV
namespace Go.Proofs.YtkolilbebkkpdaaDoor
open Go.RowKit Go.Maps

theorem UI.same {w w' : World} {p : Option Addr} {n : Nat} {xs : List Int} (h : UI w p n xs) (hb : ∀ a, p = some a → w'.heap[a.block]? = w.heap[a.block]?) : UI w' p n xs := by
  refine ⟨h.len, ?_, h.bd⟩
  rcases h.rd with h1 | ⟨b, off, he, hc⟩
  · exact .inl h1
  · refine .inr ⟨b, off, he, fun i hi => ?_⟩
    rw [← hc i hi]
    unfold World.cell?
    have := hb _ he
    simp only at this
    simp only [this]
theorem GoesTo.after {w w1 w' : World} {y : Lay} {s : RS} (h : GoesTo w1 y s w') (hb : Below w.heap.size w w1) : GoesTo w y s w' := by
  obtain ⟨y', h1, h2, h3⟩ := h
  exact ⟨y', h1, h2, (Turn.of_below hb).trans h3⟩
theorem GoesTo.stay {w w' : World} {y : Lay} {s : RS} (hR : RollAt w y s) (hb : Below w.heap.size w w') : GoesTo w y s w' := ⟨y, hR.below hb, rfl, Turn.of_below hb⟩
set_option maxRecDepth 100000 in
theorem Devices_any (w : World) (y : Lay) (s : RS) (k : Nat) (hR : RollAt w y s) (hs : s.Ok k) :
    Calls Tryd.prog 23 #[.pointer (some ⟨y.r, 0, none⟩)] w fun e w' => ∃ (p : Option Addr) (c : Nat), e = .returned (.slice p s.ins.length c) ∧ UI w' p s.ins.length (sortI s.ins) ∧ FarP w.heap.size p ∧ Below w.heap.size w w' := by
  have c1 := hR.c1
  have hb0 := Below.lit w (.cells #[.map (some y.i)] 78)
  have hm1 : (w.alloc (.cells #[.map (some y.i)] 78)).cell? ⟨w.heap.size, 0, none⟩ = some (.map (some y.i)) := cell_of_one (World.alloc_heap_new w _)
  have hown1 := (hR.below hb0).ins
  have hl : (setV s.ins).length = s.ins.length := by unfold setV; rw [List.length_map]
  have hf : (setV s.ins).length ≤ 1000 := by
    have := hs.few
    rw [List.length_append] at this
    omega
  have hbd : ∀ x ∈ (setV s.ins).map Prod.fst, i64ok x := fun x hx => by
    rw [keys_setV] at hx
    have := hs.ins x (List.mem_append_left _ hx)
    unfold i64ok; omega
  have hS := Sorted_I w.heap.size y.i (setV s.ins) _ hm1 hown1 hf hbd
  rw [keys_setV, hl] at hS
  replace hf := Lib.hid hf
  replace hbd := Lib.hid hbd
  replace hl := Lib.hid hl
  go_enter Tryd.func23, Tryd.ntmps23
  go_wp2_with fail
  refine (KeysF_I (some y.i) w).mono ?_
  rintro e w1 ⟨rfl, rfl⟩
  go_wp2_with fail
  refine hS.mono ?_
  rintro e w2 ⟨p, cp, rfl, hu, hf, hb2⟩
  go_wp2_with fail
  go_ret
  exact ⟨p, cp, rfl, hu, fun a h => Nat.le_trans hb0.size (hf a h), hb0.trans (hb2.mono hb0.size)⟩
set_option maxRecDepth 100000 in
theorem Members_any (w : World) (y : Lay) (s : RS) (k : Nat) (hR : RollAt w y s) (hs : s.Ok k) :
    Calls Tryd.prog 59 #[.pointer (some ⟨y.r, 0, none⟩)] w fun e w' => ∃ (p : Option Addr) (c : Nat), e = .returned (.slice p s.ms.length c) ∧ UI w' p s.ms.length (sortI (s.ms.map Prod.fst)) ∧ FarP w.heap.size p ∧ Below w.heap.size w w' := by
  have c3 := hR.c3
  have hb0 := Below.lit w (.cells #[.map (some y.m)] 79)
  have hm1 : (w.alloc (.cells #[.map (some y.m)] 79)).cell? ⟨w.heap.size, 0, none⟩ = some (.map (some y.m)) := cell_of_one (World.alloc_heap_new w _)
  have hown1 := (hR.below hb0).ms
  have hk : (memV y.l).map Prod.fst = s.ms.map Prod.fst := by rw [keys_memV, ← hR.eq, List.map_map]; rfl
  have hl : (memV y.l).length = s.ms.length := by have := congrArg List.length hk; rwa [List.length_map, List.length_map] at this
  have hf : (memV y.l).length ≤ 1000 := by
    have := hs.fewM
    omega
  have hbd : ∀ x ∈ (memV y.l).map Prod.fst, i64ok x := fun x hx => by
    rw [hk] at hx
    obtain ⟨p, hp, rfl⟩ := List.mem_map.1 hx
    have := hs.mem p hp
    unfold i64ok; omega
  have hS := Sorted_M w.heap.size y.m (memV y.l) _ hm1 hown1 hf hbd
  rw [hk, hl] at hS
  replace hf := Lib.hid hf
  replace hbd := Lib.hid hbd
  replace hl := Lib.hid hl
  replace hk := Lib.hid hk
  go_enter Tryd.func59, Tryd.ntmps59
  go_wp2_with fail
  refine (KeysF_M (some y.m) w).mono ?_
  rintro e w1 ⟨rfl, rfl⟩
  go_wp2_with fail
  refine hS.mono ?_
  rintro e w2 ⟨p, cp, rfl, hu, hf, hb2⟩
  go_wp2_with fail
  go_ret
  exact ⟨p, cp, rfl, hu, fun a h => Nat.le_trans hb0.size (hf a h), hb0.trans (hb2.mono hb0.size)⟩
end Go.Proofs.YtkolilbebkkpdaaDoor
