/-
  maps.Clone: a new block with the same entries.
-/
import Derived.Test.YtkolilbebkkpdaaDoorRmG
import Derived.Laws.Externs
import Derived.MapKept
namespace Go.Proofs.YtkolilbebkkpdaaDoor
open Go.RowKit Go.Maps

theorem run_equalIn_map_nil {P : Program} (w : World) (d : Nat) (t k e : TypeId) (p : Option Nat) (h : P.underlying t = some (.map k e)) :
    (Op.equalIn (d + 1) t (.map p) (.map none)).run P w = .ok p.isNone w := by
  cases p <;> simp [Op.equalIn, run_underlying h]
theorem run_eql_map_nil {P : Program} (w : World) (t k e : TypeId) (p : Option Nat) (h : P.underlying t = some (.map k e)) :
    (binOp .eql t (.map p) (.map none)).run P w = .ok (.bool p.isNone) w := by
  simp only [binOp]
  simp [show Op.equal t (.map p) (.map none) = Op.equalIn (9999 + 1) t (.map p) (.map none) from rfl, run_equalIn_map_nil w 9999 t k e p h]
theorem run_typeAssert_map {P : Program} (w : World) (t xT k e : TypeId) (v : Value) (h : P.underlying t = some (.map k e)) : (Instr.typeAssert (.iface t v) xT t false).run P w = .ok v w := by
  simp [Instr.typeAssert, run_underlying h, go_sem, Result.andThen]
theorem run_maps_clone {P : Program} (w : World) {r : Nat} {es : Array MapEntry} {clock : Nat} (t : TypeId) (hb : w.heap[r]? = some (.map es clock)) :
    (Extern.MapsClone.clone #[.iface t (.map (some r))]).run P w = .ok (.iface t (.map (some w.heap.size))) (w.alloc (.map es clock)) := by
  have e : Extern.MapsClone.clone #[.iface t (.map (some r))] = (getObj r >>= fun o => match o with
      | .map entries clock => (newObj (.map entries clock) >>= fun n => pure (.iface t (.map (some n))))
      | _ => stuck "maps.clone: a map expected") := rfl
  rw [e]
  simp [MapKept.run_getObj_map hb, Result.andThen, go_sem]
/-- The entries of a map, and what a block with the same entries is. -/
theorem MapV.same {α : Type} [DecidableEq α] {K : KeyT α} {w : World} {b : Nat} {ks : List (α × Value)} (h : MapV K w b ks) : ∃ es clock, w.heap[b]? = some (.map es clock) ∧ ∀ (w' : World) (b' : Nat), w'.heap[b']? = some (.map es clock) → MapV K w' b' ks := by
  obtain ⟨n, D, ⟨es, clock, h1, h2⟩, h3⟩ := h
  exact ⟨es, clock, h1, fun w' b' hb => ⟨n, D, ⟨es, clock, hb, h2⟩, h3⟩⟩
set_option maxRecDepth 100000 in
set_option maxHeartbeats 2000000 in
theorem Clone_cards (w : World) (b : Nat) (es : Array MapEntry) (clock : Nat) (hb : w.heap[b]? = some (.map es clock)) :
    Calls Tryd.prog 65 #[.map (some b)] w fun e w' => e = .returned (.map (some w.heap.size)) ∧ w' = w.alloc (.map es clock) := by
  have hq := fun w => run_eql_map_nil (P := Tryd.prog) w 77 _ _ (some b) Tryd.underlying77
  go_enter Tryd.func65, Tryd.ntmps65
  go_wp2
  rw [run_callFunc_extern Tryd.func78 (by kernel_rfl) (by kernel_rfl) (by kernel_rfl) (e := Extern.MapsClone.clone) (by kernel_rfl), run_maps_clone w 77 hb]
  simp only [Result.andThen]
  rw [Oper.upon_value]
  go_wp2
  rw [run_typeAssert_map _ 77 20 _ _ _ Tryd.underlying77]
  simp only [Result.andThen]
  rw [Oper.upon_value]
  go_wp2
  go_ret
  exact ⟨rfl, rfl⟩
set_option maxRecDepth 100000 in
set_option maxHeartbeats 2000000 in
theorem Clone_bools (w : World) (b : Nat) (es : Array MapEntry) (clock : Nat) (hb : w.heap[b]? = some (.map es clock)) :
    Calls Tryd.prog 66 #[.map (some b)] w fun e w' => e = .returned (.map (some w.heap.size)) ∧ w' = w.alloc (.map es clock) := by
  have hq := fun w => run_eql_map_nil (P := Tryd.prog) w 78 _ _ (some b) Tryd.underlying78
  go_enter Tryd.func66, Tryd.ntmps66
  go_wp2
  rw [run_callFunc_extern Tryd.func78 (by kernel_rfl) (by kernel_rfl) (by kernel_rfl) (e := Extern.MapsClone.clone) (by kernel_rfl), run_maps_clone w 78 hb]
  simp only [Result.andThen]
  rw [Oper.upon_value]
  go_wp2
  rw [run_typeAssert_map _ 78 20 _ _ _ Tryd.underlying78]
  simp only [Result.andThen]
  rw [Oper.upon_value]
  go_wp2
  go_ret
  exact ⟨rfl, rfl⟩
set_option maxRecDepth 100000 in
set_option maxHeartbeats 2000000 in
theorem Clone_vouched (w : World) (b : Nat) (es : Array MapEntry) (clock : Nat) (hb : w.heap[b]? = some (.map es clock)) :
    Calls Tryd.prog 67 #[.map (some b)] w fun e w' => e = .returned (.map (some w.heap.size)) ∧ w' = w.alloc (.map es clock) := by
  have hq := fun w => run_eql_map_nil (P := Tryd.prog) w 88 _ _ (some b) Tryd.underlying88
  go_enter Tryd.func67, Tryd.ntmps67
  go_wp2
  rw [run_callFunc_extern Tryd.func78 (by kernel_rfl) (by kernel_rfl) (by kernel_rfl) (e := Extern.MapsClone.clone) (by kernel_rfl), run_maps_clone w 88 hb]
  simp only [Result.andThen]
  rw [Oper.upon_value]
  go_wp2
  rw [run_typeAssert_map _ 88 20 _ _ _ Tryd.underlying88]
  simp only [Result.andThen]
  rw [Oper.upon_value]
  go_wp2
  go_ret
  exact ⟨rfl, rfl⟩
end Go.Proofs.YtkolilbebkkpdaaDoor

