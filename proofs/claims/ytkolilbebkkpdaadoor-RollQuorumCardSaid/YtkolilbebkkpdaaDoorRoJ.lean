/-
  Operations in memory; what a Message is asked.
-/
import Derived.Test.YtkolilbebkkpdaaDoorRoI
import Derived.Laws.Rows
namespace Go.Proofs.YtkolilbebkkpdaaDoor
open Go.RowKit Go.Maps

/-- An operation's cells: gp, gc: where its guards lie. -/
def opC (o : OpI) (gp : Option Addr) (gc : Nat) : Array Value :=
  #[.int .i64 o.b, .int .i64 o.s, .int .i64 o.k, .int .i64 o.a, .slice none 0 0, .int .i64 o.d, .int .i64 o.o, .int .i64 o.m, .int .i64 o.r, .slice none 0 0,
    .int .i64 0, .int .i64 0, .int .u64 0, .int .i64 0, .slice none 0 0, .slice none 0 0, .int .i64 o.f.b, .int .i64 o.f.s, .int .u64 o.f.u, .slice gp o.gs.length gc, .int .i64 o.n, .int .i64 o.t, .slice none 0 0, .int .u64 0, .slice none 0 0, .int .u64 0, .int .u64 0]
def OpAt (w : World) (b : Nat) (o : OpI) (gp : Option Addr) (gc : Nat) : Prop := w.heap[b]? = some (.cells (opC o gp gc) 42 (0, 0))
section
variable {w : World} {b : Nat} {o : OpI} {gp : Option Addr} {gc : Nat}
theorem OpAt.cell (h : OpAt w b o gp gc) (i : Nat) : w.cell? ⟨b, i, none⟩ = (opC o gp gc)[i]? := by
  unfold OpAt at h
  simp [World.cell?, h]
theorem OpAt.cb (h : OpAt w b o gp gc) : w.cell? ⟨b, 0, none⟩ = some (.int .i64 o.b) := by rw [h.cell]; rfl
theorem OpAt.cs (h : OpAt w b o gp gc) : w.cell? ⟨b, 1, none⟩ = some (.int .i64 o.s) := by rw [h.cell]; rfl
theorem OpAt.ck (h : OpAt w b o gp gc) : w.cell? ⟨b, 2, none⟩ = some (.int .i64 o.k) := by rw [h.cell]; rfl
theorem OpAt.ca (h : OpAt w b o gp gc) : w.cell? ⟨b, 3, none⟩ = some (.int .i64 o.a) := by rw [h.cell]; rfl
theorem OpAt.cd (h : OpAt w b o gp gc) : w.cell? ⟨b, 5, none⟩ = some (.int .i64 o.d) := by rw [h.cell]; rfl
theorem OpAt.co (h : OpAt w b o gp gc) : w.cell? ⟨b, 6, none⟩ = some (.int .i64 o.o) := by rw [h.cell]; rfl
theorem OpAt.cm (h : OpAt w b o gp gc) : w.cell? ⟨b, 7, none⟩ = some (.int .i64 o.m) := by rw [h.cell]; rfl
theorem OpAt.cr (h : OpAt w b o gp gc) : w.cell? ⟨b, 8, none⟩ = some (.int .i64 o.r) := by rw [h.cell]; rfl
theorem OpAt.cfb (h : OpAt w b o gp gc) : w.cell? ⟨b, 16, none⟩ = some (.int .i64 o.f.b) := by rw [h.cell]; rfl
theorem OpAt.cfs (h : OpAt w b o gp gc) : w.cell? ⟨b, 17, none⟩ = some (.int .i64 o.f.s) := by rw [h.cell]; rfl
theorem OpAt.cfu (h : OpAt w b o gp gc) : w.cell? ⟨b, 18, none⟩ = some (.int .u64 o.f.u) := by rw [h.cell]; rfl
theorem OpAt.cgs (h : OpAt w b o gp gc) : w.cell? ⟨b, 19, none⟩ = some (.slice gp o.gs.length gc) := by rw [h.cell]; rfl
theorem OpAt.cn (h : OpAt w b o gp gc) : w.cell? ⟨b, 20, none⟩ = some (.int .i64 o.n) := by rw [h.cell]; rfl
theorem OpAt.ct (h : OpAt w b o gp gc) : w.cell? ⟨b, 21, none⟩ = some (.int .i64 o.t) := by rw [h.cell]; rfl
theorem OpAt.call (h : OpAt w b o gp gc) : (loadVar 42 ⟨b, 0, none⟩).run Tryd.prog w = .ok (.agg (opC o gp gc)) w :=
  run_loadVar_row w b _ 42 (opC o gp gc) _ _ h Tryd.underlying42 rfl (by kernel_rfl)
theorem OpAt.made (w : World) (o : OpI) (gp : Option Addr) (gc : Nat) : OpAt (w.alloc (.cells (opC o gp gc) 42)) w.heap.size o gp gc := by
  unfold OpAt
  rw [World.alloc_heap_new]
theorem OpAt.below {w' : World} {B : Nat} (h : OpAt w b o gp gc) (hb : Below B w w') (hB : b < B) : OpAt w' b o gp gc := (hb.block b hB).trans h
end
/-- The numbers of an operation. -/
structure OpI.Ok (o : OpI) : Prop where
  hb : 0 ≤ o.b ∧ o.b ≤ 1000000
  hs : 0 ≤ o.s ∧ o.s ≤ 1000000
  hk : 0 ≤ o.k ∧ o.k ≤ 1000000
  ha : 0 ≤ o.a ∧ o.a ≤ 1000000
  hd : 0 ≤ o.d ∧ o.d ≤ 1000000
  ho : 0 ≤ o.o ∧ o.o ≤ 1000000
  hm : 0 ≤ o.m ∧ o.m ≤ 1000000
  hr : 0 ≤ o.r ∧ o.r ≤ 1000000
  hfb : 0 ≤ o.f.b ∧ o.f.b ≤ 1000000
  hfs : 0 ≤ o.f.s ∧ o.f.s ≤ 1000000
  hfu : 0 ≤ o.f.u ∧ o.f.u ≤ 1000000
  hn : 0 ≤ o.n ∧ o.n ≤ 1000000
  ht : 0 ≤ o.t ∧ o.t ≤ 1000000
  hgl : o.gs.length ≤ 1000
  hgb : ∀ x ∈ o.gs, 0 ≤ x ∧ x ≤ 1000000
theorem i64_small {x : Int} (h : 0 ≤ x ∧ x ≤ 1000000) : i64ok x := by unfold i64ok; omega
theorem RollAt.drewN {w : World} {y : Lay} {s : RS} (h : RollAt w y s) (n : Nat) : RollAt (w.drewN n) y s := h.keep (Nat.le_refl _) fun _ _ => rfl
theorem ret_bool {a b : Bool} (h : a = b) : Ending.returned (.bool a) = .returned (.bool b) := by rw [h]
set_option maxRecDepth 100000 in
theorem askMessage_any (w : World) (y : Lay) (s : RS) (o : OpI) (gp : Option Addr) (gc : Nat) (m : Int) (hR : RollAt w y s) (hm : i64ok m) :
    Calls Tryd.prog 125 #[.pointer (some ⟨y.r, 0, none⟩), .agg (opC o gp gc), .int .i64 m] w fun e w' => e = .returned (.int .i64 (s.askMessage o m)) ∧ Below w.heap.size w w' := by
  have hb0 := Below.lit w (.cells (opC o gp gc) 42)
  have hR0 := hR.below hb0
  have hO := OpAt.made w o gp gc
  by_cases h : s.role m < 2
  · have e : s.askMessage o m = 14 := if_pos h
    rw [e]
    go_enter Tryd.func125, Tryd.ntmps125
    go_wp2_with (go_at_call 19; refine (Role_any _ y s m hR0 hm).mono ?_; rintro e w' ⟨rfl, rfl⟩)
    go_ret
    exact ⟨rfl, hb0⟩
  · have e : s.askMessage o m = 0 := if_neg h
    rw [e]
    go_enter Tryd.func125, Tryd.ntmps125
    go_wp2_with (go_at_call 19; refine (Role_any _ y s m hR0 hm).mono ?_; rintro e w' ⟨rfl, rfl⟩)
    go_ret
    exact ⟨rfl, hb0⟩
end Go.Proofs.YtkolilbebkkpdaaDoor
