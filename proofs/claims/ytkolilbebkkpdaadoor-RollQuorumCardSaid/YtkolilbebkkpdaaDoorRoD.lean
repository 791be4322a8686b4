/-
  Rolls: whose guard a name is; a device comes, or goes.
-/
import Derived.Test.YtkolilbebkkpdaaDoorRoR
namespace Go.Proofs.YtkolilbebkkpdaaDoor
open Go.RowKit Go.Maps

theorem ret_int {k : IntKind} {a b : Int} (h : a = b) : Ending.returned (.int k a) = .returned (.int k b) := by rw [h]
theorem belowN {B : Nat} {w v : World} (h : Below B w v) (n : Nat) : Below B w (v.drewN n) := ⟨h.os, h.tape, h.output, h.size, h.block⟩
theorem mem_memV {l : List MRec} {n : Int} {v : Value} (h : (n, v) ∈ memV l) : ∃ x ∈ l, x.n = n ∧ v = .pointer (some ⟨x.a, 0, none⟩) := by
  unfold memV at h
  obtain ⟨x, hx, e⟩ := List.mem_map.1 h
  injection e with e1 e2
  exact ⟨x, hx, e1, e2.symm⟩
theorem keys_memV (l : List MRec) : (memV l).map Prod.fst = l.map MRec.n := by unfold memV; rw [List.map_map]; rfl
theorem RollAt.memS {w : World} {y : Lay} {s : RS} (h : RollAt w y s) {x : MRec} (hx : x ∈ y.l) : (x.n, x.m) ∈ s.ms := by
  rw [← h.eq]; exact List.mem_map.2 ⟨x, hx, rfl⟩
theorem RollAt.ofS {w : World} {y : Lay} {s : RS} (h : RollAt w y s) {p : Int × Mb} (hp : p ∈ s.ms) : ∃ x ∈ y.l, p = (x.n, x.m) := by
  rw [← h.eq] at hp
  obtain ⟨x, hx, e⟩ := List.mem_map.1 hp
  exact ⟨x, hx, e.symm⟩
theorem GdAt.cell {w : World} {g v e c : Nat} {d : Gd} (h : GdAt w g v e c d) (i : Nat) : w.cell? ⟨g, i, none⟩ = (gdCells v e c d)[i]? := by
  simp [World.cell?, h.blk]
theorem GdAt.free {w : World} {g v e c : Nat} {d : Gd} (h : GdAt w g v e c d) (i : Nat) : w.frozen? ⟨g, i, none⟩ = false := by simp [World.frozen?, h.blk]
theorem GdAt.c0 {w : World} {g v e c : Nat} {d : Gd} (h : GdAt w g v e c d) : w.cell? ⟨g, 0, none⟩ = some (.int .i64 d.id.b) := by rw [h.cell]; rfl
theorem GdAt.c1 {w : World} {g v e c : Nat} {d : Gd} (h : GdAt w g v e c d) : w.cell? ⟨g, 1, none⟩ = some (.int .i64 d.id.s) := by rw [h.cell]; rfl
theorem GdAt.c2 {w : World} {g v e c : Nat} {d : Gd} (h : GdAt w g v e c d) : w.cell? ⟨g, 2, none⟩ = some (.int .u64 d.id.u) := by rw [h.cell]; rfl
theorem GdAt.c3 {w : World} {g v e c : Nat} {d : Gd} (h : GdAt w g v e c d) : w.cell? ⟨g, 3, none⟩ = some (.slice (some ⟨e, 0, none⟩) d.gs.length c) := by rw [h.cell]; rfl
theorem GdAt.c4 {w : World} {g v e c : Nat} {d : Gd} (h : GdAt w g v e c d) : w.cell? ⟨g, 4, none⟩ = some (.int .i64 d.n) := by rw [h.cell]; rfl
theorem GdAt.c5 {w : World} {g v e c : Nat} {d : Gd} (h : GdAt w g v e c d) : w.cell? ⟨g, 5, none⟩ = some (.int .i64 d.t) := by rw [h.cell]; rfl
theorem GdAt.c6 {w : World} {g v e c : Nat} {d : Gd} (h : GdAt w g v e c d) : w.cell? ⟨g, 6, none⟩ = some (.map (some v)) := by rw [h.cell]; rfl
theorem GdAt.c7 {w : World} {g v e c : Nat} {d : Gd} (h : GdAt w g v e c d) : w.cell? ⟨g, 7, none⟩ = some (.bool d.ob) := by rw [h.cell]; rfl
theorem GdAt.c8 {w : World} {g v e c : Nat} {d : Gd} (h : GdAt w g v e c d) : w.cell? ⟨g, 8, none⟩ = some (.int .i64 d.la) := by rw [h.cell]; rfl
theorem cells3 (w : World) (t : TypeId) (u v z : Value) : (w.alloc (.cells #[u, v, z] t)).cell? ⟨w.heap.size, 0, none⟩ = some u ∧ (w.alloc (.cells #[u, v, z] t)).cell? ⟨w.heap.size, 1, none⟩ = some v ∧ (w.alloc (.cells #[u, v, z] t)).cell? ⟨w.heap.size, 2, none⟩ = some z := by
  have hA := Arr.new w t [u, v, z]
  exact ⟨hA.cell (i := 0) (by simp), hA.cell (i := 1) (by simp), hA.cell (i := 2) (by simp)⟩
def NoneOf (y : Lay) (i : Idn) (pre : List Int) : Prop := ∀ n ∈ pre, ∀ x ∈ y.l, x.n = n → isId i x.m.g = false
theorem RollAt.msnd {w : World} {y : Lay} {s : RS} (h : RollAt w y s) : (s.ms.map Prod.fst).Nodup := by
  rw [← h.eq, List.map_map]
  have := h.ms.nd
  rw [keys_memV] at this
  exact this
theorem RollAt.one {w : World} {y : Lay} {s : RS} (h : RollAt w y s) {x z : MRec} (hx : x ∈ y.l) (hz : z ∈ y.l) (e : x.n = z.n) : x.m = z.m := by
  have h1 := lk_of_mem h.msnd (h.memS hx)
  have h2 := lk_of_mem h.msnd (h.memS hz)
  rw [e, h2] at h1
  injection h1 with h1
  exact h1.symm
theorem NoneOf.snoc {w : World} {y : Lay} {s : RS} {i : Idn} {pre : List Int} (h : NoneOf y i pre) (hR : RollAt w y s) {x : MRec} {n : Int} (hx : x ∈ y.l) (hxn : x.n = n) (hid : isId i x.m.g = false) : NoneOf y i (pre ++ [n]) := fun m hm z hz hzn => by
  rcases List.mem_append.1 hm with hm | hm
  · exact h m hm z hz hzn
  · rw [List.mem_singleton] at hm
    rw [hR.one hz hx (by rw [hzn, hm, hxn])]
    exact hid
set_option maxRecDepth 100000 in
set_option maxHeartbeats 4000000 in
theorem whose_any (w : World) (y : Lay) (s : RS) (i : Idn) (hR : RollAt w y s) (hu : s.idsU) :
    Calls Tryd.prog 43 #[.pointer (some ⟨y.r, 0, none⟩), .agg #[.int .i64 i.b, .int .i64 i.s, .int .u64 i.u]] w fun e w' => e = .returned (.int .i64 (s.whose i)) ∧ Below w.heap.size w w' := by
  have hb0 := Below.lit w (.cells #[.int .i64 i.b, .int .i64 i.s, .int .u64 i.u] 34)
  obtain ⟨k0, k1, k2⟩ := cells3 w 34 (.int .i64 i.b) (.int .i64 i.s) (.int .u64 i.u)
  have hR0 := hR.below hb0
  have h3 := hR0.c3
  have hst := id_stood
  have hgd := id_guard
  go_enter Tryd.func43, Tryd.ntmps43
  go_wp2_with (first
    | (at_range; refine wp_rng (K := KI) _ rfl _ 79 rfl 82 Tryd.underlying79 y.m (memV y.l) rfl hR0.ms ?_; intro w1 hrg1 hb1)
    | go_in)
  go_frame
  obtain ⟨w0, hw0⟩ : ∃ w0, Hid (w.alloc (.cells #[.int .i64 i.b, .int .i64 i.s, .int .u64 i.u] 34) = w0) := ⟨_, Lib.hid rfl⟩
  rw [hw0.out] at hb0 k0 k1 k2 hR0 hrg1 hb1 h3
  rw [hw0.out]
  have hz : w.heap.size < w0.heap.size := cell_lt k0
  clear h3
  go_loopw [5] (fun _ wr => ∃ pre, Rng KI wr y.m w0.heap.size (memV y.l) pre ∧ NoneOf y i pre ∧ Below w0.heap.size w0 wr)
    (fun _ wr => wr.rangeLeft y.m w0.heap.size)
  case atStart => exact ⟨[], hrg1, fun _ h => (by cases h), hb1⟩
  case round =>
    clear hrg1 hb1
    obtain ⟨pre, hrg, hpre, hb⟩ := hrel
    go_wp2_with (first
      | (at_next; refine wp_nxt (K := KI) _ rfl _ rfl y.m w0.heap.size (memV y.l) pre rfl hrg ?_ ?_)
      | go_in)
    · intro hperm
      have hn : Hid (s.whose i = 0) := Lib.hid (RS.whose_none fun p hp => by
        obtain ⟨x, hx, rfl⟩ := hR.ofS hp
        exact hpre _ (hperm.mem_iff.2 (by rw [keys_memV]; exact List.mem_map.2 ⟨x, hx, rfl⟩)) x hx rfl)
      go_wp2_with fail
      go_ret
      exact ⟨ret_int hn.out.symm, hb0.trans (hb.mono hb0.size)⟩
    · intro n v w2 hmem hnp hok hrg2 hlt hgr hen
      obtain ⟨x, hx, hxn, rfl⟩ := mem_memV hmem
      have hb2 : Below w0.heap.size w0 w2 := hb.grown hgr hb.size fun k e => by injection e with e; omega
      have hM := (hR0.below hb2).mb x hx
      have q1 := hM.c1
      have j0 := (hb2.cell (p := ⟨w.heap.size, 0, none⟩) hz).trans k0
      have j1 := (hb2.cell (p := ⟨w.heap.size, 1, none⟩) hz).trans k1
      have j2 := (hb2.cell (p := ⟨w.heap.size, 2, none⟩) hz).trans k2
      cases hg : x.m.g with
      | none =>
        have hid : isId i x.m.g = false := by rw [hg]; rfl
        rw [hg] at q1
        replace q1 : w2.cell? ⟨x.a, 1, none⟩ = some (.pointer none) := q1
        replace hg := Lib.hid hg
        go_wp2_with fail
        go_quiet (fail)
        go_wp2_with fail
        go_roundw
        case rel => exact ⟨pre ++ [n], (hrg2.keep rfl rfl).1, hpre.snoc hR hx hxn hid, belowN hb2 _⟩
        case measure => rw [(hrg2.keep (w' := w2.drewN _) rfl rfl).2]; exact hlt
      | some d =>
        rw [hg] at q1
        replace q1 : w2.cell? ⟨x.a, 1, none⟩ = some (.pointer (some ⟨x.g, 0, none⟩)) := q1
        have hD := hM.gd d hg
        have g0 := hD.c0
        have g1 := hD.c1
        have g2 := hD.c2
        have hie := id_eql d.id i
        replace hg := Lib.hid hg
        by_cases hdi : d.id = i
        · have hid : isId i x.m.g = true := by rw [hg.out]; exact decide_eq_true hdi
          have hw := Lib.hid (RS.whose_of hu (hR.memS hx) hid)
          have hwn : Hid (s.whose i = n) := Lib.hid (hw.out.trans hxn)
          rw [decide_eq_true hdi] at hie
          go_wp2_with fail
          go_quiet (fail)
          go_wp2_with fail
          go_ret
          exact ⟨ret_int hwn.out.symm, hb0.trans ((belowN hb2 _).mono hb0.size)⟩
        · have hid : isId i x.m.g = false := by rw [hg.out]; exact decide_eq_false hdi
          rw [decide_eq_false hdi] at hie
          clear hdi
          go_wp2_with fail
          go_quiet (fail)
          go_wp2_with fail
          go_roundw
          case rel => exact ⟨pre ++ [n], (hrg2.keep rfl rfl).1, hpre.snoc hR hx hxn hid, belowN hb2 _⟩
          case measure => rw [(hrg2.keep (w' := w2.drewN _) rfl rfl).2]; exact hlt
end Go.Proofs.YtkolilbebkkpdaaDoor
