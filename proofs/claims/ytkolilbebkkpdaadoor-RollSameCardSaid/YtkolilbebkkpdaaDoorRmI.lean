/-
  The document's roll: a new one; whose device it is.
  The document's roll in memory; what it is asked: who is there, whose a guard is.
  The document's roll: where a member stands, roles, who is in, whose a guard is.
  The document's roll: roles, who was in, who is fresh, whose a guard is, devices, members.
  The document's roll: what a Remove, a Vouch, a Replace is asked first.
  The document's roll: what a Vouch, and a Replace, are asked first.
-/
import Derived.Test.YtkolilbebkkpdaaDoorRmF
import Derived.Test.YtkolilbebkkpdaaDoorRmG
namespace Go.Proofs.YtkolilbebkkpdaaDoor
open Go.RowKit Go.Maps

set_option maxRecDepth 100000 in
set_option maxHeartbeats 4000000 in
theorem NewR_any (w : World) (p : Option Addr) (c : Nat) :
  Calls Tryd.prog 27 #[.slice p 7 c] w fun e w' => e = .returned (.agg #[.slice p 7 c, .slice none 0 0, .slice none 0 0, .slice none 0 0, .int .i64 0, .slice none 0 0]) ∧ Below w.heap.size w w' := by
 have hb := Below.lit w (.cells #[.slice p 7 c, .slice none 0 0, .slice none 0 0, .slice none 0 0, .int .i64 0, .slice none 0 0] 60)
 have hgw := World.alloc_heap_new w (.cells #[.slice p 7 c, .slice none 0 0, .slice none 0 0, .slice none 0 0, .int .i64 0, .slice none 0 0] 60)
 go_enter Tryd.func27, Tryd.ntmps27
 go_wp2_with fail
 refine bodyPost_ret (v := .agg #[.slice p 7 c, .slice none 0 0, .slice none 0 0, .slice none 0 0, .int .i64 0, .slice none 0 0]) ?_ rfl ?_
 ·exact results_cell_row rfl _ _ w.heap.size 60 _ (0, 0) _ rfl hgw Tryd.underlying60 rfl (by kernel_rfl)
 ·exact ⟨rfl, hb⟩
theorem ofD_at {k : Nat} (hk : k < 7) : ofD ((k : Int) + 1) = nth ownersL k := by
 have : k = 0 ∨ k = 1 ∨ k = 2 ∨ k = 3 ∨ k = 4 ∨ k = 5 ∨ k = 6 := by omega
 rcases this with rfl | rfl | rfl | rfl | rfl | rfl | rfl <;> rfl
set_option maxRecDepth 100000 in
set_option maxHeartbeats 4000000 in
theorem OfR_any (w : World) (p : Option Addr) (c : Nat) (v1 v2 v3 v4 v5 : Value) (d : Int) (hRd : RdE cardE w p cardsP) :
  Calls Tryd.prog 26 #[.agg #[.slice p 7 c, v1, v2, v3, v4, v5], .int .i64 d] w fun e w' => e = .returned (.int .i64 (ofD d)) ∧ Below w.heap.size w w' := by
 have hb := Below.lit w (.cells #[.slice p 7 c, v1, v2, v3, v4, v5] 60)
 have hgw := World.alloc_heap_new w (.cells #[.slice p 7 c, v1, v2, v3, v4, v5] 60)
 have hR1 := hRd.below hb
 obtain ⟨wb, hwb, hgw⟩ := nameW (p := fun W => W.heap[w.heap.size]? = some (.cells #[.slice p 7 c, v1, v2, v3, v4, v5] 60 (0, 0))) hgw
 rw [hwb.out] at hb hR1
 have hc0 : wb.cell? ⟨w.heap.size, 0, none⟩ = some (.slice p 7 c) := by simp [World.cell?, hgw]
 obtain ⟨r, hr⟩ : ∃ r, Hid (ofD d = r) := ⟨_, Lib.hid rfl⟩
 rw [hr.out]
 go_enter Tryd.func26, Tryd.ntmps26
 go_wp2_with (first | (rw [hwb.out]) | fail)
 go_loopw [5] (fun i wr => ∃ k : Nat, k ≤ 7 ∧ i = .int .i64 k ∧ Hid (∀ j, j < k → (j : Int) + 1 ≠ d) ∧ wb = wr) (fun i _ => 7 - (intOf i).toNat)
 case atStart => exact ⟨0, by omega, rfl, Lib.hid (fun j hj => absurd hj (by omega)), rfl⟩
 case round =>
  obtain ⟨k, hk, rfl, hno, rfl⟩ := hrel
  by_cases hlt : k < 7
  ·obtain ⟨b, off, rfl, hbl, hcc⟩ := hR1 k (by show k < 7; exact hlt)
   rw [cardsP_at hlt] at hcc
   have q0 : wb.cell? ⟨b, off + k * 5, none⟩ = some (.int .i64 ((k : Int) + 1)) := hcc 0 _ rfl
   have q1 : wb.cell? ⟨b, off + k * 5 + 1, none⟩ = some (.int .i64 (nth ownersL k)) := hcc 1 _ rfl
   have hix1 : (0 : Int) ≤ (k : Int) := by omega
   have hix2 : (k : Int) < (7 : Int) := by omega
   obtain ⟨o, ho⟩ : ∃ o, Hid (nth ownersL k = o) := ⟨_, Lib.hid rfl⟩
   obtain ⟨kd, hkd⟩ : ∃ kd, Hid ((k : Int) + 1 = kd) := ⟨_, Lib.hid rfl⟩
   rw [ho.out] at q1
   rw [hkd.out] at q0
   replace hcc := Lib.hid hcc
   by_cases hd : kd = d
   ·have t1 : (kd == d) = true := beq_iff_eq.2 hd
    have hro : Hid (r = o) := Lib.hid (by rw [← hr.out, ← hd, ← hkd.out, ofD_at hlt, ho.out])
    replace hd := Lib.hid hd
    go_wp2_with fail
    go_ret
    exact ⟨ret_int hro.out.symm, hb⟩
   ·have t1 : (kd == d) = false := beq_eq_false_iff_ne.2 hd
    replace hd := Lib.hid hd
    go_wp2_with fail
    go_roundw
    case rel => exact ⟨k + 1, by omega, by go_num, Lib.hid (fun j hj => by
     rcases Nat.lt_or_ge j k with h | h
     ·exact hno.out j h
     ·have : j = k := by omega
      subst this
      rw [hkd.out]; exact hd.out), trivial⟩
    case measure => simp [intOf]; omega
  ·have hk7 : k = 7 := by omega
   have hr0 : Hid (r = 0) := Lib.hid (by
    rw [← hr.out]
    have := hno.out
    subst hk7
    have h0 := this 0 (by omega)
    have h1 := this 1 (by omega)
    have h2 := this 2 (by omega)
    have h3 := this 3 (by omega)
    have h4 := this 4 (by omega)
    have h5 := this 5 (by omega)
    have h6 := this 6 (by omega)
    unfold ofD
    omega)
   go_wp2_with fail
   go_ret
   exact ⟨ret_int hr0.out.symm, hb⟩
end Go.Proofs.YtkolilbebkkpdaaDoor

namespace Go.Proofs.YtkolilbebkkpdaaDoor
open Go.RowKit Go.Maps Go.BigFrame
attribute [local go_sem] in_gr

def isO : Option Gd → Bool | some _ => true | none => false
def idO : Option Gd → Idn | some g => g.id | none => ⟨0, 0, 0⟩
def gsO : Option Gd → List Int | some g => g.gs | none => []
def nO : Option Gd → Int | some g => g.n | none => 0
def tO : Option Gd → Int | some g => g.t | none => 0
def obO : Option Gd → Bool | some g => g.ob | none => false
def laO : Option Gd → Int | some g => g.la | none => 0
abbrev ME := (Int × Mb) × Option Addr × Nat
def mC (x : ME) : Array Value := #[.int .i64 x.1.1, .int .i64 x.1.2.r, .bool (isO x.1.2.g), .int .i64 (idO x.1.2.g).b, .int .i64 (idO x.1.2.g).s, .int .u64 (idO x.1.2.g).u, .slice x.2.1 (gsO x.1.2.g).length x.2.2, .int .i64 (nO x.1.2.g), .int .i64 (tO x.1.2.g), .bool (obO x.1.2.g), .int .i64 (laO x.1.2.g)]
def mE : El ME where
 t := 108
 st := 57
 sz := 11
 bt := 104
 z := .agg (mC ((0, ⟨0, none⟩), none, 0))
 c := fun x => (mC x).toList
 hlen := fun _ => rfl
 hone := fun x u hu => by
  simp only [mC, List.mem_cons, List.not_mem_nil, or_false] at hu
  rcases hu with rfl | rfl | rfl | rfl | rfl | rfl | rfl | rfl | rfl | rfl | rfl <;> rfl
 hund := Tryd.underlying57
 hinf := by kernel_rfl
 hz := rfl
 hp := by decide
 hb := by decide
/-- A vouch: of which guard, by whom, for which device, the least tick. -/
structure VI where
 f : Idn
 b : Int
 d : Int
 a : Int
def vC (x : VI) : Array Value := #[.int .i64 x.f.b, .int .i64 x.f.s, .int .u64 x.f.u, .int .i64 x.b, .int .i64 x.d, .int .i64 x.a]
def vE : El VI where
 t := 128
 st := 58
 sz := 6
 bt := 48
 z := .agg (vC ⟨⟨0, 0, 0⟩, 0, 0, 0⟩)
 c := fun x => (vC x).toList
 hlen := fun _ => rfl
 hone := fun x u hu => by
  simp only [vC, List.mem_cons, List.not_mem_nil, or_false] at hu
  rcases hu with rfl | rfl | rfl | rfl | rfl | rfl <;> rfl
 hund := Tryd.underlying58
 hinf := by kernel_rfl
 hz := rfl
 hp := by decide
 hb := by decide
/-- The vouches that count are those of the members' guards, each once. -/
structure VsOk (s : RS) (vs : List VI) : Prop where
 nd : (vs.map fun v => (v.f, v.b, v.d)).Nodup
 mem : ∀ v, v ∈ vs ↔ ∃ p ∈ s.ms, ∃ g, p.2.g = some g ∧ g.id = v.f ∧ ((v.b, v.d), v.a) ∈ g.vo
/-- Where the document's roll lies. -/
structure RfV where
 pc : Option Addr
 cc : Nat
 pi : Option Addr
 ci : Nat
 pg : Option Addr
 cg : Nat
 pl : Option Addr
 cl : Nat
 pv : Option Addr
 cv : Nat
def rfC (a : RfV) (s : RS) (nv : Nat) : Array Value := #[.slice a.pc 7 a.cc, .slice a.pi s.ins.length a.ci, .slice a.pg s.gone.length a.cg, .slice a.pl s.ms.length a.cl, .int .i64 s.bk, .slice a.pv nv a.cv]
/-- Where the document's roll lies: all its blocks are such. -/
structure RfIn (P : Nat → Prop) (a : RfV) (L : List ME) : Prop where
 pc : ∀ q, a.pc = some q → P q.block
 pi : ∀ q, a.pi = some q → P q.block
 pg : ∀ q, a.pg = some q → P q.block
 pl : ∀ q, a.pl = some q → P q.block
 pv : ∀ q, a.pv = some q → P q.block
 gs : ∀ x ∈ L, ∀ q, x.2.1 = some q → P q.block
theorem RfIn.mono {P Q : Nat → Prop} {a : RfV} {L : List ME} (h : RfIn P a L) (hPQ : ∀ b, P b → Q b) : RfIn Q a L :=
 ⟨fun q e => hPQ _ (h.pc q e), fun q e => hPQ _ (h.pi q e), fun q e => hPQ _ (h.pg q e), fun q e => hPQ _ (h.pl q e), fun q e => hPQ _ (h.pv q e), fun x hx q e => hPQ _ (h.gs x hx q e)⟩
structure RfAt (w : World) (a : RfV) (s : RS) (L : List ME) (vs : List VI) : Prop where
 cards : RdE cardE w a.pc cardsP
 ins : UI w a.pi s.ins.length s.ins
 gone : ∃ gl : List Int, gl.Perm s.gone ∧ UI w a.pg s.gone.length gl
 lm : RdE mE w a.pl L
 lq : L.map Prod.fst = s.ms
 gs : ∀ x ∈ L, UI w x.2.1 (gsO x.1.2.g).length (gsO x.1.2.g)
 vv : RdE vE w a.pv vs
 nz : (a.pi = none → a.ci = 0) ∧ (a.pg = none → a.cg = 0) ∧ (a.pl = none → a.cl = 0) ∧ (a.pv = none → a.cv = 0)
 lt : RfIn (· < w.heap.size) a L
theorem RfAt.below {w w' : World} {a : RfV} {s : RS} {L : List ME} {vs : List VI} (h : RfAt w a s L vs) (hb : Below w.heap.size w w') : RfAt w' a s L vs :=
 ⟨h.cards.below hb, h.ins.below hb, (by obtain ⟨gl, h1, h2⟩ := h.gone; exact ⟨gl, h1, h2.below hb⟩), h.lm.below hb, h.lq, fun x hx => (h.gs x hx).below hb, h.vv.below hb, h.nz, h.lt.mono fun _ h1 => Nat.lt_of_lt_of_le h1 hb.size⟩
/-- A roll in a variable. -/
def RfBox (w : World) (b : Nat) (a : RfV) (s : RS) (nv : Nat) : Prop := w.heap[b]? = some (.cells (rfC a s nv) 60 (0, 0))
theorem RfBox.made (w : World) (a : RfV) (s : RS) (nv : Nat) : RfBox (w.alloc (.cells (rfC a s nv) 60)) w.heap.size a s nv := World.alloc_heap_new w _
theorem RfBox.below {w w' : World} {b : Nat} {a : RfV} {s : RS} {nv : Nat} (h : RfBox w b a s nv) (hb : Below w.heap.size w w') : RfBox w' b a s nv := (hb.block b (blk_lt h)).trans h
section
variable {w : World} {b : Nat} {a : RfV} {s : RS} {nv : Nat}
theorem RfBox.cell (h : RfBox w b a s nv) (i : Nat) : w.cell? ⟨b, i, none⟩ = (rfC a s nv)[i]? := by simp [World.cell?, show w.heap[b]? = _ from h]
theorem RfBox.c0 (h : RfBox w b a s nv) : w.cell? ⟨b, 0, none⟩ = some (.slice a.pc 7 a.cc) := by rw [h.cell]; rfl
theorem RfBox.c1 (h : RfBox w b a s nv) : w.cell? ⟨b, 1, none⟩ = some (.slice a.pi s.ins.length a.ci) := by rw [h.cell]; rfl
theorem RfBox.c2 (h : RfBox w b a s nv) : w.cell? ⟨b, 2, none⟩ = some (.slice a.pg s.gone.length a.cg) := by rw [h.cell]; rfl
theorem RfBox.c3 (h : RfBox w b a s nv) : w.cell? ⟨b, 3, none⟩ = some (.slice a.pl s.ms.length a.cl) := by rw [h.cell]; rfl
theorem RfBox.c4 (h : RfBox w b a s nv) : w.cell? ⟨b, 4, none⟩ = some (.int .i64 s.bk) := by rw [h.cell]; rfl
theorem RfBox.c5 (h : RfBox w b a s nv) : w.cell? ⟨b, 5, none⟩ = some (.slice a.pv nv a.cv) := by rw [h.cell]; rfl
end
set_option maxRecDepth 100000 in
theorem HasL_any (p : Option Addr) (n : Nat) (xs : List Int) (c : Nat) (x : Int) (w : World) (hX : UI w p n xs) (hn : n ≤ 9000000000000) :
  Calls Tryd.prog 35 #[.slice p n c, .int .i64 x] w fun e w' => e = .returned (.bool (decide (x ∈ xs))) ∧ w = w' := by
 have hlx := Lib.hid hX.len
 obtain ⟨r, hr⟩ : ∃ r, Hid (decide (x ∈ xs) = r) := ⟨_, Lib.hid rfl⟩
 rw [hr.out]
 go_enter Tryd.func35, Tryd.ntmps35
 go_wp2_with fail
 go_loopw [5] (fun i wr => ∃ k : Nat, k ≤ n ∧ i = .int .i64 k ∧ Hid (∀ j, j < k → nth xs j ≠ x) ∧ w = wr) (fun i _ => n - (intOf i).toNat)
 case atStart => exact ⟨0, Nat.zero_le _, rfl, Lib.hid (fun j hj => absurd hj (by omega)), rfl⟩
 case round =>
  obtain ⟨k, hk, rfl, hall, rfl⟩ := hrel
  by_cases hlt : k < n
  ·obtain ⟨b, off, rfl, _, hc1, _⟩ := hX.look hlt
   have hix1 : (0 : Int) ≤ (k : Int) := by omega
   have hix2 : (k : Int) < (n : Int) := by omega
   obtain ⟨y, hy⟩ : ∃ y, Hid (nth xs k = y) := ⟨_, Lib.hid rfl⟩
   rw [hy.out] at hc1
   by_cases hxy : y = x
   ·have t1 : (y == x) = true := beq_iff_eq.2 hxy
    have hrt : Hid (r = true) := Lib.hid (by
     rw [← hr.out, decide_eq_true_eq, ← hxy, ← hy.out]
     have hkx : k < xs.length := by rw [hlx.out]; exact hlt
     unfold nth
     rw [List.getD_eq_getElem?_getD, List.getElem?_eq_getElem hkx]
     exact List.getElem_mem hkx)
    replace hxy := Lib.hid hxy
    go_wp2_with fail
    go_ret
    exact ⟨ret_bool (b := r) hrt.out.symm, rfl⟩
   ·have t1 : (y == x) = false := beq_eq_false_iff_ne.2 hxy
    replace hxy := Lib.hid hxy
    go_wp2_with fail
    go_roundw
    case rel => exact ⟨k + 1, by omega, by go_num, Lib.hid (fun j hj => by
     rcases Nat.lt_or_ge j k with h | h
     ·exact hall.out j h
     ·obtain rfl : j = k := by omega
      rw [hy.out]; exact hxy.out), by first | rfl | trivial⟩
    case measure => simp [intOf]; omega
  ·have hkn : k = n := by omega
   have hrf : Hid (r = false) := Lib.hid (by
    rw [← hr.out]
    refine decide_eq_false fun hm => ?_
    obtain ⟨i, hi, e⟩ := List.mem_iff_getElem.1 hm
    refine hall.out i (by have := hlx.out; omega) ?_
    unfold nth
    rw [List.getD_eq_getElem?_getD, List.getElem?_eq_getElem hi]
    exact e)
   go_wp2_with fail
   go_ret
   exact ⟨ret_bool (b := r) hrf.out.symm, rfl⟩
end Go.Proofs.YtkolilbebkkpdaaDoor

namespace Go.Proofs.YtkolilbebkkpdaaDoor
open Go.RowKit Go.Maps Go.BigFrame
attribute [local go_sem] in_gr

/-- The first place where something stands; below 0: nowhere. -/
def firstI {α : Type} (f : α → Bool) (l : List α) : Int := if l.findIdx f < l.length then (l.findIdx f : Int) else -1
theorem firstI_none {α : Type} {f : α → Bool} {l : List α} (h : ∀ x ∈ l, f x = false) : firstI f l = -1 := by
 unfold firstI
 rw [if_neg]
 intro h2
 have := List.findIdx_getElem (w := h2)
 rw [h _ (List.getElem_mem h2)] at this
 cases this
theorem firstI_at {α : Type} {f : α → Bool} {l : List α} {k : Nat} (hk : k < l.length) (h : f l[k] = true) (hno : ∀ j (hj : j < k), f (l[j]'(Nat.lt_trans hj hk)) = false) : firstI f l = k := by
 have e : l.findIdx f = k := (List.findIdx_eq hk).2 ⟨h, fun j hj => hno j hj⟩
 unfold firstI
 rw [e, if_pos hk]
def memI (s : RS) (n : Int) : Int := firstI (fun p => decide (p.1 = n)) s.ms
theorem memI_cases (s : RS) (n : Int) : (memI s n = -1 ∧ s.memb n = none) ∨ ∃ (k : Nat) (m : Mb), memI s n = k ∧ s.ms[k]? = some (n, m) ∧ s.memb n = some m := by
 unfold memI firstI RS.memb
 by_cases h : s.ms.findIdx (fun p => decide (p.1 = n)) < s.ms.length
 ·rw [if_pos h]
  have h1 := List.findIdx_getElem (w := h)
  rw [decide_eq_true_eq] at h1
  right
  refine ⟨_, (s.ms[s.ms.findIdx fun p => decide (p.1 = n)]).2, rfl, ?_, ?_⟩
  ·rw [List.getElem?_eq_getElem h]
   congr 1
   exact Prod.ext h1 rfl
  ·unfold lk
   rw [List.find?_eq_some_iff_getElem.2 ⟨by simpa using h1, _, h, rfl, fun j hj => by
    have := List.not_of_lt_findIdx hj
    simpa using this⟩]
   rfl
 ·rw [if_neg h]
  left
  refine ⟨rfl, lk_none.2 fun p hp e => h ?_⟩
  exact List.findIdx_lt_length_of_exists ⟨p, hp, by simpa using e⟩
def whoI (s : RS) (i : Idn) : Int := firstI (fun p => isId i p.2.g) s.ms
theorem whoI_cases (s : RS) (i : Idn) : (whoI s i = -1 ∧ ∀ p ∈ s.ms, isId i p.2.g = false) ∨ ∃ (k : Nat) (p : Int × Mb), whoI s i = k ∧ s.ms[k]? = some p ∧ isId i p.2.g = true := by
 unfold whoI firstI
 by_cases h : s.ms.findIdx (fun p => isId i p.2.g) < s.ms.length
 ·rw [if_pos h]
  have h1 := List.findIdx_getElem (w := h)
  exact .inr ⟨_, _, rfl, List.getElem?_eq_getElem h, h1⟩
 ·rw [if_neg h]
  refine .inl ⟨rfl, fun p hp => ?_⟩
  cases e : isId i p.2.g with
  | false => rfl
  | true => exact absurd (List.findIdx_lt_length_of_exists ⟨p, hp, e⟩) h
/-- The cells of a member of the document's roll. -/
theorem RfAt.at_ {w : World} {a : RfV} {s : RS} {L : List ME} {vs : List VI} (h : RfAt w a s L vs) {k : Nat} (hk : k < s.ms.length) : ∃ (b off : Nat) (x : ME), x ∈ L ∧ x.1 = s.ms[k] ∧ a.pl = some ⟨b, off, none⟩ ∧ b < w.heap.size ∧ L[k]? = some x ∧ ∀ j u, (mC x)[j]? = some u → w.cell? ⟨b, off + k * 11 + j, none⟩ = some u := by
 have hl : k < L.length := by have := congrArg List.length h.lq; rw [List.length_map] at this; omega
 obtain ⟨b, off, hp, hb, hc⟩ := h.lm k hl
 refine ⟨b, off, L[k], List.getElem_mem hl, ?_, hp, hb, List.getElem?_eq_getElem hl, fun j u hu => hc j u (by show (mC L[k]).toList[j]? = some u; simpa using hu)⟩
 have : (L.map Prod.fst)[k]? = s.ms[k]? := by rw [h.lq]
 rw [List.getElem?_map, List.getElem?_eq_getElem hl, List.getElem?_eq_getElem hk] at this
 simpa using this
set_option maxRecDepth 100000 in
set_option maxHeartbeats 4000000 in
theorem MemR_any (w : World) (a : RfV) (s : RS) (L : List ME) (vs : List VI) (n : Int) (hR : RfAt w a s L vs) (hs : s.ms.length ≤ 1000) :
  Calls Tryd.prog 50 #[.agg (rfC a s vs.length), .int .i64 n] w fun e w' => e = .returned (.int .i64 (memI s n)) ∧ Below w.heap.size w w' := by
 have hbx := Below.lit w (.cells (rfC a s vs.length) 60)
 have hRb := hR.below hbx
 have hBx := RfBox.made w a s vs.length
 obtain ⟨wb, hwb, hBx⟩ := nameW (p := fun W => RfBox W w.heap.size a s vs.length) hBx
 rw [hwb.out] at hbx hRb
 obtain ⟨bx, hbxn⟩ : ∃ bx, Hid (w.heap.size = bx) := ⟨_, Lib.hid rfl⟩
 rw [hbxn.out] at hBx
 have k3 := hBx.c3
 obtain ⟨r, hr⟩ : ∃ r, Hid (memI s n = r) := ⟨_, Lib.hid rfl⟩
 rw [hr.out]
 go_enter Tryd.func50, Tryd.ntmps50
 go_wp2_with (first | (rw [hwb.out]) | fail)
 rw [hbxn.out]
 go_loopw [5] (fun i wr => ∃ k : Nat, k ≤ s.ms.length ∧ i = .int .i64 k ∧ Hid (∀ j (hj : j < s.ms.length), j < k → s.ms[j].1 ≠ n) ∧ wb = wr) (fun i _ => s.ms.length - (intOf i).toNat)
 case atStart => exact ⟨0, Nat.zero_le _, rfl, Lib.hid (fun j hj h => absurd h (by omega)), rfl⟩
 case round =>
  obtain ⟨k, hk, rfl, hall, rfl⟩ := hrel
  by_cases hlt : k < s.ms.length
  ·obtain ⟨b, off, x, hxL, hxs, hp, _, _, hc⟩ := hRb.at_ hlt
   have c0 : wb.cell? ⟨b, off + k * 11, none⟩ = some (.int .i64 x.1.1) := hc 0 _ rfl
   have hix1 : (0 : Int) ≤ (k : Int) := by omega
   have hix2 : (k : Int) < (s.ms.length : Int) := by omega
   rw [hp] at k3
   obtain ⟨y, hy⟩ : ∃ y, Hid (x.1.1 = y) := ⟨_, Lib.hid rfl⟩
   rw [hy.out] at c0
   have hys : Hid (s.ms[k].1 = y) := Lib.hid (by rw [← hxs]; exact hy.out)
   replace hxs := Lib.hid hxs
   replace hc := Lib.hid hc
   by_cases hyn : y = n
   ·have t1 : (y == n) = true := beq_iff_eq.2 hyn
    have hrk : Hid (r = k) := Lib.hid (by
     rw [← hr.out]
     unfold memI
     exact firstI_at hlt (by rw [hys.out]; exact decide_eq_true hyn) (fun j hj => decide_eq_false (hall.out j (by omega) hj)))
    replace hyn := Lib.hid hyn
    go_wp2_with fail
    go_ret
    exact ⟨ret_int hrk.out.symm, hbx⟩
   ·have t1 : (y == n) = false := beq_eq_false_iff_ne.2 hyn
    replace hyn := Lib.hid hyn
    go_wp2_with fail
    go_roundw
    case rel => exact ⟨k + 1, by omega, by go_num, Lib.hid (fun j hj hjk => by
     rcases Nat.lt_or_ge j k with h | h
     ·exact hall.out j hj h
     ·obtain rfl : j = k := by omega
      rw [hys.out]; exact hyn.out), by first | rfl | trivial⟩
    case measure => simp [intOf]; omega
  ·have hkn : k = s.ms.length := by omega
   have hrf : Hid (r = -1) := Lib.hid (by
    rw [← hr.out]
    unfold memI
    refine firstI_none fun p hp => decide_eq_false fun e => ?_
    obtain ⟨i, hi, e2⟩ := List.mem_iff_getElem.1 hp
    exact hall.out i hi (by omega) (by rw [e2]; exact e))
   go_wp2_with fail
   go_ret
   exact ⟨ret_int hrf.out.symm, hbx⟩
end Go.Proofs.YtkolilbebkkpdaaDoor

namespace Go.Proofs.YtkolilbebkkpdaaDoor
open Go.RowKit Go.Maps Go.BigFrame
attribute [local go_sem] in_gr

theorem role_of (s : RS) (n : Int) : (memI s n = -1 ∧ s.role n = 0) ∨ ∃ (k : Nat) (m : Mb), memI s n = k ∧ ∃ h : k < s.ms.length, s.ms[k] = (n, m) ∧ s.role n = m.r := by
 rcases memI_cases s n with ⟨h1, h2⟩ | ⟨k, m, h1, h2, h3⟩
 ·exact .inl ⟨h1, by unfold RS.role; rw [h2]; rfl⟩
 ·obtain ⟨hk, e⟩ := List.getElem?_eq_some_iff.1 h2
  exact .inr ⟨k, m, h1, hk, e, by unfold RS.role; rw [h3]; rfl⟩
set_option maxRecDepth 100000 in
set_option maxHeartbeats 4000000 in
theorem RoleR_any (w : World) (a : RfV) (s : RS) (L : List ME) (vs : List VI) (n : Int) (hR : RfAt w a s L vs) (hs : s.ms.length ≤ 1000) :
  Calls Tryd.prog 47 #[.agg (rfC a s vs.length), .int .i64 n] w fun e w' => e = .returned (.int .i64 (s.role n)) ∧ Below w.heap.size w w' := by
 have hbx := Below.lit w (.cells (rfC a s vs.length) 60)
 have hRb := hR.below hbx
 have hBx := RfBox.made w a s vs.length
 obtain ⟨wb, hwb, hBx⟩ := nameW (p := fun W => RfBox W w.heap.size a s vs.length) hBx
 rw [hwb.out] at hbx hRb
 obtain ⟨bx, hbxn⟩ : ∃ bx, Hid (w.heap.size = bx) := ⟨_, Lib.hid rfl⟩
 rw [hbxn.out] at hBx
 obtain ⟨r, hr⟩ : ∃ r, Hid (s.role n = r) := ⟨_, Lib.hid rfl⟩
 rw [hr.out]
 go_enter Tryd.func47, Tryd.ntmps47
 go_upto_region 1 with (first | (rw [hwb.out]) | fail)
 rw [hbxn.out]
 go_wp2_with (first
  | (refine wpList_load_row rfl 60 _ rfl bx rfl 60 (rfC a s vs.length) (0, 0) _ hBx Tryd.underlying60 rfl (by kernel_rfl) ?_)
  | fail)
 refine (MemR_any wb a s L vs n hRb hs).mono ?_
 rintro e w1 ⟨rfl, hb1⟩
 have hB1 := hBx.below hb1
 have hR1 := hRb.below hb1
 have k3 := hB1.c3
 have hB := hbx.trans (hb1.mono hbx.size)
 rcases role_of s n with ⟨h1, h2⟩ | ⟨k, m, h1, hk, h2, h3⟩
 ·have hr0 : Hid (r = 0) := Lib.hid (by rw [← hr.out]; exact h2)
  rw [h1]
  replace h2 := Lib.hid h2
  go_wp2_with fail
  go_ret
  exact ⟨ret_int hr0.out.symm, hB⟩
 ·obtain ⟨b, off, x, hxL, hxs, hp, _, _, hc⟩ := hR1.at_ hk
  have c1 : w1.cell? ⟨b, off + k * 11 + 1, none⟩ = some (.int .i64 x.1.2.r) := hc 1 _ rfl
  have hxr : Hid (x.1.2.r = m.r) := Lib.hid (by rw [hxs, h2])
  have hix1 : (0 : Int) ≤ (k : Int) := by omega
  have hix2 : (k : Int) < (s.ms.length : Int) := by omega
  have t1 : decide ((k : Int) < 0) = false := decide_eq_false (by omega)
  rw [hp] at k3
  rw [h1]
  have hxr2 : Hid (x.1.2.r = r) := Lib.hid (by rw [hxr.out, ← hr.out]; exact h3.symm)
  rw [hxr2.out] at c1
  replace h2 := Lib.hid h2
  replace h3 := Lib.hid h3
  replace h1 := Lib.hid h1
  replace hxs := Lib.hid hxs
  replace hc := Lib.hid hc
  clear hxr
  go_wp2_with fail
  go_ret
  exact ⟨rfl, hB⟩
set_option maxRecDepth 100000 in
set_option maxHeartbeats 4000000 in
theorem WasR_any (w : World) (a : RfV) (s : RS) (L : List ME) (vs : List VI) (d : Int) (hR : RfAt w a s L vs) (hf : (s.ins ++ s.gone).length ≤ 1000) :
  Calls Tryd.prog 62 #[.agg (rfC a s vs.length), .int .i64 d] w fun e w' => e = .returned (.bool (s.wasB d)) ∧ Below w.heap.size w w' := by
 rw [List.length_append] at hf
 have hbx := Below.lit w (.cells (rfC a s vs.length) 60)
 have hRb := hR.below hbx
 have hBx := RfBox.made w a s vs.length
 obtain ⟨wb, hwb, hBx⟩ := nameW (p := fun W => RfBox W w.heap.size a s vs.length) hBx
 rw [hwb.out] at hbx hRb
 obtain ⟨bx, hbxn⟩ : ∃ bx, Hid (w.heap.size = bx) := ⟨_, Lib.hid rfl⟩
 rw [hbxn.out] at hBx
 have k1 := hBx.c1
 have k2 := hBx.c2
 obtain ⟨x1, h1⟩ : ∃ x, Hid (decide (d ∈ s.ins) = x) := ⟨_, Lib.hid rfl⟩
 obtain ⟨x2, h2⟩ : ∃ x, Hid (decide (d ∈ s.gone) = x) := ⟨_, Lib.hid rfl⟩
 have hres : Hid (s.wasB d = (x1 || x2)) := Lib.hid (by
  rw [← h1.out, ← h2.out]
  unfold RS.wasB
  simp only [List.mem_append, Bool.decide_or])
 rw [hres.out]
 go_enter Tryd.func62, Tryd.ntmps62
 go_upto_region 1 with (first | (rw [hwb.out]) | fail)
 rw [hbxn.out]
 go_wp2_with fail
 refine (HasL_any a.pi s.ins.length s.ins a.ci d wb hRb.ins (by omega)).mono ?_
 rintro e _ ⟨rfl, rfl⟩
 rw [h1.out]
 cases x1 with
 | true =>
  go_wp2_with fail
  go_ret
  exact ⟨rfl, hbx⟩
 | false =>
  go_wp2_with fail
  obtain ⟨gl, hgp, hgl⟩ := hRb.gone
  refine (HasL_any a.pg s.gone.length gl a.cg d wb hgl (by omega)).mono ?_
  rintro e _ ⟨rfl, rfl⟩
  rw [show decide (d ∈ gl) = x2 by rw [← h2.out]; exact decide_eq_decide.2 hgp.mem_iff]
  go_wp2_with fail
  go_ret
  exact ⟨rfl, hbx⟩
set_option maxRecDepth 100000 in
set_option maxHeartbeats 4000000 in
theorem freshR_any (w : World) (a : RfV) (s : RS) (L : List ME) (vs : List VI) (d : Int) (hR : RfAt w a s L vs) (hf : (s.ins ++ s.gone).length ≤ 1000) :
  Calls Tryd.prog 48 #[.agg (rfC a s vs.length), .int .i64 d] w fun e w' => e = .returned (.bool (s.fresh d)) ∧ Below w.heap.size w w' := by
 have hbx := Below.lit w (.cells (rfC a s vs.length) 60)
 have hRb := hR.below hbx
 have hBx := RfBox.made w a s vs.length
 obtain ⟨wb, hwb, hBx⟩ := nameW (p := fun W => RfBox W w.heap.size a s vs.length) hBx
 rw [hwb.out] at hbx hRb
 obtain ⟨bx, hbxn⟩ : ∃ bx, Hid (w.heap.size = bx) := ⟨_, Lib.hid rfl⟩
 rw [hbxn.out] at hBx
 obtain ⟨x1, h1⟩ : ∃ x, Hid (decide (ofD d > 0) = x) := ⟨_, Lib.hid rfl⟩
 obtain ⟨x2, h2⟩ : ∃ x, Hid (s.wasB d = x) := ⟨_, Lib.hid rfl⟩
 have hres : Hid (s.fresh d = (x1 && !x2)) := Lib.hid (by
  rw [← h1.out, ← h2.out]
  rfl)
 rw [hres.out]
 go_enter Tryd.func48, Tryd.ntmps48
 go_upto_region 1 with (first | (rw [hwb.out]) | fail)
 rw [hbxn.out]
 go_wp2_with (first
  | (refine wpList_load_row rfl 60 _ rfl bx rfl 60 (rfC a s vs.length) (0, 0) _ hBx Tryd.underlying60 rfl (by kernel_rfl) ?_)
  | fail)
 refine (WasR_any wb a s L vs d hRb hf).mono ?_
 rintro e w1 ⟨rfl, hb1⟩
 rw [h2.out]
 have hB1 := hBx.below hb1
 have hR1 := hRb.below hb1
 have hB := hbx.trans (hb1.mono hbx.size)
 go_wp2_with (first
  | (refine wpList_load_row rfl 60 _ rfl bx rfl 60 (rfC a s vs.length) (0, 0) _ hB1 Tryd.underlying60 rfl (by kernel_rfl) ?_)
  | fail)
 refine (OfR_any w1 a.pc a.cc _ _ _ _ _ d hR1.cards).mono ?_
 rintro e w2 ⟨rfl, hb2⟩
 have hB2 := hB.trans (hb2.mono hB.size)
 obtain ⟨od, hod⟩ : ∃ od, Hid (ofD d = od) := ⟨_, Lib.hid rfl⟩
 rw [hod.out]
 have q1 : decide (0 < od) = x1 := by rw [← h1.out, hod.out]
 cases x1 with
 | true =>
  go_wp2_with fail
  go_ret
  exact ⟨rfl, hB2⟩
 | false =>
  go_wp2_with fail
  go_ret
  exact ⟨rfl, hB2⟩
set_option maxRecDepth 100000 in
set_option maxHeartbeats 4000000 in
theorem whoR_any (w : World) (a : RfV) (s : RS) (L : List ME) (vs : List VI) (i : Idn) (hR : RfAt w a s L vs) (hs : s.ms.length ≤ 1000) :
  Calls Tryd.prog 57 #[.agg (rfC a s vs.length), .agg #[.int .i64 i.b, .int .i64 i.s, .int .u64 i.u]] w fun e w' => e = .returned (.int .i64 (whoI s i)) ∧ Below w.heap.size w w' := by
 have hbx := Below.lit w (.cells (rfC a s vs.length) 60)
 have hRb := hR.below hbx
 have hBx := RfBox.made w a s vs.length
 obtain ⟨wb, hwb, hBx⟩ := nameW (p := fun W => RfBox W w.heap.size a s vs.length) hBx
 rw [hwb.out] at hbx hRb
 obtain ⟨bx, hbxn⟩ : ∃ bx, Hid (w.heap.size = bx) := ⟨_, Lib.hid rfl⟩
 rw [hbxn.out] at hBx
 have hst := id_stood
 have hgd := id_guard
 have hI2 := IdAt.made wb i
 have hb2 := Below.lit wb (.cells #[.int .i64 i.b, .int .i64 i.s, .int .u64 i.u] 34)
 obtain ⟨wi, hwi, hI2⟩ := nameW (p := fun W => IdAt W wb.heap.size i) hI2
 rw [hwi.out] at hb2
 obtain ⟨bi, hbin⟩ : ∃ bi, Hid (wb.heap.size = bi) := ⟨_, Lib.hid rfl⟩
 rw [hbin.out] at hI2
 have hRi := hRb.below hb2
 have hBi := hBx.below hb2
 have hbw := hbx.trans (hb2.mono hbx.size)
 obtain ⟨r, hr⟩ : ∃ r, Hid (whoI s i = r) := ⟨_, Lib.hid rfl⟩
 rw [hr.out]
 go_enter Tryd.func57, Tryd.ntmps57
 go_upto_region 1 with (first | (rw [hwb.out]) | (rw [hwi.out]) | fail)
 rw [hbxn.out, hbin.out]
 go_wp2_with fail
 go_loopw [5] (fun i' wr => ∃ k : Nat, k ≤ s.ms.length ∧ i' = .int .i64 k ∧ Hid (∀ j (hj : j < s.ms.length), j < k → isId i s.ms[j].2.g = false) ∧ Hid (Below wi.heap.size wi wr)) (fun i' _ => s.ms.length - (intOf i').toNat)
 case atStart => exact ⟨0, Nat.zero_le _, rfl, Lib.hid (fun j hj h => absurd h (by omega)), Lib.hid (Below.refl _ _)⟩
 case round =>
  obtain ⟨k, hk, rfl, hall, hbr⟩ := hrel
  have k3 := (hBi.below hbr.out).c3
  have hBr := hbw.trans (hbr.out.mono hbw.size)
  by_cases hlt : k < s.ms.length
  ·obtain ⟨b, off, x, hxL, hxs, hp, _, _, hc⟩ := (hRi.below hbr.out).at_ hlt
   have hIr := hI2.below hbr.out
   have i0 : wr.cell? ⟨bi, 0, none⟩ = some (.int .i64 i.b) := by simp [World.cell?, show wr.heap[bi]? = _ from hIr]
   have i1 : wr.cell? ⟨bi, 1, none⟩ = some (.int .i64 i.s) := by simp [World.cell?, show wr.heap[bi]? = _ from hIr]
   have i2 : wr.cell? ⟨bi, 2, none⟩ = some (.int .u64 i.u) := by simp [World.cell?, show wr.heap[bi]? = _ from hIr]
   have c2 : wr.cell? ⟨b, off + k * 11 + 2, none⟩ = some (.bool (isO x.1.2.g)) := hc 2 _ rfl
   have c3 : wr.cell? ⟨b, off + k * 11 + 3, none⟩ = some (.int .i64 (idO x.1.2.g).b) := hc 3 _ rfl
   have c4 : wr.cell? ⟨b, off + k * 11 + 3 + 1, none⟩ = some (.int .i64 (idO x.1.2.g).s) := hc 4 _ rfl
   have c5 : wr.cell? ⟨b, off + k * 11 + 3 + 2, none⟩ = some (.int .u64 (idO x.1.2.g).u) := hc 5 _ rfl
   have hix1 : (0 : Int) ≤ (k : Int) := by omega
   have hix2 : (k : Int) < (s.ms.length : Int) := by omega
   rw [hp] at k3
   obtain ⟨go, hgo⟩ : ∃ go, Hid (x.1.2.g = go) := ⟨_, Lib.hid rfl⟩
   have hsg : Hid (s.ms[k].2.g = go) := Lib.hid (by rw [← hxs]; exact hgo.out)
   rw [hgo.out] at c2 c3 c4 c5
   replace hxs := Lib.hid hxs
   replace hc := Lib.hid hc
   cases go with
   | none =>
    replace c2 : wr.cell? ⟨b, off + k * 11 + 2, none⟩ = some (.bool false) := c2
    go_upto_region 4 with fail
    obtain ⟨wd, hwd⟩ : ∃ wd, Hid (wr.drew = wd) := ⟨_, Lib.hid rfl⟩
    have hw0 : Below wr.heap.size wr wd := by rw [← hwd.out]; exact (Below.refl _ _).drew
    replace k3 := (hw0.cell (cell_lt k3)).trans k3
    replace i0 := (hw0.cell (cell_lt i0)).trans i0
    replace i1 := (hw0.cell (cell_lt i1)).trans i1
    replace i2 := (hw0.cell (cell_lt i2)).trans i2
    replace c2 := (hw0.cell (cell_lt c2)).trans c2
    replace c3 := (hw0.cell (cell_lt c3)).trans c3
    replace c4 := (hw0.cell (cell_lt c4)).trans c4
    replace c5 := (hw0.cell (cell_lt c5)).trans c5
    have hb0 : Below wd.heap.size wd wd := Below.refl _ _
    refine wp_region_D (D := fun T => Below wd.heap.size wd T) (by kernel_rfl) ?_
    rw [hwd.out]
    change wpAnyD _ _ _ _ _ 16 _ _ _
    apply tkD 0 hb0 rfl
    ·intro T hT
     have hT0 := (hT.cell (cell_lt k3)).trans k3
     go_simp
     try rfl
    try go_frame
    apply tkD 1 hb0 rfl
    ·intro T hT
     have hT0 := (hT.cell (cell_lt k3)).trans k3
     go_simp
     try rfl
    try go_frame
    apply tkD 2 hb0 rfl
    ·intro T hT
     have hT0 := (hT.cell (cell_lt k3)).trans k3
     go_simp
     try rfl
    try go_frame
    apply tkD 3 hb0 rfl
    ·intro T hT
     have hT0 := (hT.cell (cell_lt k3)).trans k3
     go_simp
     try rfl
    try go_frame
    apply tkD 4 hb0 rfl
    ·intro T hT
     have hT0 := (hT.cell (cell_lt k3)).trans k3
     go_simp
     try rfl
    try go_frame
    apply tkD 5 hb0 rfl
    ·intro T hT
     have hT0 := (hT.cell (cell_lt c2)).trans c2
     go_simp
     try rfl
    try go_frame
    apply tkD 6 hb0 rfl
    ·intro T hT
     go_simp
     try rfl
    try go_frame
    apply noD 7 hb0 rfl
    try go_frame
    apply noD 8 hb0 rfl
    try go_frame
    apply noD 9 hb0 rfl
    try go_frame
    apply noD 10 hb0 rfl
    try go_frame
    apply noD 11 hb0 rfl
    try go_frame
    apply noD 12 hb0 rfl
    try go_frame
    apply noD 13 hb0 rfl
    try go_frame
    apply noD 14 hb0 rfl
    try go_frame
    apply tkD 15 hb0 rfl
    ·intro T hT
     go_simp
     try rfl
    try go_frame
    refine wpAnyD_done (by kernel_rfl) ?_ _
    go_wp2_with fail
    go_roundw
    case rel => exact ⟨k + 1, by omega, by go_num, Lib.hid (fun j hj hjk => by
     rcases Nat.lt_or_ge j k with h | h
     ·exact hall.out j hj h
     ·obtain rfl : j = k := by omega
      rw [hsg.out]; exact rfl), Lib.hid (hbr.out.trans (hw0.mono hbr.out.size))⟩
    case measure => simp [intOf]; omega
   | some g =>
    replace c2 : wr.cell? ⟨b, off + k * 11 + 2, none⟩ = some (.bool true) := c2
    replace c3 : wr.cell? ⟨b, off + k * 11 + 3, none⟩ = some (.int .i64 g.id.b) := c3
    replace c4 : wr.cell? ⟨b, off + k * 11 + 3 + 1, none⟩ = some (.int .i64 g.id.s) := c4
    replace c5 : wr.cell? ⟨b, off + k * 11 + 3 + 2, none⟩ = some (.int .u64 g.id.u) := c5
    have hid := fun T => id_eql g.id i T
    obtain ⟨xb, hxb⟩ : ∃ xb, Hid (decide (g.id = i) = xb) := ⟨_, Lib.hid rfl⟩
    rw [hxb.out] at hid
    go_upto_region 4 with fail
    obtain ⟨wd, hwd⟩ : ∃ wd, Hid (wr.drew = wd) := ⟨_, Lib.hid rfl⟩
    have hw0 : Below wr.heap.size wr wd := by rw [← hwd.out]; exact (Below.refl _ _).drew
    replace k3 := (hw0.cell (cell_lt k3)).trans k3
    replace i0 := (hw0.cell (cell_lt i0)).trans i0
    replace i1 := (hw0.cell (cell_lt i1)).trans i1
    replace i2 := (hw0.cell (cell_lt i2)).trans i2
    replace c2 := (hw0.cell (cell_lt c2)).trans c2
    replace c3 := (hw0.cell (cell_lt c3)).trans c3
    replace c4 := (hw0.cell (cell_lt c4)).trans c4
    replace c5 := (hw0.cell (cell_lt c5)).trans c5
    have hb0 : Below wd.heap.size wd wd := Below.refl _ _
    refine wp_region_D (D := fun T => Below wd.heap.size wd T) (by kernel_rfl) ?_
    rw [hwd.out]
    change wpAnyD _ _ _ _ _ 16 _ _ _
    apply tkD 0 hb0 rfl
    ·intro T hT
     have hT0 := (hT.cell (cell_lt k3)).trans k3
     go_simp
     try rfl
    try go_frame
    apply tkD 1 hb0 rfl
    ·intro T hT
     have hT0 := (hT.cell (cell_lt k3)).trans k3
     go_simp
     try rfl
    try go_frame
    apply tkD 2 hb0 rfl
    ·intro T hT
     have hT0 := (hT.cell (cell_lt k3)).trans k3
     go_simp
     try rfl
    try go_frame
    apply tkD 3 hb0 rfl
    ·intro T hT
     have hT0 := (hT.cell (cell_lt k3)).trans k3
     go_simp
     try rfl
    try go_frame
    apply tkD 4 hb0 rfl
    ·intro T hT
     have hT0 := (hT.cell (cell_lt k3)).trans k3
     go_simp
     try rfl
    try go_frame
    apply tkD 5 hb0 rfl
    ·intro T hT
     have hT0 := (hT.cell (cell_lt c2)).trans c2
     go_simp
     try rfl
    try go_frame
    apply tkD 6 hb0 rfl
    ·intro T hT
     go_simp
     try rfl
    try go_frame
    apply tkD 7 hb0 rfl
    ·intro T hT
     have hT0 := (hT.cell (cell_lt k3)).trans k3
     go_simp
     try rfl
    try go_frame
    apply tkD 8 hb0 rfl
    ·intro T hT
     have hT0 := (hT.cell (cell_lt k3)).trans k3
     go_simp
     try rfl
    try go_frame
    apply tkD 9 hb0 rfl
    ·intro T hT
     have hT0 := (hT.cell (cell_lt k3)).trans k3
     go_simp
     try rfl
    try go_frame
    apply tkD 10 hb0 rfl
    ·intro T hT
     have hT0 := (hT.cell (cell_lt k3)).trans k3
     go_simp
     try rfl
    try go_frame
    apply tkD 11 hb0 rfl
    ·intro T hT
     have hT0 := (hT.cell (cell_lt k3)).trans k3
     go_simp
     try rfl
    try go_frame
    apply tkD 12 hb0 rfl
    ·intro T hT
     have hT0 := (hT.cell (cell_lt c3)).trans c3
     have hT1 := (hT.cell (cell_lt c4)).trans c4
     have hT2 := (hT.cell (cell_lt c5)).trans c5
     go_simp
     try rfl
    try go_frame
    apply tkD 13 hb0 rfl
    ·intro T hT
     have hT0 := (hT.cell (cell_lt i0)).trans i0
     have hT1 := (hT.cell (cell_lt i1)).trans i1
     have hT2 := (hT.cell (cell_lt i2)).trans i2
     go_simp
     try rfl
    try go_frame
    apply tkD 14 hb0 rfl
    ·intro T hT
     go_simp
     try rfl
    try go_frame
    apply tkD 15 hb0 rfl
    ·intro T hT
     go_simp
     try rfl
    try go_frame
    cases xb with
    | false =>
     refine wpAnyD_done (by kernel_rfl) ?_ _
     go_wp2_with fail
     go_roundw
     case rel => exact ⟨k + 1, by omega, by go_num, Lib.hid (fun j hj hjk => by
      rcases Nat.lt_or_ge j k with h | h
      ·exact hall.out j hj h
      ·obtain rfl : j = k := by omega
       rw [hsg.out]; exact hxb.out), Lib.hid (hbr.out.trans (hw0.mono hbr.out.size))⟩
     case measure => simp [intOf]; omega
    | true =>
     have hrk : Hid (r = k) := Lib.hid (by
      rw [← hr.out]
      unfold whoI
      exact firstI_at hlt (by rw [hsg.out]; exact hxb.out) (fun j hj => hall.out j (by omega) hj))
     refine wpAnyD_done (by kernel_rfl) ?_ _
     go_wp2_with fail
     go_ret
     exact ⟨ret_int hrk.out.symm, hBr.trans (hw0.mono hBr.size)⟩
  ·have hkn : k = s.ms.length := by omega
   have hrf : Hid (r = -1) := Lib.hid (by
    rw [← hr.out]
    unfold whoI
    refine firstI_none fun p hp => ?_
    obtain ⟨j, hj, e2⟩ := List.mem_iff_getElem.1 hp
    have := hall.out j hj (by omega)
    rw [e2] at this
    exact this)
   go_wp2_with fail
   go_ret
   exact ⟨ret_int hrf.out.symm, hBr⟩
end Go.Proofs.YtkolilbebkkpdaaDoor

namespace Go.Proofs.YtkolilbebkkpdaaDoor
open Go.RowKit Go.Maps Go.BigFrame
attribute [local go_sem] in_gr

theorem wpList_unguard {P : Program} {ops : Array Oper} {Q : Exit → Act → World → Prop} {a : Act} {w : World} {rest : List Oper} {o : Oper} (hw : Region.wanted o (yielded ops a.tmps) = true)
  (h : wpList P ops Q ({ o with guard := none } :: rest) a w) : wpList P ops Q (o :: rest) a w := by
 have h' := h
 unfold wpList at h' ⊢
 rw [if_pos (by rfl)] at h'
 rw [if_pos hw]
 exact h'
/-- The document's roll and an operation in variables. -/
structure RCtx (w : World) (bx bo : Nat) (a : RfV) (s : RS) (L : List ME) (vs : List VI) (o : OpI) (gp : Option Addr) (gc : Nat) : Prop where
 rf : RfAt w a s L vs
 box : RfBox w bx a s vs.length
 op : OpAt w bo o gp gc
theorem RCtx.below {w w' : World} {bx bo : Nat} {a : RfV} {s : RS} {L : List ME} {vs : List VI} {o : OpI} {gp : Option Addr} {gc : Nat} (h : RCtx w bx bo a s L vs o gp gc) (hb : Below w.heap.size w w') : RCtx w' bx bo a s L vs o gp gc :=
 ⟨h.rf.below hb, h.box.below hb, h.op.below hb (cell_lt h.op.cb)⟩
def remI (s : RS) (o : OpI) (m : Int) (ru : Bool) : Int :=
 if o.d ≠ 0 then (if s.inB o.d = false then 17 else if ru = false ∧ ofD o.d ≠ m then 14 else 0)
 else if s.memb o.m = none then 16 else if ru = false ∧ o.m ≠ m then 14 else 0
theorem remI_eq (s : RS) (o : OpI) (m : Int) : remI s o m (s.rules m) = s.askRemove o m := rfl
set_option maxRecDepth 100000 in
set_option maxHeartbeats 4000000 in
theorem remR_any (w : World) (a : RfV) (s : RS) (L : List ME) (vs : List VI) (o : OpI) (gp : Option Addr) (gc : Nat) (m : Int) (ru : Bool) (kk : Nat) (hR : RfAt w a s L vs) (hs : s.Ok kk) :
  Calls Tryd.prog 49 #[.agg (rfC a s vs.length), .agg (opC o gp gc), .int .i64 m, .bool ru] w fun e w' => e = .returned (.int .i64 (remI s o m ru)) ∧ Below w.heap.size w w' := by
 have hbx := Below.lit w (.cells (rfC a s vs.length) 60)
 have hRb := hR.below hbx
 have hBx := RfBox.made w a s vs.length
 obtain ⟨wb, hwb, hBx⟩ := nameW (p := fun W => RfBox W w.heap.size a s vs.length) hBx
 rw [hwb.out] at hbx hRb
 obtain ⟨bx, hbxn⟩ : ∃ bx, Hid (w.heap.size = bx) := ⟨_, Lib.hid rfl⟩
 rw [hbxn.out] at hBx
 have hbo := Below.lit wb (.cells (opC o gp gc) 42)
 have hOo := OpAt.made wb o gp gc
 obtain ⟨wo, hwo, hOo⟩ := nameW (p := fun W => OpAt W wb.heap.size o gp gc) hOo
 rw [hwo.out] at hbo
 obtain ⟨bo, hbon⟩ : ∃ bo, Hid (wb.heap.size = bo) := ⟨_, Lib.hid rfl⟩
 rw [hbon.out] at hOo
 have hC0 : RCtx wo bx bo a s L vs o gp gc := ⟨hRb.below hbo, hBx.below hbo, hOo⟩
 have hB0 := hbx.trans (hbo.mono hbx.size)
 obtain ⟨r, hr⟩ : ∃ r, Hid (remI s o m ru = r) := ⟨_, Lib.hid rfl⟩
 rw [hr.out]
 have zd_0 := hC0.op.cd
 have hfw := hs.few
 rw [List.length_append] at hfw
 go_enter Tryd.func49, Tryd.ntmps49
 go_upto_region 1 with (first | (rw [hwb.out]) | (rw [hwo.out]) | fail)
 rw [hbxn.out, hbon.out]
 by_cases hd : o.d = 0
 ·have t1 : (o.d != 0) = false := by rw [hd]; rfl
  have zm_0 := hC0.op.cm
  replace hd := Lib.hid hd
  go_wp2_with (first
   | (refine wpList_load_row rfl 60 _ rfl bx rfl 60 (rfC a s vs.length) (0, 0) _ hC0.box Tryd.underlying60 rfl (by kernel_rfl) ?_)
   | (refine wpList_load_row rfl 42 _ rfl bo rfl 42 (opC o gp gc) (0, 0) _ hC0.op Tryd.underlying42 rfl (by kernel_rfl) ?_)
   | (refine wpList_unguard (by rfl) ?_; refine wpList_load_row rfl 60 _ rfl bx rfl 60 (rfC a s vs.length) (0, 0) _ hC0.box Tryd.underlying60 rfl (by kernel_rfl) ?_)
   | (refine wpList_unguard (by rfl) ?_; refine wpList_load_row rfl 42 _ rfl bo rfl 42 (opC o gp gc) (0, 0) _ hC0.op Tryd.underlying42 rfl (by kernel_rfl) ?_)
   | fail)
  refine (MemR_any wo a s L vs o.m hC0.rf (by have := hs.fewM; omega)).mono ?_
  rintro e w1_ ⟨rfl, hb1_⟩
  have hC1_ := hC0.below hb1_
  have hB1_ := hB0.trans (hb1_.mono hB0.size)
  rcases memI_cases s o.m with ⟨h1, h2⟩ | ⟨k, mb, h1, _, h2⟩
  ·rw [h1]
   have hd2 := hd.out
   have hq : Hid (r = 16) := Lib.hid (by rw [← hr.out]; simp [remI, hd2, h2])
   clear hd2
   replace h2 := Lib.hid h2
   go_wp2_with fail
   go_ret
   exact ⟨ret_int hq.out.symm, hB1_⟩
  ·rw [h1]
   have hd2 := hd.out
   have t2 : decide ((k : Int) < 0) = false := decide_eq_false (by omega)
   have h2n : s.memb o.m ≠ none := by rw [h2]; simp
   have zm_2 := hC1_.op.cm
   cases ru with
   | true =>
    have hq : Hid (r = 0) := Lib.hid (by rw [← hr.out]; simp [remI, hd2, h2n])
    clear hd2
    replace h2 := Lib.hid h2
    clear h2n
    go_wp2_with fail
    go_ret
    exact ⟨ret_int hq.out.symm, hB1_⟩
   | false =>
    by_cases hm : o.m = m
    ·have t3 : (o.m != m) = false := by rw [hm]; exact bne_self_eq_false _
     have h2m : s.memb m ≠ none := hm ▸ h2n
     have hq : Hid (r = 0) := Lib.hid (by rw [← hr.out]; simp [remI, hd2, h2m, hm])
     clear hd2
     replace h2 := Lib.hid h2
     clear h2n
     replace hm := Lib.hid hm
     go_wp2_with fail
     go_ret
     exact ⟨ret_int hq.out.symm, hB1_⟩
    ·have t3 : (o.m != m) = true := bne_iff_ne.2 hm
     have hq : Hid (r = 14) := Lib.hid (by rw [← hr.out]; simp [remI, hd2, h2n, hm])
     clear hd2
     replace h2 := Lib.hid h2
     clear h2n
     replace hm := Lib.hid hm
     go_wp2_with fail
     go_ret
     exact ⟨ret_int hq.out.symm, hB1_⟩
 ·have t1 : (o.d != 0) = true := bne_iff_ne.2 hd
  have z1_3 := hC0.box.c1
  replace hd := Lib.hid hd
  go_wp2_with (first
   | (refine wpList_load_row rfl 60 _ rfl bx rfl 60 (rfC a s vs.length) (0, 0) _ hC0.box Tryd.underlying60 rfl (by kernel_rfl) ?_)
   | (refine wpList_load_row rfl 42 _ rfl bo rfl 42 (opC o gp gc) (0, 0) _ hC0.op Tryd.underlying42 rfl (by kernel_rfl) ?_)
   | (refine wpList_unguard (by rfl) ?_; refine wpList_load_row rfl 60 _ rfl bx rfl 60 (rfC a s vs.length) (0, 0) _ hC0.box Tryd.underlying60 rfl (by kernel_rfl) ?_)
   | (refine wpList_unguard (by rfl) ?_; refine wpList_load_row rfl 42 _ rfl bo rfl 42 (opC o gp gc) (0, 0) _ hC0.op Tryd.underlying42 rfl (by kernel_rfl) ?_)
   | fail)
  refine (HasL_any a.pi s.ins.length s.ins a.ci o.d _ hC0.rf.ins (by omega)).mono ?_
  rintro e _ ⟨rfl, rfl⟩
  have hin : decide (o.d ∈ s.ins) = s.inB o.d := rfl
  rw [hin]
  cases hx : s.inB o.d with
  | false =>
   have hd2 := hd.out
   have hq : Hid (r = 17) := Lib.hid (by rw [← hr.out]; simp [remI, hd2, hx])
   clear hd2 hin
   replace hx := Lib.hid hx
   go_wp2_with fail
   go_ret
   exact ⟨ret_int hq.out.symm, hB0⟩
  | true =>
   cases ru with
   | true =>
    have hd2 := hd.out
    have hq : Hid (r = 0) := Lib.hid (by rw [← hr.out]; simp [remI, hd2, hx])
    clear hd2 hin
    replace hx := Lib.hid hx
    go_wp2_with fail
    go_ret
    exact ⟨ret_int hq.out.symm, hB0⟩
   | false =>
    clear hin
    replace hx := Lib.hid hx
    go_wp2_with (first
     | (refine wpList_load_row rfl 60 _ rfl bx rfl 60 (rfC a s vs.length) (0, 0) _ hC0.box Tryd.underlying60 rfl (by kernel_rfl) ?_)
     | (refine wpList_load_row rfl 42 _ rfl bo rfl 42 (opC o gp gc) (0, 0) _ hC0.op Tryd.underlying42 rfl (by kernel_rfl) ?_)
     | (refine wpList_unguard (by rfl) ?_; refine wpList_load_row rfl 60 _ rfl bx rfl 60 (rfC a s vs.length) (0, 0) _ hC0.box Tryd.underlying60 rfl (by kernel_rfl) ?_)
     | (refine wpList_unguard (by rfl) ?_; refine wpList_load_row rfl 42 _ rfl bo rfl 42 (opC o gp gc) (0, 0) _ hC0.op Tryd.underlying42 rfl (by kernel_rfl) ?_)
     | fail)
    refine (OfR_any _ a.pc a.cc _ _ _ _ _ o.d hC0.rf.cards).mono ?_
    rintro e w5_ ⟨rfl, hb5_⟩
    have hC5_ := hC0.below hb5_
    have hB5_ := hB0.trans (hb5_.mono hB0.size)
    obtain ⟨od, hod⟩ : ∃ od, Hid (ofD o.d = od) := ⟨_, Lib.hid rfl⟩
    rw [hod.out]
    by_cases hm : od = m
    ·have t3 : (od != m) = false := by rw [hm]; exact bne_self_eq_false _
     have hd2 := hd.out
     have hx2 := hx.out
     have hm2 : ofD o.d = m := by rw [hod.out]; exact hm
     have hq : Hid (r = 0) := Lib.hid (by rw [← hr.out]; simp [remI, hd2, hx2, hm2])
     clear hd2 hx2 hm2
     replace hm := Lib.hid hm
     go_wp2_with fail
     go_ret
     exact ⟨ret_int hq.out.symm, hB5_⟩
    ·have t3 : (od != m) = true := bne_iff_ne.2 hm
     have hd2 := hd.out
     have hx2 := hx.out
     have hm2 : ofD o.d ≠ m := by rw [hod.out]; exact hm
     have hq : Hid (r = 14) := Lib.hid (by rw [← hr.out]; simp [remI, hd2, hx2, hm2])
     clear hd2 hx2 hm2
     replace hm := Lib.hid hm
     go_wp2_with fail
     go_ret
     exact ⟨ret_int hq.out.symm, hB5_⟩
end Go.Proofs.YtkolilbebkkpdaaDoor

namespace Go.Proofs.YtkolilbebkkpdaaDoor
open Go.RowKit Go.Maps Go.BigFrame
attribute [local go_sem] in_gr

/-- Where the member stands whose guard it is, and the number of the error. -/
def guI (s : RS) (o : OpI) : Int × Int := match s.ms.find? fun p => isId o.f p.2.g with
 | none => (-1, 25)
 | some p => if o.b ∈ gsO p.2.g then (whoI s o.f, 0) else (-1, 14)
theorem guI_cases {s : RS} {kk : Nat} (hs : s.Ok kk) (o : OpI) : (whoI s o.f = -1 ∧ guI s o = (-1, 25) ∧ s.guards o = (0, 25)) ∨
  ∃ (k : Nat) (n : Int) (r : Int) (g : Gd), whoI s o.f = k ∧ s.ms[k]? = some (n, ⟨r, some g⟩) ∧ g.id = o.f ∧ s.whose o.f = n ∧ s.memb n = some ⟨r, some g⟩ ∧ guI s o = (if o.b ∈ g.gs then ((k : Int), 0) else (-1, 14)) ∧ s.guards o = (if o.b ∈ g.gs then (n, 0) else (0, 14)) := by
 rcases whoI_cases s o.f with ⟨h1, h2⟩ | ⟨k, p, h1, h2, h3⟩
 ·left
  refine ⟨h1, ?_, ?_⟩
  ·unfold guI
   rw [List.find?_eq_none.2 fun p hp => by rw [h2 p hp]; simp]
  ·unfold RS.guards
   rw [RS.whose_none h2, if_pos rfl]
 ·right
  have hm := List.mem_of_getElem? h2
  obtain ⟨n, r, go⟩ := p
  cases go with
  | none => cases h3
  | some g =>
   have h3' : g.id = o.f := of_decide_eq_true h3
   have hw : s.whose o.f = n := RS.whose_of hs.ids hm h3
   have hmb : s.memb n = some ⟨r, some g⟩ := lk_of_mem hs.mn hm
   have hn := (hs.mem _ hm).1
   have hn : 1 ≤ n := hn
   refine ⟨k, n, r, g, h1, h2, h3', hw, hmb, ?_, ?_⟩
   ·unfold guI
    cases e : s.ms.find? fun p => isId o.f p.2.g with
    | none => exact absurd h3 (by have := List.find?_eq_none.1 e _ hm; exact this)
    | some q =>
     have hq1 := List.mem_of_find?_eq_some e
     have hq2 : isId o.f q.2.g = true := by have := List.find?_some e; exact this
     have hqn : q.1 = n := hs.ids o.f q hq1 _ hm hq2 h3
     have hq : q.2 = ⟨r, some g⟩ := by
      have := lk_of_mem (a := q.1) (b := q.2) hs.mn hq1
      rw [hqn] at this
      have h5 : lk s.ms n = some ⟨r, some g⟩ := hmb
      rw [h5] at this
      injection this with this
      exact this.symm
     show (if o.b ∈ gsO q.2.g then (whoI s o.f, 0) else (-1, 14)) = _
     rw [hq, h1]
     rfl
   ·unfold RS.guards
    rw [hw, if_neg (by omega), hmb]
    rfl
set_option maxRecDepth 100000 in
set_option maxHeartbeats 4000000 in
theorem guR_any (w : World) (a : RfV) (s : RS) (L : List ME) (vs : List VI) (o : OpI) (gp : Option Addr) (gc : Nat) (kk : Nat) (hR : RfAt w a s L vs) (hs : s.Ok kk) :
  Calls Tryd.prog 76 #[.agg (rfC a s vs.length), .agg (opC o gp gc)] w fun e w' => e = .returned (.tuple #[.int .i64 (guI s o).1, .int .i64 (guI s o).2]) ∧ Below w.heap.size w w' := by
 have hbx := Below.lit w (.cells (rfC a s vs.length) 60)
 have hRb := hR.below hbx
 have hBx := RfBox.made w a s vs.length
 obtain ⟨wb, hwb, hBx⟩ := nameW (p := fun W => RfBox W w.heap.size a s vs.length) hBx
 rw [hwb.out] at hbx hRb
 obtain ⟨bx, hbxn⟩ : ∃ bx, Hid (w.heap.size = bx) := ⟨_, Lib.hid rfl⟩
 rw [hbxn.out] at hBx
 have hbo := Below.lit wb (.cells (opC o gp gc) 42)
 have hOo := OpAt.made wb o gp gc
 obtain ⟨wo, hwo, hOo⟩ := nameW (p := fun W => OpAt W wb.heap.size o gp gc) hOo
 rw [hwo.out] at hbo
 obtain ⟨bo, hbon⟩ : ∃ bo, Hid (wb.heap.size = bo) := ⟨_, Lib.hid rfl⟩
 rw [hbon.out] at hOo
 have hC0 : RCtx wo bx bo a s L vs o gp gc := ⟨hRb.below hbo, hBx.below hbo, hOo⟩
 have hB0 := hbx.trans (hbo.mono hbx.size)
 obtain ⟨r1, hr1⟩ : ∃ r, Hid ((guI s o).1 = r) := ⟨_, Lib.hid rfl⟩
 obtain ⟨r2, hr2⟩ : ∃ r, Hid ((guI s o).2 = r) := ⟨_, Lib.hid rfl⟩
 rw [hr1.out, hr2.out]
 have zf0 := hC0.op.cfb
 have zf1 := hC0.op.cfs
 have zf2 := hC0.op.cfu
 go_enter Tryd.func76, Tryd.ntmps76
 go_upto_region 1 with (first | (rw [hwb.out]) | (rw [hwo.out]) | fail)
 rw [hbxn.out, hbon.out]
 go_wp2_with (first
  | (refine wpList_load_row rfl 60 _ rfl bx rfl 60 (rfC a s vs.length) (0, 0) _ hC0.box Tryd.underlying60 rfl (by kernel_rfl) ?_)
  | (refine wpList_load_row rfl 42 _ rfl bo rfl 42 (opC o gp gc) (0, 0) _ hC0.op Tryd.underlying42 rfl (by kernel_rfl) ?_)
  | (refine wpList_unguard (by rfl) ?_; refine wpList_load_row rfl 60 _ rfl bx rfl 60 (rfC a s vs.length) (0, 0) _ hC0.box Tryd.underlying60 rfl (by kernel_rfl) ?_)
  | (refine wpList_unguard (by rfl) ?_; refine wpList_load_row rfl 42 _ rfl bo rfl 42 (opC o gp gc) (0, 0) _ hC0.op Tryd.underlying42 rfl (by kernel_rfl) ?_)
  | fail)
 refine (whoR_any wo a s L vs o.f hC0.rf (by have := hs.fewM; omega)).mono ?_
 rintro e w1_ ⟨rfl, hb1_⟩
 have hC1_ := hC0.below hb1_
 have hB1_ := hB0.trans (hb1_.mono hB0.size)
 rcases guI_cases hs o with ⟨h1, h2, _⟩ | ⟨k, n, rl, g, h1, h2, _, _, _, h3, _⟩
 ·rw [h1]
  have e1 : Hid (r1 = -1) := Lib.hid (by rw [← hr1.out, h2])
  have e2 : Hid (r2 = 25) := Lib.hid (by rw [← hr2.out, h2])
  replace h2 := Lib.hid h2
  go_wp2_with fail
  go_ret2
  rw [e1.out, e2.out]
  exact ⟨rfl, hB1_⟩
 ·rw [h1]
  obtain ⟨hk, h2e⟩ := List.getElem?_eq_some_iff.1 h2
  obtain ⟨b, off, x, hxL, hxs, hp, _, _, hc⟩ := hC1_.rf.at_ hk
  have hU := hC1_.rf.gs x hxL
  rw [show x.1 = (n, ⟨rl, some g⟩) by rw [hxs, h2e]] at hU
  have c6 : w1_.cell? ⟨b, off + k * 11 + 6, none⟩ = some (.slice x.2.1 g.gs.length x.2.2) := by
   have : w1_.cell? ⟨b, off + k * 11 + 6, none⟩ = some (.slice x.2.1 (gsO x.1.2.g).length x.2.2) := hc 6 _ rfl
   rw [show x.1 = (n, ⟨rl, some g⟩) by rw [hxs, h2e]] at this
   exact this
  have hix1 : (0 : Int) ≤ (k : Int) := by omega
  have hix2 : (k : Int) < (s.ms.length : Int) := by omega
  have t2 : decide ((k : Int) < 0) = false := decide_eq_false (by omega)
  have k3 := hC1_.box.c3
  have zb := hC1_.op.cb
  rw [hp] at k3
  have hgl : g.gs.length ≤ 1000 := (hs.gd _ (List.mem_of_getElem? h2) g rfl).gl
  replace hxs := Lib.hid hxs
  replace hc := Lib.hid hc
  replace h2 := Lib.hid h2
  replace h2e := Lib.hid h2e
  go_upto_region 4 with fail
  obtain ⟨wd, hwd⟩ : ∃ wd, Hid (w1_.drew = wd) := ⟨_, Lib.hid rfl⟩
  have hw0 : Below w1_.heap.size w1_ wd := by rw [← hwd.out]; exact (Below.refl _ _).drew
  replace k3 := (hw0.cell (cell_lt k3)).trans k3
  replace c6 := (hw0.cell (cell_lt c6)).trans c6
  replace zb := (hw0.cell (cell_lt zb)).trans zb
  have hUd := hU.below hw0
  have hb0 : Below wd.heap.size wd wd := Below.refl _ _
  refine wp_region_D (D := fun T => Below wd.heap.size wd T) (by kernel_rfl) ?_
  rw [hwd.out]
  change wpAnyD _ _ _ _ _ 10 _ _ _
  apply tkD 0 hb0 rfl
  ·intro T hT
   have hT0 := (hT.cell (cell_lt k3)).trans k3
   go_simp
   try rfl
  try go_frame
  apply tkD 1 hb0 rfl
  ·intro T hT
   have hT0 := (hT.cell (cell_lt k3)).trans k3
   go_simp
   try rfl
  try go_frame
  apply tkD 2 hb0 rfl
  ·intro T hT
   have hT0 := (hT.cell (cell_lt k3)).trans k3
   go_simp
   try rfl
  try go_frame
  apply tkD 3 hb0 rfl
  ·intro T hT
   have hT0 := (hT.cell (cell_lt k3)).trans k3
   go_simp
   try rfl
  try go_frame
  apply tkD 4 hb0 rfl
  ·intro T hT
   have hT0 := (hT.cell (cell_lt k3)).trans k3
   go_simp
   try rfl
  try go_frame
  apply tkD 5 hb0 rfl
  ·intro T hT
   have hT0 := (hT.cell (cell_lt c6)).trans c6
   go_simp
   try rfl
  try go_frame
  apply tkD 6 hb0 rfl
  ·intro T hT
   have hT0 := (hT.cell (cell_lt zb)).trans zb
   go_simp
   try rfl
  try go_frame
  apply tkD 7 hb0 rfl
  ·intro T hT
   have hT0 := (hT.cell (cell_lt zb)).trans zb
   go_simp
   try rfl
  try go_frame
  refine oneD 8 (by kernel_rfl) rfl (by kernel_rfl) (fun K hK => ?_)
  go_simp
  refine (HasL_any x.2.1 g.gs.length g.gs x.2.2 o.b wd hUd (by omega)).mono ?_
  rintro e _ ⟨rfl, rfl⟩
  obtain ⟨xb, hxb⟩ : ∃ xb, Hid (decide (o.b ∈ g.gs) = xb) := ⟨_, Lib.hid rfl⟩
  rw [hxb.out]
  refine hK _ _ ⟨hb0, ?_⟩
  clear hK K
  try go_frame
  apply tkD 9 hb0 rfl
  ·intro T hT
   go_simp
   try rfl
  try go_frame
  refine wpAnyD_done (by kernel_rfl) ?_ _
  cases xb with
  | true =>
   have e1 : Hid (r1 = k) := Lib.hid (by rw [← hr1.out, h3, if_pos (of_decide_eq_true hxb.out)])
   have e2 : Hid (r2 = 0) := Lib.hid (by rw [← hr2.out, h3, if_pos (of_decide_eq_true hxb.out)])
   replace h3 := Lib.hid h3
   go_wp2_with fail
   go_ret2
   rw [e1.out, e2.out]
   exact ⟨rfl, hB1_.trans (hw0.mono hB1_.size)⟩
  | false =>
   have e1 : Hid (r1 = -1) := Lib.hid (by rw [← hr1.out, h3, if_neg (of_decide_eq_false hxb.out)])
   have e2 : Hid (r2 = 14) := Lib.hid (by rw [← hr2.out, h3, if_neg (of_decide_eq_false hxb.out)])
   replace h3 := Lib.hid h3
   go_wp2_with fail
   go_ret2
   rw [e1.out, e2.out]
   exact ⟨rfl, hB1_.trans (hw0.mono hB1_.size)⟩
end Go.Proofs.YtkolilbebkkpdaaDoor

