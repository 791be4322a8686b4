/-
  Maps, and lists, held against each other.
-/
import Derived.Test.YtkolilbebkkpdaaDoorRmG
import Derived.Test.YtkolilbebkkpdaaDoorRmF
namespace Go.Proofs.YtkolilbebkkpdaaDoor
open Go.RowKit Go.Maps Go.BigFrame

/-- Two sets, each of whose elements stands once. -/
def eqI (a b : List Int) : Bool := decide (a.length = b.length) && a.all fun d => decide (d ∈ b)
def eqV (a b : List ((Int × Int) × Int)) : Bool := decide (a.length = b.length) && a.all fun p => decide (lk b p.1 = some p.2)
def sameG : Option Gd → Option Gd → Bool
 | none, none => true
 | some g, some h => decide (g.id = h.id) && decide (g.gs = h.gs) && decide (g.n = h.n) && decide (g.t = h.t) && eqV g.vo h.vo && decide (g.ob = h.ob) && decide (g.la = h.la)
 | _, _ => false
def sameM (a b : Mb) : Bool := decide (a.r = b.r) && sameG a.g b.g
def sameL (a b : List (Int × Mb)) : Bool := decide (a.length = b.length) && a.all fun p => match lk b p.1 with | some m => sameM p.2 m | none => false
def RS.same (s t : RS) : Bool := eqI s.ins t.ins && eqI (s.ins ++ s.gone) (t.ins ++ t.gone) && decide (s.bk = t.bk) && sameL s.ms t.ms
theorem keys_setV' (l : List Int) : (setV l).map Prod.fst = l := by unfold setV; rw [List.map_map]; exact List.map_id' l
theorem eqI_false {a b : List Int} {d : Int} (hd : d ∈ a) (h : d ∉ b) : eqI a b = false := by
 unfold eqI
 rw [Bool.and_eq_false_iff]
 refine .inr ?_
 rw [List.all_eq_false]
 exact ⟨d, hd, by simpa using h⟩
theorem eqI_true {a b : List Int} (hl : a.length = b.length) (h : ∀ d ∈ a, d ∈ b) : eqI a b = true := by
 unfold eqI
 rw [Bool.and_eq_true, decide_eq_true_eq, List.all_eq_true]
 exact ⟨hl, fun d hd => decide_eq_true (h d hd)⟩
set_option maxRecDepth 100000 in
set_option maxHeartbeats 4000000 in
theorem EqualB_any (w : World) (b1 b2 : Nat) (a b : List Int) (h1 : MapV KI w b1 (setV a)) (h2 : MapV KI w b2 (setV b)) :
  Calls Tryd.prog 69 #[.map (some b1), .map (some b2)] w fun e w' => e = .returned (.bool (eqI a b)) ∧ Below w.heap.size w w' := by
 have hl1 := h1.len (K := KI) Tryd.underlying78
 have hl2 := h2.len (K := KI) Tryd.underlying78
 have e1 : (setV a).length = a.length := by unfold setV; rw [List.length_map]
 have e2 : (setV b).length = b.length := by unfold setV; rw [List.length_map]
 rw [e1] at hl1
 rw [e2] at hl2
 by_cases hlen : a.length = b.length
 ·go_enter Tryd.func69, Tryd.ntmps69
  rw [hlen] at hl1
  replace hlen := Lib.hid hlen
  go_wp2_with (first
   | (at_range; refine wp_rng (K := KI) _ rfl _ 78 rfl 4 Tryd.underlying78 b1 (setV a) rfl h1 ?_; intro w1 hrg1 hb1)
   | fail)
  go_frame
  obtain ⟨rg, hrgn⟩ : ∃ rg, Hid (w.heap.size = rg) := ⟨_, Lib.hid rfl⟩
  rw [hrgn.out] at hrg1 ⊢
  go_loopw [5] (fun _ wr => ∃ pre, Rng KI wr b1 rg (setV a) pre ∧ (∀ d ∈ pre, d ∈ b) ∧ Below w.heap.size w wr) (fun _ wr => wr.rangeLeft b1 rg)
  case atStart => exact ⟨[], hrg1, fun _ h => (by cases h), hb1⟩
  case round =>
   obtain ⟨pre, hrg, hpre, hb⟩ := hrel
   replace hpre := Lib.hid hpre
   go_wp2_with (first
    | (at_next; refine wp_nxt (K := KI) _ rfl _ rfl b1 rg (setV a) pre rfl hrg ?_ ?_)
    | fail)
   ·intro hperm
    rw [keys_setV'] at hperm
    have hR : Hid (eqI a b = true) := Lib.hid (eqI_true hlen.out fun d hd => hpre.out d (hperm.mem_iff.2 hd))
    go_wp2_with fail
    go_ret
    rw [hR.out]
    exact ⟨rfl, hb⟩
   ·intro n v w2 hmem hnp hok hrg2 hlt hgr hen
    have hna : n ∈ a := by
     have := List.mem_map_of_mem (f := Prod.fst) hmem
     rwa [keys_setV'] at this
    have hv : v = .bool true := by
     unfold setV at hmem
     obtain ⟨x, hx, e⟩ := List.mem_map.1 hmem
     injection e with _ e
     exact e.symm
    subst hv
    have hb2 : Below w.heap.size w w2 := hb.grown hgr hb.size fun k e => by injection e with e; have := hrgn.out; omega
    have hlk := (h2.below hb2).look_ok (K := KI) Tryd.underlying78 (zero_bool w2) hok
    by_cases hnb : n ∈ b
    ·have hlb : lk (setV b) n = some (.bool true) := lk_of_mem (h2.nd) (List.mem_map.2 ⟨n, hnb, rfl⟩)
     unfold lkv at hlk
     rw [hlb] at hlk
     replace hlk : (Instr.lookup 78 (.map (some b2)) (KI.val n) true).run Tryd.prog w2 = .ok (.tuple #[.bool true, .bool true]) w2 := hlk
     have hpre2 : Hid (∀ d ∈ pre ++ [n], d ∈ b) := Lib.hid (fun d hd => by
      rcases List.mem_append.1 hd with hd | hd
      ·exact hpre.out d hd
      ·rw [List.mem_singleton] at hd; rw [hd]; exact hnb)
     clear hlb
     go_wp2_with fail
     exact ⟨⟨pre ++ [n], hrg2, hpre2.out, hb2⟩, hlt⟩
    ·have hlb : lk (setV b) n = none := lk_none.2 fun p hp e => by
      have := List.mem_map_of_mem (f := Prod.fst) hp
      rw [keys_setV', e] at this
      exact hnb this
     unfold lkv at hlk
     rw [hlb] at hlk
     replace hlk : (Instr.lookup 78 (.map (some b2)) (KI.val n) true).run Tryd.prog w2 = .ok (.tuple #[.bool false, .bool false]) w2 := hlk
     have hR : Hid (eqI a b = false) := Lib.hid (eqI_false hna hnb)
     clear hlb
     go_wp2_with fail
     go_ret
     rw [hR.out]
     exact ⟨rfl, hb2⟩
 ·have hlb : ((a.length : Int) != (b.length : Int)) = true := by rw [bne_iff_ne]; omega
  have hR : Hid (eqI a b = false) := Lib.hid (by unfold eqI; rw [decide_eq_false hlen]; rfl)
  replace hlen := Lib.hid hlen
  go_enter Tryd.func69, Tryd.ntmps69
  go_wp2_with fail
  go_ret
  rw [hR.out]
  exact ⟨rfl, Below.refl _ _⟩
theorem eqV_false {a b : List ((Int × Int) × Int)} {p : (Int × Int) × Int} (hd : p ∈ a) (h : lk b p.1 ≠ some p.2) : eqV a b = false := by
 unfold eqV
 rw [Bool.and_eq_false_iff]
 refine .inr ?_
 rw [List.all_eq_false]
 exact ⟨p, hd, by simpa using h⟩
theorem eqV_true {a b : List ((Int × Int) × Int)} (hl : a.length = b.length) (h : ∀ p ∈ a, lk b p.1 = some p.2) : eqV a b = true := by
 unfold eqV
 rw [Bool.and_eq_true, decide_eq_true_eq, List.all_eq_true]
 exact ⟨hl, fun d hd => decide_eq_true (h d hd)⟩
set_option maxRecDepth 100000 in
set_option maxHeartbeats 4000000 in
theorem EqualV_any (w : World) (b1 b2 : Nat) (a b : List ((Int × Int) × Int)) (h1 : MapV KV w b1 (voV a)) (h2 : MapV KV w b2 (voV b)) :
  Calls Tryd.prog 82 #[.map (some b1), .map (some b2)] w fun e w' => e = .returned (.bool (eqV a b)) ∧ Below w.heap.size w w' := by
 have hl1 := h1.len (K := KV) Tryd.underlying88
 have hl2 := h2.len (K := KV) Tryd.underlying88
 have e1 : (voV a).length = a.length := by unfold voV; rw [List.length_map]
 have e2 : (voV b).length = b.length := by unfold voV; rw [List.length_map]
 have hnda : (a.map Prod.fst).Nodup := by rw [← keys_voV]; exact h1.nd
 rw [e1] at hl1
 rw [e2] at hl2
 by_cases hlen : a.length = b.length
 ·go_enter Tryd.func82, Tryd.ntmps82
  rw [hlen] at hl1
  replace hlen := Lib.hid hlen
  go_wp2_with (first
   | (at_range; refine wp_rng (K := KV) _ rfl _ 88 rfl 3 Tryd.underlying88 b1 (voV a) rfl h1 ?_; intro w1 hrg1 hb1)
   | fail)
  go_frame
  obtain ⟨rg, hrgn⟩ : ∃ rg, Hid (w.heap.size = rg) := ⟨_, Lib.hid rfl⟩
  rw [hrgn.out] at hrg1 ⊢
  go_loopw [5] (fun _ wr => ∃ pre, Rng KV wr b1 rg (voV a) pre ∧ Hid (∀ k ∈ pre, ∀ t, (k, t) ∈ a → lk b k = some t) ∧ Hid (Below w.heap.size w wr)) (fun _ wr => wr.rangeLeft b1 rg)
  case atStart => exact ⟨[], hrg1, Lib.hid (fun _ h => (by cases h)), Lib.hid hb1⟩
  case round =>
   obtain ⟨pre, hrg, hpre, hb⟩ := hrel
   go_wp2_with (first
    | (at_next; refine wp_nxt (K := KV) _ rfl _ rfl b1 rg (voV a) pre rfl hrg ?_ ?_)
    | fail)
   ·intro hperm
    rw [keys_voV] at hperm
    have hR : Hid (eqV a b = true) := Lib.hid (eqV_true hlen.out fun p hp => hpre.out p.1 (hperm.mem_iff.2 (List.mem_map_of_mem hp)) p.2 hp)
    go_wp2_with fail
    go_ret
    rw [hR.out]
    exact ⟨rfl, hb.out⟩
   ·intro k1 k2 v w2 hmem hnp hok hrg2 hlt hgr hen
    obtain ⟨t, hta, rfl⟩ := mem_voV hmem
    have hb2 : Below w.heap.size w w2 := hb.out.grown hgr hb.out.size fun k e => by injection e with e; have := hrgn.out; omega
    have hbl := Below.lit w2 (.cells #[.int .i64 k1, .int .i64 k2] 93)
    obtain ⟨v0, v1⟩ := cells2 w2 93 (.int .i64 k1) (.int .i64 k2)
    obtain ⟨w3, hw3, v0, v1⟩ := nameW (p := fun W => W.cell? ⟨w2.heap.size, 0, none⟩ = some (.int .i64 k1) ∧ W.cell? ⟨w2.heap.size, 1, none⟩ = some (.int .i64 k2)) ⟨v0, v1⟩
    rw [hw3.out] at hbl
    have hb3 := hb2.trans (hbl.mono hb2.size)
    have hlk := (h2.below hb3).look_ok (K := KV) Tryd.underlying88 (zero_int w3) hok
    unfold lkv at hlk
    rw [lk_voV] at hlk
    replace hen : (Instr.entry (.pointer (some ⟨rg, 0, none⟩))).run Tryd.prog w2 = .ok (.tuple #[.agg #[.int .i64 k1, .int .i64 k2], .int .i64 t]) w2 := hen
    replace hmem := Lib.hid hmem
    replace hta := Lib.hid hta
    replace hb2 := Lib.hid hb2
    cases hu : lk b (k1, k2) with
    | none =>
     rw [hu] at hlk
     replace hlk : (Instr.lookup 88 (.map (some b2)) (.agg #[.int .i64 k1, .int .i64 k2]) true).run Tryd.prog w3 = .ok (.tuple #[.int .i64 0, .bool false]) w3 := hlk
     have hR : Hid (eqV a b = false) := Lib.hid (eqV_false hta.out (by rw [hu]; simp))
     replace hu := Lib.hid hu
     go_wp2_with (first | (rw [hw3.out]) | fail)
     go_ret
     rw [hR.out]
     exact ⟨rfl, hb3⟩
    | some u =>
     rw [hu] at hlk
     replace hlk : (Instr.lookup 88 (.map (some b2)) (.agg #[.int .i64 k1, .int .i64 k2]) true).run Tryd.prog w3 = .ok (.tuple #[.int .i64 u, .bool true]) w3 := hlk
     by_cases htu : t = u
     ·subst htu
      have hpre2 : Hid (∀ k ∈ pre ++ [(k1, k2)], ∀ t', (k, t') ∈ a → lk b k = some t') := Lib.hid (fun k hk t' ht' => by
       rcases List.mem_append.1 hk with hk | hk
       ·exact hpre.out k hk t' ht'
       ·rw [List.mem_singleton] at hk
        subst hk
        have h1 := lk_of_mem hnda hta.out
        rw [lk_of_mem hnda ht'] at h1
        rw [hu]; exact h1.symm)
      replace hu := Lib.hid hu
      have hrg3 := hrg2.below hbl
      go_wp2_with (first | (rw [hw3.out]) | fail)
      go_roundw
      case rel => exact ⟨pre ++ [(k1, k2)], hrg3.1, hpre2, Lib.hid hb3⟩
      case measure => rw [hrg3.2]; exact hlt
     ·have htb : (t != u) = true := bne_iff_ne.2 htu
      have hR : Hid (eqV a b = false) := Lib.hid (eqV_false hta.out (by rw [hu]; intro e; injection e with e; exact htu e.symm))
      replace hu := Lib.hid hu
      replace htu := Lib.hid htu
      go_wp2_with (first | (rw [hw3.out]) | fail)
      go_ret
      rw [hR.out]
      exact ⟨rfl, hb3⟩
 ·have hlb : ((a.length : Int) != (b.length : Int)) = true := by rw [bne_iff_ne]; omega
  have hR : Hid (eqV a b = false) := Lib.hid (by unfold eqV; rw [decide_eq_false hlen]; rfl)
  replace hlen := Lib.hid hlen
  go_enter Tryd.func82, Tryd.ntmps82
  go_wp2_with fail
  go_ret
  rw [hR.out]
  exact ⟨rfl, Below.refl _ _⟩
set_option maxRecDepth 100000 in
theorem SliceEq_any (p q : Option Addr) (n m : Nat) (xs ys : List Int) (c d : Nat) (w : World) (hX : UI w p n xs) (hY : UI w q m ys) (hn : n ≤ 1000000) (hm : m ≤ 1000000) :
  Calls Tryd.prog 81 #[.slice p n c, .slice q m d] w fun e w' => e = .returned (.bool (decide (xs = ys))) ∧ Below w.heap.size w w' := by
 have hlx := Lib.hid hX.len
 have hly := Lib.hid hY.len
 obtain ⟨r, hr⟩ : ∃ r, Hid (decide (xs = ys) = r) := ⟨_, Lib.hid rfl⟩
 rw [hr.out]
 by_cases hnm : n = m
 ·subst hnm
  have hne : ((n : Int) != n) = false := bne_self_eq_false _
  go_enter Tryd.func81, Tryd.ntmps81
  go_wp2
  go_loopw [13] (fun i wr => ∃ k : Nat, k ≤ n ∧ i = .int .i64 k ∧ Hid (∀ j, j < k → nth xs j = nth ys j) ∧ Below w.heap.size w wr)
   (fun i _ => n - (intOf i).toNat)
  case atStart => exact ⟨0, Nat.zero_le _, rfl, Lib.hid (fun j hj => absurd hj (by omega)), Below.refl _ _⟩
  case round =>
   obtain ⟨k, hk, rfl, hall, hb⟩ := hrel
   by_cases hlt : k < n
   ·obtain ⟨b, off, rfl, _, hc1, _⟩ := (hX.below hb).look hlt
    obtain ⟨b', off', rfl, _, hc2, _⟩ := (hY.below hb).look hlt
    have hix1 : (0 : Int) ≤ (k : Int) := by omega
    have hix2 : (k : Int) < (n : Int) := by omega
    obtain ⟨x, hx⟩ : ∃ x, Hid (nth xs k = x) := ⟨_, Lib.hid rfl⟩
    obtain ⟨y, hy⟩ : ∃ y, Hid (nth ys k = y) := ⟨_, Lib.hid rfl⟩
    rw [hx.out] at hc1
    rw [hy.out] at hc2
    by_cases hxy : x = y
    ·subst hxy
     have t1 : (x != x) = false := bne_self_eq_false _
     go_wp2_with fail
     refine wp_region_still_lit (by kernel_rfl) (by kernel_rfl) ?_
     repeat still_step
     refine wpStill_nil ?_
     change Exit.then _ _ _ _ wr.drew
     clear hix1 hix2
     go_wp2
     go_roundw
     case rel => exact ⟨k + 1, by omega, by go_num, Lib.hid (fun j hj => by
      rcases Nat.lt_or_ge j k with h | h
      ·exact hall.out j h
      ·obtain rfl : j = k := by omega
       rw [hx.out, hy.out]), hb.drew⟩
     case measure => simp [intOf]; omega
    ·have t1 : (x != y) = true := by simpa using hxy
     have hrf : Hid (r = false) := Lib.hid (by
      rw [← hr.out]
      refine decide_eq_false fun e => hxy ?_
      rw [← hx.out, ← hy.out, e])
     replace hxy := Lib.hid hxy
     go_wp2_with fail
     refine wp_region_still_lit (by kernel_rfl) (by kernel_rfl) ?_
     repeat still_step
     refine wpStill_nil ?_
     change Exit.then _ _ _ _ wr.drew
     clear hix1 hix2
     go_wp2
     go_ret
     exact ⟨ret_bool (b := r) hrf.out.symm, hb.drew⟩
   ·have hkn : k = n := by omega
    have hrt : Hid (r = true) := Lib.hid (by
     rw [← hr.out]
     exact decide_eq_true (nth_ext (hlx.out.trans hly.out.symm) fun i hi => hall.out i (by have := hlx.out; omega)))
    go_wp2
    go_ret
    exact ⟨ret_bool (b := r) hrt.out.symm, hb⟩
 ·have hne : ((n : Int) != (m : Int)) = true := by simpa using fun h => hnm (by omega)
  have hrf : Hid (r = false) := Lib.hid (by
   rw [← hr.out]
   refine decide_eq_false fun e => hnm ?_
   rw [← hlx.out, ← hly.out, e])
  replace hnm := Lib.hid hnm
  go_enter Tryd.func81, Tryd.ntmps81
  go_wp2
  go_ret
  exact ⟨ret_bool (b := r) hrf.out.symm, Below.refl _ _⟩
end Go.Proofs.YtkolilbebkkpdaaDoor

