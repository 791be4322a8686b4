/-
  The walk of the statement that an operation's element, and a set's sketch, are the document's.
-/
import Derived.Test.YtelnhpcehmdffaaGh
namespace Go.Proofs.Ytelnhpcehmdffaa
open Go.RowKit
attribute [local go_sem] T_V

/-- A name in a variable of one's own. -/
structure IdAt (w : World) (b : Nat) (x y z : Int) : Prop where
  c0 : w.cell? ⟨b, 0, none⟩ = some (.int .i64 x)
  c1 : w.cell? ⟨b, 1, none⟩ = some (.int .i64 y)
  c2 : w.cell? ⟨b, 2, none⟩ = some (.int .u64 z)
theorem IdAt.below {w w' : World} {b : Nat} {x y z : Int} (h : IdAt w b x y z) (hb : Below w.heap.size w w') : IdAt w' b x y z :=
  ⟨(World.cell?_of_block (hb.block b (cell_lt h.c0))).trans h.c0, (World.cell?_of_block (hb.block b (cell_lt h.c1))).trans h.c1, (World.cell?_of_block (hb.block b (cell_lt h.c2))).trans h.c2⟩
theorem id_new (W : World) (x y z : Int) : IdAt (W.alloc (.cells #[.int .i64 x, .int .i64 y, .int .u64 z] 44)) W.heap.size x y z ∧ Below W.heap.size W (W.alloc (.cells #[.int .i64 x, .int .i64 y, .int .u64 z] 44)) :=
  have h0 := Arr.new W 44 [.int .i64 x, .int .i64 y, .int .u64 z]
  ⟨⟨h0.cell (i := 0) (by simp), h0.cell (i := 1) (by simp), h0.cell (i := 2) (by simp)⟩, Below.lit W _⟩
theorem keep5 {wl W : World} {a b c d e : Addr} {v1 v2 v3 v4 v5 : Value} (h : Below wl.heap.size wl W) (h1 : wl.cell? a = some v1) (h2 : wl.cell? b = some v2) (h3 : wl.cell? c = some v3) (h4 : wl.cell? d = some v4) (h5 : wl.cell? e = some v5) : (W.cell? a = some v1 ∧ W.cell? b = some v2 ∧ W.cell? c = some v3 ∧ W.cell? d = some v4 ∧ W.cell? e = some v5) ∧ Below wl.heap.size wl W :=
  ⟨⟨(h.cell (cell_lt h1)).trans h1, (h.cell (cell_lt h2)).trans h2, (h.cell (cell_lt h3)).trans h3, (h.cell (cell_lt h4)).trans h4, (h.cell (cell_lt h5)).trans h5⟩, h⟩
theorem ValuesG {p : Option Addr} {n : Nat} {L : List F} (c : Nat) {w0 w : World} (m : Nat) {z : Int} (hz : z = m) (hb : Below w0.heap.size w0 w) (hX : U w0 p n (L.map V)) (hn : n ≤ 1000000) (hm : m < 1000) :
    Calls Try.prog 21 #[.slice p n c, .int .i64 z] w fun e w' => (∃ q d, e = .returned (.slice q m d) ∧ U w' q m ((valsL L m).map V)) ∧ Below w0.heap.size w0 w' := by
  subst hz
  refine (Values_any p n _ c m w (hX.below hb) hn hm).mono fun _ _ ⟨v, he, ho, hb'⟩ => ?_
  rw [map_TV] at ho
  obtain ⟨q, d, rfl, _, hU⟩ := ho.u
  exact ⟨⟨q, d, he, hU⟩, hb.trans (hb'.mono hb.size)⟩
theorem SameG {p q : Option Addr} {n m : Nat} {xs ys : List Int} (c d : Nat) {w0 w : World} (hb : Below w0.heap.size w0 w) (hX : U w0 p n xs) (hY : U w q m ys) (he : xs = ys) (hn : n ≤ 1000000) :
    Calls Try.prog 17 #[.slice p n c, .slice q m d] w fun e w' => e = .returned (.bool true) ∧ Below w0.heap.size w0 w' :=
  (Same_s c d (hX.below hb) hY he hn).mono fun _ _ ⟨h, h2⟩ => ⟨h, hb.trans (h2.mono hb.size)⟩
theorem rElemG (x y z : Int) {w0 w : World} (hb : Below w0.heap.size w0 w) (hz0 : 0 ≤ z) (hz1 : z < 18446744073709551616) :
    Calls Try.prog 25 #[.agg #[.int .i64 x, .int .i64 y, .int .u64 z]] w fun e w' => e = .returned (.int .u64 (elemE x y z)) ∧ Below w0.heap.size w0 w' :=
  (rElem_any x y z w hz0 hz1).mono fun _ _ ⟨h, h2⟩ => ⟨h, hb.trans (h2.mono hb.size)⟩
theorem livesG {w0 w : World} (hb : Below w0.heap.size w0 w) : Calls Try.prog 18 #[] w fun e w' => e = .returned (.bool true) ∧ Below w0.heap.size w0 w' :=
  (lives10 w).mono fun _ _ ⟨h, h2⟩ => ⟨h, hb.trans (h2.mono hb.size)⟩
set_option maxRecDepth 100000 in
set_option maxHeartbeats 8000000 in
theorem of_walk (x y z : Int) (pl : Option Addr) (nl : Nat) (xl : List Int) (cl : Nat) (points : Int) (w : World) (z0 : 0 ≤ z) (z1 : z < 18446744073709551616) (hL : U w pl nl xl) (_ : nl ≤ cl) (hnL : nl ≤ 9223372036854775807) (_ : pl = none → cl = 0) (points0 : -9223372036854775808 ≤ points) (points1 : points ≤ 9223372036854775807) :
    Calls Try.prog 9 #[.agg #[.int .i64 x, .int .i64 y, .int .u64 z], .slice pl nl cl, .int .i64 points] w fun e w' => e = .returned (.bool true) ∧ Below w.heap.size w w' := by
  obtain ⟨S, eS, oS, lS⟩ := set_facts xl
  obtain ⟨n, en, hn21⟩ := around_nat points 21 (by omega)
  obtain ⟨bi, hbi⟩ := id_new w x y z
  go_enter Try.func9, Try.ntmps9
  go_upto_region 1 with fail
  obtain ⟨wi, eb⟩ : ∃ W, Hid (w.alloc (.cells #[.int .i64 x, .int .i64 y, .int .u64 z] 44) = W) := ⟨_, Lib.hid rfl⟩
  rw [eb.out] at bi hbi ⊢
  clear eb
  replace hL := hL.below hbi
  have hb := hbi
  clear hbi
  go_wp2_with fail
  refine (Set_s hL hnL).mono ?_
  rintro e w1 ⟨⟨p1, c1, rfl, h1, hc1, hp1, _⟩, hb1⟩
  clear hL
  replace bi := bi.below hb1
  replace hb := hb.trans (hb1.mono hb.size)
  clear hb1
  rw [eS.out] at h1 ⊢
  go_wp2_with fail
  refine (Around_any points 21 _ points0 points1 (by omega) (by omega)).mono ?_
  rintro e _ ⟨rfl, rfl⟩
  rw [show around points 21 = n from en.out]
  go_wp2_with fail
  refine (Of_s _ n rfl h1 (by omega) (by omega)).mono ?_
  rintro e w3 ⟨⟨q3, d3, rfl, k3, hd3, hq3⟩, hb3⟩
  replace bi := bi.below hb3
  replace h1 := h1.below hb3
  replace hb := hb.trans (hb3.mono hb.size)
  clear hb3
  obtain ⟨bx, hbx⟩ := box_new w3 S.length (.slice q3 n d3)
  go_upto_region 4 with fail
  obtain ⟨wb1, eb⟩ : ∃ W, Hid (w3.alloc (.cells #[.int .i64 S.length, .slice q3 n d3] 30) = W) := ⟨_, Lib.hid rfl⟩
  rw [eb.out] at bx hbx ⊢
  clear eb
  have b1 := bx
  clear bx
  replace bi := bi.below hbx
  replace h1 := h1.below hbx
  replace k3 := k3.below hbx
  replace hb := hb.trans (hbx.mono hb.size)
  clear hbx
  have y0 := bi.c0
  have y1 := bi.c1
  have y2 := bi.c2
  go_wp2_with fail
  refine (Elem_any x y z _ z0 z1).mono ?_
  rintro e w4 ⟨rfl, hb4⟩
  replace bi := bi.below hb4
  replace h1 := h1.below hb4
  replace k3 := k3.below hb4
  replace b1 := b1.below hb4
  replace hb := hb.trans (hb4.mono hb.size)
  clear hb4
  clear y0 y1 y2
  have y0 := bi.c0
  have y1 := bi.c1
  have y2 := bi.c2
  have hbe := elemE_bd x y z
  obtain ⟨E, hE⟩ : ∃ E, Hid (elemE x y z = E) := ⟨_, Lib.hid rfl⟩
  rw [hE.out] at hbe ⊢
  have te : (E == E) = true := beq_self_eq_true _
  have ts : ((S.length : Int) == S.length) = true := beq_self_eq_true _
  have t1 : decide (1 ≤ E) = true := decide_eq_true hbe.1
  have t2 : decide (E ≤ 1152921504606846976) = true := decide_eq_true hbe.2
  have hbd : Below w4.heap.size w4 w4.drew := (Below.refl _ _).drew
  have xb10 := b1.c0
  have xb11 := b1.c1
  go_wp2_with fail
  go_region_held3 (fun W => (W.cell? ⟨w3.heap.size, 0, none⟩ = some (.int .i64 S.length) ∧ W.cell? ⟨w3.heap.size, 1, none⟩ = some (.slice q3 n d3) ∧ W.cell? ⟨w.heap.size, 0, none⟩ = some (.int .i64 x) ∧ W.cell? ⟨w.heap.size, 1, none⟩ = some (.int .i64 y) ∧ W.cell? ⟨w.heap.size, 2, none⟩ = some (.int .u64 z)) ∧ Below w4.heap.size w4 W) (exact keep5 (by assumption) xb10 xb11 y0 y1 y2) (first
    | (go_simp; go_at_call 21; (with_reducible refine (ValuesG c1 n rfl (by assumption) h1 (by omega) (by omega)).mono ?_); rintro e w9 ⟨⟨q9, d9, rfl, k9⟩, hb9⟩)
    | (go_simp; go_at_call 17; (with_reducible refine (SameG d3 d9 (by assumption) k3 k9 rfl (by omega)).mono ?_); rintro e w10 ⟨rfl, hb10⟩)
    | (go_simp; go_at_call 25; (with_reducible refine (rElemG x y z (by assumption) z0 z1).mono ?_); rintro e w11 ⟨rfl, hb11⟩; rw [hE.out])
    | (go_simp; go_at_call 18; (with_reducible refine (livesG (by assumption)).mono ?_); rintro e w12 ⟨rfl, hb12⟩)
    | fail)
  go_wp2
  go_ret
  exact ⟨rfl, hb.trans (hb12.mono hb.size)⟩
end Go.Proofs.Ytelnhpcehmdffaa
