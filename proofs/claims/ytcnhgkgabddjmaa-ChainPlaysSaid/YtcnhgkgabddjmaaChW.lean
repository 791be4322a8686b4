/-
  The document's chain: secrets, a step, Next, Shut.
-/
import Derived.Test.YtcnhgkgabddjmaaChQ
import Derived.Laws.ResultCell
namespace Go.Proofs.Ytcnhgkgabddjmaa
open Go.RowKit Go.Maps

theorem results_cell1 {fn : Func} {p : Tmp} {ty : TypeId} (h : fn.results = #[.cell p ty]) (tmps : Array Value) (P : Program) (w : World) :
    (results fn tmps).run P w = ((asAddr (tmps.getD p undef)).run P w).andThen fun a w₁ => (loadVar ty a).run P w₁ := by
  simp only [results, h]
  simp [Sem.run_bind, Result.andThen]
theorem results_cell_tmp2 {fn : Func} {p u u2 : Tmp} {ty : TypeId} (h : fn.results = #[.cell p ty, .tmp u, .tmp u2]) (tmps : Array Value) (P : Program) (w : World) :
    (results fn tmps).run P w = ((asAddr (tmps.getD p undef)).run P w).andThen fun a w₁ => ((loadVar ty a).run P w₁).andThen fun v w₂ => .ok (.tuple #[v, tmps.getD u undef, tmps.getD u2 undef]) w₂ := by
  simp only [results, h]
  simp [Sem.run_bind, Result.andThen]
/-- Block z is the document's chain. -/
def C4 (w : World) (z : Nat) (a b c d : Value) : Prop := w.heap[z]? = some (.cells #[a, b, c, d] 46 (0, 0))
theorem C4.cells {w : World} {z : Nat} {a b c d : Value} (h : C4 w z a b c d) : w.cell? ⟨z, 0, none⟩ = some a ∧ w.cell? ⟨z, 1, none⟩ = some b ∧ w.cell? ⟨z, 2, none⟩ = some c ∧ w.cell? ⟨z, 3, none⟩ = some d ∧ (w.frozen? ⟨z, 0, none⟩ = false ∧ w.frozen? ⟨z, 1, none⟩ = false ∧ w.frozen? ⟨z, 2, none⟩ = false ∧ w.frozen? ⟨z, 3, none⟩ = false) := by
  unfold C4 at h
  simp [World.cell?, World.frozen?, h]
theorem C4.lt {w : World} {z : Nat} {a b c d : Value} (h : C4 w z a b c d) : z < w.heap.size := (Array.getElem?_eq_some_iff.1 h).1
theorem C4.below {w w' : World} {z : Nat} {a b c d : Value} (h : C4 w z a b c d) (hb : Below w.heap.size w w') : C4 w' z a b c d := (hb.block z h.lt).trans h
theorem C4.two {w w' : World} {z p q : Nat} {a b c d : Value} (h : C4 w z a b c d) (hT : Two w w' p q) (hp : z ≠ p) (hq : z ≠ q) : C4 w' z a b c d := (hT.blk z h.lt hp hq).trans h
theorem C4.put {w : World} {z : Nat} {a b c d : Value} (h : C4 w z a b c d) {j : Nat} {u a' b' c' d' : Value} (e : (#[a, b, c, d].set! j u) = #[a', b', c', d']) : C4 (w.setCell ⟨z, j, none⟩ u) z a' b' c' d' := by
  unfold C4 at h ⊢
  show (w.heap.modify z _)[z]? = _
  rw [Array.getElem?_modify, if_pos rfl, h, ← e]; rfl
theorem C4.new (w : World) (a b c d : Value) : C4 (w.alloc (.cells #[a, b, c, d] 46)) w.heap.size a b c d := World.alloc_heap_new w _
/-- All four cells written. -/
theorem C4.set4 {w : World} {z : Nat} {a b c d : Value} (h : C4 w z a b c d) (a' b' c' d' : Value) :
    C4 ((((w.setCell ⟨z, 0, none⟩ a').setCell ⟨z, 1, none⟩ b').setCell ⟨z, 2, none⟩ c').setCell ⟨z, 3, none⟩ d') z a' b' c' d' ∧
    Two w ((((w.setCell ⟨z, 0, none⟩ a').setCell ⟨z, 1, none⟩ b').setCell ⟨z, 2, none⟩ c').setCell ⟨z, 3, none⟩ d') z z :=
  ⟨(((h.put (j := 0) (u := a') rfl).put (j := 1) (u := b') rfl).put (j := 2) (u := c') rfl).put (j := 3) (u := d') rfl,
    (((Two.of_grown (grown_cell w z 0 a') (.inl rfl)).trans (Two.of_grown (grown_cell _ z 1 b') (.inl rfl))).trans (Two.of_grown (grown_cell _ z 2 c') (.inl rfl))).trans (Two.of_grown (grown_cell _ z 3 d') (.inl rfl))⟩
theorem C4.to {w : World} {z : Nat} {a b c d : Value} (h : C4 w z a b c d) (a' b' c' d' : Value) :
    ∃ w', (((w.setCell ⟨z, 0, none⟩ a').setCell ⟨z, 1, none⟩ b').setCell ⟨z, 2, none⟩ c').setCell ⟨z, 3, none⟩ d' = w' ∧ C4 w' z a' b' c' d' ∧ Two w w' z z := ⟨_, rfl, h.set4 a' b' c' d'⟩
set_option maxRecDepth 100000 in
theorem rSecret_any (lab : ByteArray) (p : Option Addr) (n c : Nat) (xs : List Int) (w : World) (hl0 : 0 < lab.size) (hl7 : lab.size ≤ 7) (hX : U w p n xs) (hn : n ≤ 1000000) :
    Calls Try.prog 54 #[.string lab, .slice p n c] w fun e w' => e = .returned (.int .u64 (secI lab xs)) ∧ Below w.heap.size w w' := by
  go_enter Try.func54, Try.ntmps54
  go_wp2_with fail
  refine (rhOf_any lab p n c xs _ hl0 hl7 hX hn).mono ?_
  rintro e w2 ⟨rfl, hb2⟩
  obtain ⟨h, hh, hel⟩ : ∃ h : F, Hid (hashF (bytesI lab) xs = h) ∧ Hid (1 + V h % 2305843009213693949 = secI lab xs) := ⟨_, Lib.hid rfl, Lib.hid rfl⟩
  rw [hh.out]
  have h0 := V_lo h
  have h1 := V_hi h
  go_wp2_with fail
  go_ret
  exact ⟨ret_int hel.out, hb2⟩
set_option maxRecDepth 100000 in
theorem rKeyOf_any (s : Int) (w : World) (h : 0 ≤ s ∧ s < 18446744073709551616) :
    Calls Try.prog 55 #[.int .u64 s] w fun e w' => e = .returned (.int .u64 (secI msgL [s])) ∧ Below w.heap.size w w' := by
  have hL := U_lit w 22 [s] #[.int .u64 s] 1 rfl rfl (by
    intro u hu
    simp only [List.mem_singleton] at hu
    subst hu
    exact h)
  have hb0 := Below.lit w (.cells #[.int .u64 s] 22)
  go_enter Try.func55, Try.ntmps55
  go_wp2_with fail
  change Calls _ _ #[.string msgL, _] _ _
  refine (rSecret_any msgL _ 1 1 _ _ (by decide) (by decide) hL (by omega)).mono ?_
  rintro e w2 ⟨rfl, hb2⟩
  obtain ⟨k, hk⟩ : ∃ k, Hid (secI msgL [s] = k) := ⟨_, Lib.hid rfl⟩
  rw [hk.out]
  go_wp2_with fail
  go_ret
  exact ⟨ret_int hk.out.symm, hb0.trans (hb2.mono hb0.size)⟩
set_option maxRecDepth 100000 in
theorem rState_any (ep : Int) (d : Nat) (w : World) (h0 : 0 ≤ ep) (h1 : ep < 18446744073709551616) (hd : d ≤ 1000) :
    Calls Try.prog 40 #[.int .u64 ep, .int .i64 d, .int .i64 0] w fun e w' => e = .returned (.int .u64 (secI chainL [ep, (d : Int)])) ∧ Below w.heap.size w w' := by
  have hL := U_lit w 22 [ep, (d : Int)] #[.int .u64 ep, .int .u64 d] 2 rfl rfl (by
    intro u hu
    simp only [List.mem_cons, List.not_mem_nil, or_false] at hu
    rcases hu with rfl | rfl <;> omega)
  have hb0 := Below.lit w (.cells #[.int .u64 ep, .int .u64 d] 22)
  go_enter Try.func40, Try.ntmps40
  go_wp2_with fail
  change Calls _ _ #[.string chainL, _] _ _
  refine (rSecret_any chainL _ 2 2 _ _ (by decide) (by decide) hL (by omega)).mono ?_
  rintro e w2 ⟨rfl, hb2⟩
  obtain ⟨k, hk⟩ : ∃ k, Hid (secI chainL [ep, (d : Int)] = k) := ⟨_, Lib.hid rfl⟩
  rw [hk.out]
  have hb := hb0.trans (hb2.mono hb0.size)
  clear hb2 hb0
  go_wp2_with fail
  go_loopw [7, 8] (fun s i W => s = .int .u64 k ∧ i = .int .i64 0 ∧ Hid (W = w2)) (fun _ _ _ => 0)
  case atStart => exact ⟨rfl, rfl, Lib.hid rfl⟩
  case round =>
    obtain ⟨rfl, rfl, hW⟩ := hrel
    obtain rfl := hW.out
    go_wp2_with fail
    go_ret
    exact ⟨ret_int hk.out.symm, hb⟩
set_option maxRecDepth 100000 in
theorem rNew_any (ep : Int) (d : Nat) (w : World) (h0 : 0 ≤ ep) (h1 : ep < 18446744073709551616) (hd : d ≤ 1000) :
    Calls Try.prog 22 #[.int .u64 ep, .int .i64 d] w fun e w' => e = .returned (.agg #[.int .i64 0, .int .u64 (secI chainL [ep, (d : Int)]), .slice none 0 0, .slice none 0 0]) ∧ Below w.heap.size w w' := by
  have hb0 := Below.lit w (.cells #[.int .i64 0, .int .u64 0, .slice none 0 0, .slice none 0 0] 46)
  go_enter Try.func22, Try.ntmps22
  go_wp2_with fail
  refine (rState_any ep d _ h0 h1 hd).mono ?_
  rintro e w2 ⟨rfl, hb2⟩
  obtain ⟨k, hk⟩ : ∃ k, Hid (secI chainL [ep, (d : Int)] = k) := ⟨_, Lib.hid rfl⟩
  rw [hk.out]
  have hA := (C4.new w (.int .i64 0) (.int .u64 0) (.slice none 0 0) (.slice none 0 0)).below hb2
  obtain ⟨c0, c1, c2, c3, f0, f1, f2, f3⟩ := hA.cells
  obtain ⟨w9, hw9, hS, hT⟩ := hA.to (.int .i64 0) (.int .u64 k) (.slice none 0 0) (.slice none 0 0)
  obtain ⟨d0, d1, d2, d3, _⟩ := hS.cells
  have hbT := (hb0.trans (hb2.mono hb0.size)).trans (hT.below (Nat.le_refl _) (Nat.le_refl _) (by have := hb0.size; have := hb2.size; omega))
  go_wp2_with fail
  refine bodyPost_ret (v := .agg #[.int .i64 0, .int .u64 k, .slice none 0 0, .slice none 0 0]) ?_ rfl ?_
  · rw [results_cell1 rfl]; go_simp
  · exact ⟨by rw [hk.out], hbT⟩
/-- A boxed argument, and room for a result. -/
theorem two_boxes (w : World) (a b c d : Value) : C4 ((w.alloc (.cells #[a, b, c, d] 46)).alloc (.cells #[.int .i64 0, .int .u64 0, .slice none 0 0, .slice none 0 0] 46)) w.heap.size a b c d ∧
    C4 ((w.alloc (.cells #[a, b, c, d] 46)).alloc (.cells #[.int .i64 0, .int .u64 0, .slice none 0 0, .slice none 0 0] 46)) (w.heap.size + 1) (.int .i64 0) (.int .u64 0) (.slice none 0 0) (.slice none 0 0) ∧
    Below w.heap.size w ((w.alloc (.cells #[a, b, c, d] 46)).alloc (.cells #[.int .i64 0, .int .u64 0, .slice none 0 0, .slice none 0 0] 46)) := by
  have h1 := C4.new w a b c d
  have hb := Below.lit (w.alloc (.cells #[a, b, c, d] 46)) (.cells #[.int .i64 0, .int .u64 0, .slice none 0 0, .slice none 0 0] 46)
  have h2 := C4.new (w.alloc (.cells #[a, b, c, d] 46)) (.int .i64 0) (.int .u64 0) (.slice none 0 0) (.slice none 0 0)
  rw [World.size_alloc] at h2
  exact ⟨h1.below hb, h2, (Below.lit w _).trans (hb.mono (by rw [World.size_alloc]; omega))⟩
set_option maxRecDepth 100000 in
theorem rstep_any (a : Nat) (s : Int) (p q : Option Addr) (n c m d : Nat) (w : World) (ha : a ≤ 4611686018427387904) (hs : 0 ≤ s ∧ s < 18446744073709551616) :
    Calls Try.prog 41 #[.agg #[.int .i64 a, .int .u64 s, .slice p n c, .slice q m d]] w fun e w' => e = .returned (.tuple #[.agg #[.int .i64 ((a : Int) + 1), .int .u64 (secI nextL [s]), .slice p n c, .slice q m d], .int .u64 (secI msgL [s])]) ∧ Below w.heap.size w w' := by
  obtain ⟨hA, hB, hb⟩ := two_boxes w (.int .i64 a) (.int .u64 s) (.slice p n c) (.slice q m d)
  obtain ⟨a0, a1, a2, a3, _⟩ := hA.cells
  go_enter Try.func41, Try.ntmps41
  go_wp2_with fail
  refine (rKeyOf_any s _ hs).mono ?_
  rintro e w2 ⟨rfl, hb2⟩
  have hA2 := hA.below hb2
  have hB2 := hB.below hb2
  have hb20 := hb.trans (hb2.mono hb.size)
  clear hA hB hb hb2 a0 a1 a2 a3
  obtain ⟨k, hk⟩ : ∃ k, Hid (secI msgL [s] = k) := ⟨_, Lib.hid rfl⟩
  rw [hk.out]
  obtain ⟨a0, a1, a2, a3, _⟩ := hA2.cells
  have hL := U_lit w2 22 [s] #[.int .u64 s] 1 rfl rfl (by
    intro u hu
    simp only [List.mem_singleton] at hu
    subst hu
    exact hs)
  have hb0 := Below.lit w2 (.cells #[.int .u64 s] 22)
  go_wp2_with fail
  change Calls _ _ #[.string nextL, _] _ _
  refine (rSecret_any nextL _ 1 1 _ _ (by decide) (by decide) hL (by omega)).mono ?_
  rintro e w4 ⟨rfl, hb4⟩
  obtain ⟨x, hx⟩ : ∃ x, Hid (secI nextL [s] = x) := ⟨_, Lib.hid rfl⟩
  rw [hx.out]
  have hb24 := hb0.trans (hb4.mono hb0.size)
  have hA4 := hA2.below hb24
  have hB4 := hB2.below hb24
  have hb40 := hb20.trans (hb24.mono hb20.size)
  clear hA2 hB2 hb20 hb0 hb4 hb24 hL a0 a1 a2 a3
  obtain ⟨a0, a1, a2, a3, f0, f1, _⟩ := hA4.cells
  have hA5 := hA4.put (j := 1) (u := .int .u64 x) (a' := .int .i64 a) (b' := .int .u64 x) (c' := .slice p n c) (d' := .slice q m d) rfl
  have hT5 : Two w4 (w4.setCell ⟨w.heap.size, 1, none⟩ (.int .u64 x)) w.heap.size w.heap.size := Two.of_grown (grown_cell _ _ 1 _) (.inl rfl)
  have hA6 := hA5.put (j := 0) (u := .int .i64 ((a : Int) + 1)) (a' := .int .i64 ((a : Int) + 1)) (b' := .int .u64 x) (c' := .slice p n c) (d' := .slice q m d) rfl
  have hT6 := hT5.trans (Two.of_grown (grown_cell (w4.setCell ⟨w.heap.size, 1, none⟩ (.int .u64 x)) w.heap.size 0 (.int .i64 ((a : Int) + 1))) (.inl rfl))
  obtain ⟨w6, hw6⟩ : ∃ w6, (w4.setCell ⟨w.heap.size, 1, none⟩ (.int .u64 x)).setCell ⟨w.heap.size, 0, none⟩ (.int .i64 ((a : Int) + 1)) = w6 := ⟨_, rfl⟩
  rw [hw6] at hA6 hT6
  have hB6 := hB4.two hT6 (by omega) (by omega)
  have hb60 := hb40.trans (hT6.below (Nat.le_refl _) (Nat.le_refl _) hb40.size)
  clear hA4 hA5 hT5 hb40 hT6
  obtain ⟨g0, g1, g2, g3, _⟩ := hA6.cells
  obtain ⟨b0, b1, b2, b3, e0, e1, e2, e3⟩ := hB6.cells
  obtain ⟨w9, hw9, hS, hT⟩ := hB6.to (.int .i64 ((a : Int) + 1)) (.int .u64 x) (.slice p n c) (.slice q m d)
  obtain ⟨d0, d1, d2, d3, _⟩ := hS.cells
  have hbT := hb60.trans (hT.below (by omega) (by omega) hb60.size)
  clear hA6 hB6 hB4 hS hT hb60
  go_wp2_with fail
  refine bodyPost_ret (v := .tuple #[.agg #[.int .i64 ((a : Int) + 1), .int .u64 x, .slice p n c, .slice q m d], .int .u64 k]) ?_ rfl ?_
  · rw [results_cell_tmp rfl]; go_simp
  · exact ⟨by rw [hk.out, hx.out], hbT⟩
set_option maxRecDepth 100000 in
theorem rShut_any (a : Nat) (s : Int) (p q : Option Addr) (n c m d : Nat) (w : World) :
    Calls Try.prog 25 #[.agg #[.int .i64 a, .int .u64 s, .slice p n c, .slice q m d]] w fun e w' => e = .returned (.agg #[.int .i64 a, .int .u64 0, .slice none 0 0, .slice none 0 0]) ∧ Below w.heap.size w w' := by
  obtain ⟨hA, hB, hb⟩ := two_boxes w (.int .i64 a) (.int .u64 s) (.slice p n c) (.slice q m d)
  obtain ⟨a0, a1, a2, a3, _⟩ := hA.cells
  obtain ⟨b0, b1, b2, b3, e0, e1, e2, e3⟩ := hB.cells
  clear hb
  go_enter Try.func25, Try.ntmps25
  go_wp2_with fail
  refine bodyPost_ret (v := .agg #[.int .i64 a, .int .u64 0, .slice none 0 0, .slice none 0 0]) ?_ rfl ?_
  · rw [results_cell1 rfl]; go_simp
  · exact ⟨rfl, (Below.lit w _).alloc (by rw [World.size_alloc]; omega) _⟩
set_option maxRecDepth 100000 in
theorem rNext_zero (a : Nat) (p q : Option Addr) (n c m d : Nat) (w : World) :
    Calls Try.prog 24 #[.agg #[.int .i64 a, .int .u64 0, .slice p n c, .slice q m d]] w fun e w' => e = .returned (.tuple #[.agg #[.int .i64 a, .int .u64 0, .slice p n c, .slice q m d], .int .i64 0, .int .u64 0]) ∧ Below w.heap.size w w' := by
  obtain ⟨hA, hB, hb⟩ := two_boxes w (.int .i64 a) (.int .u64 0) (.slice p n c) (.slice q m d)
  obtain ⟨a0, a1, a2, a3, _⟩ := hA.cells
  obtain ⟨b0, b1, b2, b3, e0, e1, e2, e3⟩ := hB.cells
  clear hb
  go_enter Try.func24, Try.ntmps24
  go_wp2_with fail
  refine bodyPost_ret (v := .tuple #[.agg #[.int .i64 a, .int .u64 0, .slice p n c, .slice q m d], .int .i64 0, .int .u64 0]) ?_ rfl ?_
  · rw [results_cell_tmp2 rfl]; go_simp
  · exact ⟨rfl, (Below.lit w _).alloc (by rw [World.size_alloc]; omega) _⟩
set_option maxRecDepth 100000 in
theorem rNext_some (a : Nat) (s : Int) (p q : Option Addr) (n c m d : Nat) (w : World) (ha : a ≤ 4611686018427387904) (hs : 0 ≤ s ∧ s < 18446744073709551616) (h0 : s ≠ 0) :
    Calls Try.prog 24 #[.agg #[.int .i64 a, .int .u64 s, .slice p n c, .slice q m d]] w fun e w' => e = .returned (.tuple #[.agg #[.int .i64 ((a : Int) + 1), .int .u64 (secI nextL [s]), .slice p n c, .slice q m d], .int .i64 a, .int .u64 (secI msgL [s])]) ∧ Below w.heap.size w w' := by
  have t : (s == 0) = false := beq_eq_false_iff_ne.2 h0
  obtain ⟨hA, hB, hb⟩ := two_boxes w (.int .i64 a) (.int .u64 s) (.slice p n c) (.slice q m d)
  obtain ⟨a0, a1, a2, a3, _⟩ := hA.cells
  obtain ⟨k, hk⟩ : ∃ k, Hid (secI msgL [s] = k) := ⟨_, Lib.hid rfl⟩
  obtain ⟨x, hx⟩ : ∃ x, Hid (secI nextL [s] = x) := ⟨_, Lib.hid rfl⟩
  clear h0
  go_enter Try.func24, Try.ntmps24
  go_wp2_with fail
  refine (rstep_any a s p q n c m d _ ha hs).mono ?_
  rintro e w2 ⟨rfl, hb2⟩
  rw [hk.out, hx.out]
  have hB2 := hB.below hb2
  have hb20 := hb.trans (hb2.mono hb.size)
  have hC := C4.new w2 (.int .i64 0) (.int .u64 0) (.slice none 0 0) (.slice none 0 0)
  have hbC := Below.lit w2 (.cells #[.int .i64 ((a : Int) + 1), .int .u64 x, .slice p n c, .slice q m d] 46)
  have hB3 := hB2.below hbC
  have hC3 := C4.new w2 (.int .i64 ((a : Int) + 1)) (.int .u64 x) (.slice p n c) (.slice q m d)
  have hb30 := hb20.trans (hbC.mono hb20.size)
  obtain ⟨c0, c1, c2, c3, k0, k1, k2, k3⟩ := hC.cells
  obtain ⟨b0, b1, b2, b3, e0, e1, e2, e3⟩ := hB3.cells
  obtain ⟨g0, g1, g2, g3, _⟩ := hC3.cells
  obtain ⟨w9, hw9, hS, hT⟩ := hB3.to (.int .i64 ((a : Int) + 1)) (.int .u64 x) (.slice p n c) (.slice q m d)
  obtain ⟨d0, d1, d2, d3, _⟩ := hS.cells
  have hbT := hb30.trans (hT.below (by omega) (by omega) hb30.size)
  clear hA hB hb hb2 hB2 hb20 hbC hB3 hb30 hS hT hC hC3 a0 a1 a2 a3
  go_wp2_with fail
  refine bodyPost_ret (v := .tuple #[.agg #[.int .i64 ((a : Int) + 1), .int .u64 x, .slice p n c, .slice q m d], .int .i64 a, .int .u64 k]) ?_ rfl ?_
  · rw [results_cell_tmp2 rfl]; go_simp
  · exact ⟨by rw [hk.out, hx.out], hbT⟩
end Go.Proofs.Ytcnhgkgabddjmaa
