/-
  Chains of keys (2): in memory; New, step, Next, At, Shut, Key.
-/
import Derived.Test.YtcnhgkgabddjmaaChA
import Derived.Carry
namespace Go.Proofs.Ytcnhgkgabddjmaa
open Go.RowKit Go.Maps

theorem key_law : Keyed Try.prog 3 := int_keyed Try.underlying3
theorem zero_u64 (w : World) : (zeroValue 22).run Try.prog w = .ok (.int .u64 0) w := by kernel_rfl
theorem key_of {k : Int} (h0 : -9223372036854775808 ≤ k) (h1 : k ≤ 9223372036854775807) : keyOf Try.prog 3 (.int .i64 k) = some (.int .i64 k) :=
  keyOf_int_mk Try.underlying3 (by simp only [Lit.wf, Bool.and_eq_true, decide_eq_true_eq]; exact ⟨h0, h1⟩)
/-- Block b is a map that holds what is kept. -/
def KeptM (w : World) (b : Nat) (ks : List (Int × Int)) : Prop := ∃ n D, w.ownsMap Try.prog 3 (plainElem Try.prog 22) b n D ∧ KeptD ks D ∧ n ≤ ks.length
theorem ownsMap_low {w : World} {b n : Nat} {D : DataW Unit} (h : w.ownsMap Try.prog 3 (plainElem Try.prog 22) b n D) : w.ownsMap Try.prog 3 (plainElem Try.prog 22) b (Maps.size D) D := by
  obtain ⟨es, clock, h1, h2, h3, rfl⟩ := h
  refine ⟨es, clock, h1, h2, ?_, rfl⟩
  rw [size_eq, length_read]
  exact Nat.le_refl _
theorem KeptM.of {w : World} {b n : Nat} {D : DataW Unit} {ks : List (Int × Int)} (h : w.ownsMap Try.prog 3 (plainElem Try.prog 22) b n D) (k : KeptD ks D) : KeptM w b ks :=
  ⟨_, D, ownsMap_low h, k, by rw [k.size]; exact Nat.le_refl _⟩
theorem KeptM.kept {w w' : World} {b : Nat} {ks : List (Int × Int)} {row : Option Nat} (h : KeptM w b ks) (hg : w.grownBy w' row) (hne : some b ≠ row) : KeptM w' b ks := by
  obtain ⟨n, D, h1, h2, h3⟩ := h
  exact ⟨n, D, h1.kept hg hne, h2, h3⟩
theorem KeptM.lt {w : World} {b : Nat} {ks : List (Int × Int)} (h : KeptM w b ks) : b < w.heap.size := by
  obtain ⟨n, D, h1, _⟩ := h
  exact h1.lt
/-- Block c is a chain; its map lies in block b. -/
structure ChAt (w : World) (c b : Nat) (m : Ch) : Prop where
  blk : w.heap[c]? = some (.cells #[.int .i64 m.num, .int .u64 m.st, .map (some b)] 71 (0, 0))
  map : KeptM w b m.ks
theorem ChAt.c0 {w : World} {c b : Nat} {m : Ch} (h : ChAt w c b m) : w.cell? ⟨c, 0, none⟩ = some (.int .i64 m.num) := by simp [World.cell?, h.blk]
theorem ChAt.c1 {w : World} {c b : Nat} {m : Ch} (h : ChAt w c b m) : w.cell? ⟨c, 1, none⟩ = some (.int .u64 m.st) := by simp [World.cell?, h.blk]
theorem ChAt.c2 {w : World} {c b : Nat} {m : Ch} (h : ChAt w c b m) : w.cell? ⟨c, 2, none⟩ = some (.map (some b)) := by simp [World.cell?, h.blk]
theorem ChAt.free {w : World} {c b : Nat} {m : Ch} (h : ChAt w c b m) (i : Nat) : w.frozen? ⟨c, i, none⟩ = false := by simp [World.frozen?, h.blk]
theorem ChAt.lt {w : World} {c b : Nat} {m : Ch} (h : ChAt w c b m) : c < w.heap.size := (Array.getElem?_eq_some_iff.1 h.blk).1
theorem ChAt.ne {w : World} {c b : Nat} {m : Ch} (h : ChAt w c b m) : b ≠ c := fun e => by
  obtain ⟨n, D, ⟨es, clock, h1, _⟩, _⟩ := h.map
  rw [e, h.blk] at h1
  cases h1
theorem ChAt.below {w w' : World} {c b : Nat} {m : Ch} (h : ChAt w c b m) (hb : Below w.heap.size w w') : ChAt w' c b m :=
  ⟨(hb.block c h.lt).trans h.blk, h.map.kept (row := none) ⟨hb.os, hb.tape, hb.output, hb.size, fun i hi _ => hb.block i hi⟩ (by simp)⟩
/-- What two calls of a chain's methods leave: but the chain's two blocks all lies as it did. -/
structure Two (w w' : World) (c b : Nat) : Prop where
  os : w'.os = w.os
  tape : w'.tape = w.tape
  out : w'.output = w.output
  size : w.heap.size ≤ w'.heap.size
  blk : ∀ i, i < w.heap.size → i ≠ c → i ≠ b → w'.heap[i]? = w.heap[i]?
theorem Two.refl (w : World) (c b : Nat) : Two w w c b := ⟨rfl, rfl, rfl, Nat.le_refl _, fun _ _ _ _ => rfl⟩
theorem Two.trans {w v u : World} {c b : Nat} (h : Two w v c b) (k : Two v u c b) : Two w u c b :=
  ⟨k.os.trans h.os, k.tape.trans h.tape, k.out.trans h.out, Nat.le_trans h.size k.size, fun i hi h1 h2 => (k.blk i (by have := h.size; omega) h1 h2).trans (h.blk i hi h1 h2)⟩
theorem Two.of_below {w w' : World} {c b : Nat} (h : Below w.heap.size w w') : Two w w' c b := ⟨h.os, h.tape, h.output, h.size, fun i hi _ _ => h.block i hi⟩
theorem Two.of_grown {w w' : World} {c b j : Nat} (h : w.grownBy w' (some j)) (hj : j = c ∨ j = b) : Two w w' c b :=
  ⟨h.os, h.tape, h.output, h.size, fun i hi h1 h2 => h.block i hi fun e => by injection e with e; rcases hj with rfl | rfl <;> contradiction⟩
theorem Two.below {w w' : World} {c b B : Nat} (h : Two w w' c b) (hc : B ≤ c) (hb : B ≤ b) (hB : B ≤ w.heap.size) : Below B w w' :=
  ⟨h.os, h.tape, h.out, h.size, fun i hi => h.blk i (by omega) (by omega) (by omega)⟩
/-- Storing into a chain's cell. -/
theorem ChAt.put {w : World} {c b : Nat} {m m' : Ch} (h : ChAt w c b m) {i : Nat} {u : Value} (e : (#[Value.int .i64 m.num, .int .u64 m.st, .map (some b)].set! i u) = #[.int .i64 m'.num, .int .u64 m'.st, .map (some b)]) (ek : m'.ks = m.ks) : ChAt (w.setCell ⟨c, i, none⟩ u) c b m' := by
  refine ⟨?_, ?_⟩
  · show (w.heap.modify c _)[c]? = _
    rw [Array.getElem?_modify, if_pos rfl, h.blk, ← e]; rfl
  · rw [ek]
    exact h.map.kept (row := some c) (grown_cell w c i u) (by intro e; injection e with e; exact h.ne e)

set_option maxRecDepth 100000 in
theorem Secret_any (lab : ByteArray) (p : Option Addr) (n c : Nat) (xs : List Int) (w : World) (hl0 : 0 < lab.size) (hl7 : lab.size ≤ 7) (hX : U w p n xs) (hn : n ≤ 1000000) :
    Calls Try.prog 33 #[.string lab, .slice p n c] w fun e w' => e = .returned (.int .u64 (secI lab xs)) ∧ Below w.heap.size w w' := by
  go_enter Try.func33, Try.ntmps33
  go_wp2_with fail
  refine (hOf_any lab p n c xs _ hl0 hl7 hX hn).mono ?_
  rintro e w2 ⟨rfl, hb2⟩
  obtain ⟨h, hh, hel⟩ : ∃ h : F, Hid (hashF (bytesI lab) xs = h) ∧ Hid (1 + V h % 2305843009213693949 = secI lab xs) := ⟨_, Lib.hid rfl, Lib.hid rfl⟩
  rw [hh.out]
  have h0 := V_lo h
  have h1 := V_hi h
  go_wp2_with fail
  go_ret
  exact ⟨ret_int hel.out, hb2⟩
set_option maxRecDepth 100000 in
theorem New_any (ep : Int) (d : Nat) (w : World) (h0 : 0 ≤ ep) (h1 : ep < 18446744073709551616) (hd : d ≤ 1000) :
    Calls Try.prog 12 #[.int .u64 ep, .int .i64 d] w fun e w' => ∃ c b, e = .returned (.pointer (some ⟨c, 0, none⟩)) ∧ ChAt w' c b (Ch.new ep d) ∧ w.heap.size ≤ c ∧ w.heap.size ≤ b ∧ Below w.heap.size w w' := by
  have hL := U_lit w 22 [ep, (d : Int)] #[.int .u64 ep, .int .u64 d] 2 rfl rfl (by
    intro u hu
    simp only [List.mem_cons, List.not_mem_nil, or_false] at hu
    rcases hu with rfl | rfl <;> omega)
  have hb0 := Below.lit w (.cells #[.int .u64 ep, .int .u64 d] 22)
  go_enter Try.func12, Try.ntmps12
  go_wp2_with fail
  change Calls _ _ #[.string chainL, _] _ _
  refine (Secret_any chainL _ 2 2 _ _ (by decide) (by decide) hL (by omega)).mono ?_
  rintro e w2 ⟨rfl, hb2⟩
  have hb02 := hb0.trans (hb2.mono hb0.size)
  obtain ⟨s, hs⟩ : ∃ s, Hid (secI chainL [ep, (d : Int)] = s) := ⟨_, Lib.hid rfl⟩
  rw [hs.out]
  go_wp2_with fail
  have hA := Arr.new (w2.alloc (.map #[] 0)) 71 [.int .i64 0, .int .u64 s, .map (some w2.heap.size)]
  have hz := World.size_alloc w2 (.map #[] 0)
  rw [hz] at hA
  have hb3 : Below w2.heap.size w2 ((w2.alloc (.map #[] 0)).alloc (.cells #[.int .i64 0, .int .u64 s, .map (some w2.heap.size)] 71)) := (Below.lit w2 _).alloc (by omega) _
  have hK : KeptM ((w2.alloc (.map #[] 0)).alloc (.cells #[.int .i64 0, .int .u64 s, .map (some w2.heap.size)] 71)) w2.heap.size [] :=
    KeptM.of ((World.ownsMap_made w2 Try.prog 3 _).alloc _) KeptD.nil
  have hm : Hid (Ch.new ep d = ⟨0, s, []⟩) := Lib.hid (by unfold Ch.new; rw [hs.out])
  replace hz := Lib.hid hz
  have hmm : (Instr.makeMap 69 none).run Try.prog w2 = .ok (.map (some w2.heap.size)) (w2.alloc (.map #[] 0)) := run_makeMap _ w2
  go_wp2_with fail
  rw [hmm]
  go_wp2_with fail
  go_ret
  exact ⟨_, _, rfl, by rw [hm.out]; exact ⟨hA, hK⟩, by have := hb02.size; omega, hb02.size, hb02.trans (hb3.mono hb02.size)⟩
set_option maxRecDepth 100000 in
theorem step_any (c b : Nat) (m : Ch) (w : World) (hC : ChAt w c b m) (hn : m.num ≤ 4611686018427387904) (h0 : 0 ≤ m.st) (h1 : m.st < 18446744073709551616) :
    Calls Try.prog 34 #[.pointer (some ⟨c, 0, none⟩)] w fun e w' => e = .returned (.int .u64 m.key) ∧ ChAt w' c b m.step ∧ Two w w' c b := by
  have hL := U_lit w 22 [m.st] #[.int .u64 m.st] 1 rfl rfl (by
    intro u hu
    simp only [List.mem_singleton] at hu
    subst hu
    exact ⟨h0, h1⟩)
  have hb0 := Below.lit w (.cells #[.int .u64 m.st] 22)
  have x1 := hC.c1
  have hC0 := hC.below hb0
  go_enter Try.func34, Try.ntmps34
  go_wp2_with fail
  change Calls _ _ #[.string msgL, _] _ _
  refine (Secret_any msgL _ 1 1 _ _ (by decide) (by decide) hL (by omega)).mono ?_
  rintro e w1 ⟨rfl, hb1⟩
  have hC1 := hC0.below hb1
  have hT1 : Two w w1 c b := (Two.of_below hb0).trans (Two.of_below hb1)
  have hL1 := U_lit w1 22 [m.st] #[.int .u64 m.st] 1 rfl rfl (by
    intro u hu
    simp only [List.mem_singleton] at hu
    subst hu
    exact ⟨h0, h1⟩)
  have hb10 := Below.lit w1 (.cells #[.int .u64 m.st] 22)
  have hC10 := hC1.below hb10
  clear x1 hL hb0 hC0 hb1
  have x1 := hC1.c1
  obtain ⟨ky, hky⟩ : ∃ ky, Hid (m.key = ky) := ⟨_, Lib.hid rfl⟩
  have hky2 : Hid (secI msgL [m.st] = ky) := Lib.hid hky.out
  rw [hky2.out]
  go_wp2_with fail
  change Calls _ _ #[.string nextL, _] _ _
  refine (Secret_any nextL _ 1 1 _ _ (by decide) (by decide) hL1 (by omega)).mono ?_
  rintro e w2 ⟨rfl, hb2⟩
  obtain ⟨s, hs⟩ : ∃ s, Hid (secI nextL [m.st] = s) := ⟨_, Lib.hid rfl⟩
  rw [hs.out]
  have hC2 := hC10.below hb2
  have hT2 : Two w w2 c b := (hT1.trans (Two.of_below hb10)).trans (Two.of_below hb2)
  clear x1 hL1 hb10 hC10 hb2 hT1 hC1
  have y1 := hC2.c1
  have y0 := hC2.c0
  have f1 := hC2.free 1
  have hP1 := hC2.put (m' := ⟨m.num, s, m.ks⟩) (i := 1) (u := .int .u64 s) rfl rfl
  have z0 := hP1.c0
  have f0 := hP1.free 0
  have hP2 := hP1.put (m' := ⟨m.num + 1, s, m.ks⟩) (i := 0) (u := .int .i64 ((m.num : Int) + 1)) rfl rfl
  have hT3 : Two w ((w2.setCell ⟨c, 1, none⟩ (.int .u64 s)).setCell ⟨c, 0, none⟩ (.int .i64 ((m.num : Int) + 1))) c b := (hT2.trans (Two.of_grown (grown_cell w2 c 1 _) (.inl rfl))).trans (Two.of_grown (grown_cell _ c 0 _) (.inl rfl))
  have hm : Hid (m.step = ⟨m.num + 1, s, m.ks⟩) := Lib.hid (by unfold Ch.step; rw [hs.out])
  go_wp2_with fail
  go_ret
  exact ⟨by rw [hky.out]; rfl, by rw [hm.out]; exact hP2, hT3⟩
set_option maxRecDepth 100000 in
theorem At_any (c b : Nat) (m : Ch) (w : World) (hC : ChAt w c b m) :
    Calls Try.prog 19 #[.pointer (some ⟨c, 0, none⟩)] w fun e w' => e = .returned (.int .i64 m.num) ∧ w' = w := by
  have x0 := hC.c0
  go_enter Try.func19, Try.ntmps19
  go_wp2_with fail
  go_ret
  exact ⟨rfl, rfl⟩
set_option maxRecDepth 100000 in
theorem Next_any (c b : Nat) (m : Ch) (w : World) (hC : ChAt w c b m) (hn : m.num ≤ 4611686018427387904) (h0 : 0 ≤ m.st) (h1 : m.st < 18446744073709551616) :
    Calls Try.prog 13 #[.pointer (some ⟨c, 0, none⟩)] w fun e w' => e = .returned (.tuple #[.int .i64 m.next.2.1, .int .u64 m.next.2.2]) ∧ ChAt w' c b m.next.1 ∧ Two w w' c b := by
  have x0 := hC.c0
  have x1 := hC.c1
  by_cases hz : m.st = 0
  · have t : (m.st == 0) = true := by rw [hz]; rfl
    have hnx : Hid (m.next = (m, 0, 0)) := Lib.hid (by unfold Ch.next; rw [if_pos hz])
    rw [hnx.out]
    clear hz
    go_enter Try.func13, Try.ntmps13
    go_wp2_with fail
    go_ret2
    exact ⟨rfl, hC, Two.refl _ _ _⟩
  · have t : (m.st == 0) = false := beq_eq_false_iff_ne.2 hz
    have hnx : Hid (m.next = (m.step, (m.num : Int), m.key)) := Lib.hid (by unfold Ch.next; rw [if_neg hz])
    rw [hnx.out]
    clear hz
    go_enter Try.func13, Try.ntmps13
    go_wp2_with fail
    refine (step_any c b m _ hC hn h0 h1).mono ?_
    rintro e w1 ⟨rfl, hC1, hT1⟩
    go_wp2_with fail
    go_ret2
    exact ⟨rfl, hC1, hT1⟩
end Go.Proofs.Ytcnhgkgabddjmaa
