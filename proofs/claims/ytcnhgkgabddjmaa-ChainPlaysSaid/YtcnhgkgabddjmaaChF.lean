/-
  Chains of keys (6): Kept; rows of numbers, the same or not; whether one is there.
-/
import Derived.Test.YtcnhgkgabddjmaaChE
import Derived.Test.YtcnhgkgabddjmaaUI
import Derived.Sort.OwnSortedInts
namespace Go.Proofs.Ytcnhgkgabddjmaa
open Go.RowKit Go.Shelf Go.Maps Go.Sort
attribute [local go_sem] Oper.semAt_some

theorem lt_ext : ∀ (a b : List Int), a.Pairwise (· < ·) → b.Pairwise (· < ·) → (∀ x, x ∈ a ↔ x ∈ b) → a = b := by
  intro a
  induction a with
  | nil =>
    intro b _ _ h
    cases b with
    | nil => rfl
    | cons y b => exact absurd ((h y).2 (List.mem_cons_self ..)) (by simp)
  | cons x a ih =>
    intro b ha hb h
    cases b with
    | nil => exact absurd ((h x).1 (List.mem_cons_self ..)) (by simp)
    | cons y b =>
      obtain ⟨ha1, ha2⟩ := List.pairwise_cons.1 ha
      obtain ⟨hb1, hb2⟩ := List.pairwise_cons.1 hb
      have e : x = y := by
        rcases List.mem_cons.1 ((h x).1 (List.mem_cons_self ..)) with e | e
        · exact e
        · rcases List.mem_cons.1 ((h y).2 (List.mem_cons_self ..)) with e2 | e2
          · exact e2.symm
          · have := hb1 x e; have := ha1 y e2; omega
      subst e
      rw [ih b ha2 hb2 fun z => ?_]
      constructor
      · intro hz
        rcases List.mem_cons.1 ((h z).1 (List.mem_cons_of_mem _ hz)) with e | e
        · subst e; have := ha1 z hz; omega
        · exact e
      · intro hz
        rcases List.mem_cons.1 ((h z).2 (List.mem_cons_of_mem _ hz)) with e | e
        · subst e; have := hb1 z hz; omega
        · exact e
/-- The numbers that are kept. -/
def numsK (ks : List (Int × Int)) : List Int := ks.map Prod.fst
theorem valK_some_iff (ks : List (Int × Int)) (x : Int) : (valK ks x).isSome = true ↔ x ∈ numsK ks := by
  unfold valK numsK
  induction ks with
  | nil => simp
  | cons p ks ih =>
    by_cases hp : p.1 = x
    · rw [List.find?_cons_of_pos (by simpa using hp)]; simp [hp]
    · rw [List.find?_cons_of_neg (by simpa using hp), ih, List.map_cons, List.mem_cons]
      constructor
      · exact .inr
      · rintro (e | e)
        · exact absurd e.symm hp
        · exact e
theorem sorted_all {ks : List (Int × Int)} (hr : ks.Pairwise fun p q => p.1 < q.1) {all : List Int} (hnd : all.Nodup) (hall : ∀ x, x ∈ all ↔ (valK ks x).isSome = true) : all.mergeSort (fun x y => decide (x ≤ y)) = numsK ks := by
  refine lt_ext _ _ ?_ ?_ fun x => ?_
  · have h1 : (all.mergeSort fun x y => decide (x ≤ y)).Pairwise fun x y => decide (x ≤ y) = true :=
      List.pairwise_mergeSort (by intro a b c h1 h2; simp only [decide_eq_true_eq] at *; omega) (by intro a b; simp only [Bool.or_eq_true, decide_eq_true_eq]; omega) all
    have h2 : (all.mergeSort fun x y => decide (x ≤ y)).Nodup := (List.mergeSort_perm all _).nodup_iff.2 hnd
    refine (List.Pairwise.and h1 h2).imp ?_
    rintro a b ⟨h1, h2⟩
    rw [decide_eq_true_eq] at h1
    have : a ≠ b := h2
    omega
  · unfold numsK
    exact List.pairwise_map.2 hr
  · rw [(List.mergeSort_perm all _).mem_iff, hall, valK_some_iff]

theorem ui_of_row {w : World} {base : Nat} {p : Option Addr} {n c : Nat} {xs : List Int} (h : w.ownsRow base 3 1 (.slice p n c) n (xs.map (Value.int .i64))) (hx : ∀ x ∈ xs, -9223372036854775808 ≤ x ∧ x ≤ 9223372036854775807) : UI w p n xs := by
  have hl : xs.length = n := by have := h.1; simpa using this
  rcases h.2 with ⟨hv, hn⟩ | ⟨g, cap, cur, hv, _, hg, hnc, _, hcs, htake⟩
  · have : xs = [] := List.eq_nil_of_length_eq_zero (by omega)
    exact ⟨hl, .inl (by rw [this]; rfl), hx⟩
  · injection hv with hp _ _
    subst hp
    refine ⟨hl, .inr ⟨g, 0, rfl, fun i hi => ?_⟩, hx⟩
    have hi' : i < xs.length := by simpa using hi
    have := h.cellAt i (by omega)
    simpa [List.getElem?_eq_getElem hi'] using this
/-- A slice's cells lie in a block from B on. -/
def FarP (B : Nat) (p : Option Addr) : Prop := ∀ a, p = some a → B ≤ a.block
set_option maxRecDepth 100000 in
theorem Collect_any (Bm b nn : Nat) (ks : List (Int × Int)) (D : DataW Unit) (w : World) (hm : w.cell? ⟨Bm, 0, none⟩ = some (.map (some b))) (hown : w.ownsMap Try.prog 3 (plainElem Try.prog 22) b nn D) (hD : KeptD ks D) (hk : ks.length ≤ 1000) :
    Calls Try.prog 51 #[.func (.func 53) #[] #[.pointer (some ⟨Bm, 0, none⟩)]] w fun e w' => ∃ (v : Value) (all : List Int), e = .returned v ∧ all.Nodup ∧ (∀ x, x ∈ all ↔ (valK ks x).isSome = true) ∧ w'.ownsRow w.heap.size 3 1 v all.length (all.map (Value.int .i64)) ∧ Below w.heap.size w w' := by
  go_enter Try.func51, Try.ntmps51
  go_wp2_with fail
  refine (callsIn_wide.1 (appseq_in Bm b nn ks D w hm hown hD hk)).mono ?_
  rintro e w' ⟨v, all, rfl, h⟩
  go_wp2_with fail
  go_ret
  exact ⟨v, all, rfl, h⟩
set_option maxRecDepth 100000 in
set_option maxHeartbeats 2000000 in
theorem Sorted_any (Bm b nn : Nat) (ks : List (Int × Int)) (D : DataW Unit) (w : World) (hm : w.cell? ⟨Bm, 0, none⟩ = some (.map (some b))) (hown : w.ownsMap Try.prog 3 (plainElem Try.prog 22) b nn D) (hD : KeptD ks D) (hk : ks.length ≤ 1000) (hr : ks.Pairwise fun p q => p.1 < q.1) (hb : ∀ x ∈ numsK ks, -9223372036854775808 ≤ x ∧ x ≤ 9223372036854775807) :
    Calls Try.prog 38 #[.func (.func 53) #[] #[.pointer (some ⟨Bm, 0, none⟩)]] w fun e w' => ∃ (p : Option Addr) (c : Nat), e = .returned (.slice p ks.length c) ∧ UI w' p ks.length (numsK ks) ∧ FarP w.heap.size p ∧ Below w.heap.size w w' := by
  go_enter Try.func38, Try.ntmps38
  go_wp2_with fail
  refine (Collect_any Bm b nn ks D w hm hown hD hk).mono ?_
  rintro e w1 ⟨v, all, rfl, hnd, hall, hrow, hb1⟩
  have hs := sorted_all hr hnd hall
  have hlen : all.length = ks.length := by
    have h1 := congrArg List.length hs
    rw [(List.mergeSort_perm all _).length_eq] at h1
    rw [h1]
    unfold numsK
    rw [List.length_map]
  rcases hrow.2 with ⟨rfl, h0⟩ | ⟨g, cap, cur, rfl, hg, hgb, hnc, hcap, hcs, htake⟩
  · clear hrow
    go_wp2_with fail
    refine (Try.slices_Sort_int_none _ _ _).mono ?_
    rintro e w2 ⟨rfl, rfl⟩
    go_wp2_with fail
    go_ret
    rw [← hlen, h0]
    have hnil : numsK ks = [] := by
      apply List.eq_nil_of_length_eq_zero
      unfold numsK
      rw [List.length_map, ← hlen, h0]
    rw [hnil]
    exact ⟨_, _, rfl, ⟨rfl, .inl rfl, fun _ h => by cases h⟩, fun _ h => (by cases h), hb1⟩
  · have hlt := (Array.getElem?_eq_some_iff.1 hgb).1
    rw [Nat.mul_one] at htake
    have hH := holds_of_blockI hgb htake
    have hsz : all.length < 4611686018427387904 := by unfold maxLen at hcap; omega
    clear hrow
    replace hlen := Lib.hid hlen
    replace hs := Lib.hid hs
    go_wp2_with fail
    refine (Try.slices_Sort_int g 0 cap all w1 hH hlt hsz).mono ?_
    rintro e w2 ⟨rfl, n, os, rfl⟩
    rw [hs.out]
    have hrow2 := ownsRow_sortedI (w := w1) (base := w.heap.size) (n := n) (os := os) (ts := numsK ks) (ss := all) (by unfold numsK; rw [List.length_map, hlen.out]) hg hgb hnc hcap hcs
    have hb2 : Below w.heap.size w (grow (putRow (Value.int .i64) (Sort.ahead w1 n) g 0 (numsK ks).toArray) os) := hb1.grown (grownBy_sortedI _) hb1.size fun k e => by injection e with e; omega
    generalize grow (putRow (Value.int .i64) (Sort.ahead w1 n) g 0 (numsK ks).toArray) os = w2 at *
    have hu := ui_of_row hrow2 hb
    rw [hlen.out] at hu
    go_wp2_with fail
    go_ret
    rw [hlen.out]
    exact ⟨_, _, rfl, hu, fun a h => (by injection h with h; rw [← h]; exact hg), hb2⟩
set_option maxRecDepth 100000 in
theorem Kept_any (c b : Nat) (m : Ch) (w : World) (hC : ChAt w c b m) (hok : m.Ok) (hn : m.num ≤ 1152921504606846976) :
    Calls Try.prog 21 #[.pointer (some ⟨c, 0, none⟩)] w fun e w' => ∃ (p : Option Addr) (cp : Nat), e = .returned (.slice p m.ks.length cp) ∧ UI w' p m.ks.length (numsK m.ks) ∧ FarP w.heap.size p ∧ Below w.heap.size w w' := by
  have x2 := hC.c2
  obtain ⟨nn, D, hown, hD, hnn⟩ := hC.map
  have hb0 := Below.lit w (.cells #[.map (some b)] 69)
  have hm1 : (w.alloc (.cells #[.map (some b)] 69)).cell? ⟨w.heap.size, 0, none⟩ = some (.map (some b)) := cell_of_one (World.alloc_heap_new w _)
  have hown1 := hown.alloc (.cells #[.map (some b)] 69)
  have hbd : ∀ x ∈ numsK m.ks, -9223372036854775808 ≤ x ∧ x ≤ 9223372036854775807 := by
    intro x hx
    unfold numsK at hx
    obtain ⟨p, hp, rfl⟩ := List.mem_map.1 hx
    have := hok.low p hp
    omega
  have hfew := hok.few
  have hrise := hok.rise
  replace hbd := Lib.hid hbd
  replace hrise := Lib.hid hrise
  clear hok
  go_enter Try.func21, Try.ntmps21
  go_wp2_with fail
  refine (KeysF_any (some b) w).mono ?_
  rintro e w1 ⟨rfl, rfl⟩
  go_wp2_with fail
  refine (Sorted_any w.heap.size b nn m.ks D _ hm1 hown1 hD (by omega) hrise.out hbd.out).mono ?_
  rintro e w2 ⟨p, cp, rfl, hu, hf, hb2⟩
  go_wp2_with fail
  go_ret
  exact ⟨p, cp, rfl, hu, fun a h => Nat.le_trans hb0.size (hf a h), hb0.trans (hb2.mono hb0.size)⟩

set_option maxRecDepth 100000 in
theorem SameInts_yes (p q : Option Addr) (n : Nat) (xs : List Int) (c d : Nat) (w : World) (hX : UI w p n xs) (hY : UI w q n xs) (hn : n ≤ 9223372036854775806) :
    Calls Try.prog 20 #[.slice p n c, .slice q n d] w fun e w' => e = .returned (.bool true) ∧ Below w.heap.size w w' := by
  have hne : ((n : Int) != n) = false := bne_self_eq_false _
  go_enter Try.func20, Try.ntmps20
  go_wp2
  go_loopw [5] (fun i wr => ∃ k : Nat, k ≤ n ∧ i = .int .i64 k ∧ Below w.heap.size w wr)
    (fun i _ => n - (intOf i).toNat)
  case atStart => exact ⟨0, Nat.zero_le _, rfl, Below.refl _ _⟩
  case round =>
    obtain ⟨k, hk, rfl, hb⟩ := hrel
    by_cases hlt : k < n
    · obtain ⟨b, off, rfl, _, hc1, _⟩ := (hX.below hb).look hlt
      obtain ⟨b', off', rfl, _, hc2, _⟩ := (hY.below hb).look hlt
      have t1 : (nth xs k != nth xs k) = false := bne_self_eq_false _
      have hix1 : (0 : Int) ≤ (k : Int) := by omega
      have hix2 : (k : Int) < (n : Int) := by omega
      go_wp2_with fail
      refine wp_region_still_lit (by kernel_rfl) (by kernel_rfl) ?_
      repeat still_step
      refine wpStill_nil ?_
      change Exit.then _ _ _ _ wr.drew
      clear hix1 hix2
      go_wp2
      go_roundw
      case rel => exact ⟨k + 1, by omega, by go_num, hb.drew⟩
      case measure => simp [intOf]; omega
    · go_wp2
      go_ret
      exact ⟨rfl, hb⟩
end Go.Proofs.Ytcnhgkgabddjmaa
