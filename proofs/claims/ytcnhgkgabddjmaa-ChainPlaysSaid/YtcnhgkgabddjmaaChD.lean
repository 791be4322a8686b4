/-
  Chains of keys (4): the iterator over a map's keys.
-/
import Derived.Test.YtcnhgkgabddjmaaChC
import Derived.Maps.OwnIn
import Derived.Sort.MapsRangeIn
import Derived.RangeFuncSeq
import Derived.RangeFuncGives
namespace Go.Proofs.Ytcnhgkgabddjmaa
open Go.RowKit Go.Shelf Go.Maps
attribute [local go_sem] Oper.semAt_some

theorem KeysF_any (mb : Option Nat) (w : World) :
    Calls Try.prog 39 #[.map mb] w fun e w' =>
      e = .returned (.func (.func 53) #[] #[.pointer (some ⟨w.heap.size, 0, none⟩)]) ∧ w.alloc (.cells #[.map mb] 69) = w' := by
  go_enter Try.func39, Try.ntmps39
  go_wp2
  go_ret
  exact ⟨rfl, rfl⟩
theorem nodup_leI : ∀ (l m : List Int), l.Nodup → (∀ x ∈ l, x ∈ m) → l.length ≤ m.length := by
  intro l
  induction l with
  | nil => intro m _ _; exact Nat.zero_le _
  | cons a l ih =>
    intro m hd hm
    obtain ⟨k1, k2⟩ := List.nodup_cons.1 hd
    have ha := hm a (List.mem_cons_self ..)
    have := ih (m.erase a) k2 fun x hx => (List.mem_erase_of_ne (fun e => k1 (by rw [← e]; exact hx))).2 (hm x (List.mem_cons_of_mem _ hx))
    rw [List.length_erase_of_mem ha] at this
    have := List.length_pos_of_mem ha
    rw [List.length_cons]; omega
theorem valK_mem {ks : List (Int × Int)} {x : Int} (h : (valK ks x).isSome = true) : x ∈ ks.map Prod.fst := by
  unfold valK at h
  cases e : ks.find? (fun p => p.1 == x) with
  | none => rw [e] at h; cases h
  | some p =>
    have h1 := List.mem_of_find?_eq_some e
    have h2 := List.find?_some e
    simp only [beq_iff_eq] at h2
    exact List.mem_map.2 ⟨p, h1, h2⟩
theorem mem_valK {ks : List (Int × Int)} {x : Int} (h : x ∈ ks.map Prod.fst) : (valK ks x).isSome = true := by
  obtain ⟨p, hp, rfl⟩ := List.mem_map.1 h
  unfold valK
  cases e : ks.find? (fun q => q.1 == p.1) with
  | none => have := List.find?_eq_none.1 e p hp; simp at this
  | some q => rfl
/-- The keys that have come. -/
structure Got (ks : List (Int × Int)) (left : Lit → Bool) (pre : List Int) : Prop where
  nd : pre.Nodup
  left : ∀ x, left (.int .i64 x) = ((valK ks x).isSome && decide (x ∉ pre))
  mem : ∀ x, x ∈ pre → (valK ks x).isSome = true
theorem Got.start {ks : List (Int × Int)} {D : DataW Unit} (h : KeptD ks D) : Got ks (Maps.has D) [] := ⟨List.nodup_nil, fun x => by rw [h.has]; simp, fun _ h => by cases h⟩
theorem sameKey_int (x y : Int) : (Lit.int .i64 y).sameKey (.int .i64 x) = decide (y = x) := by
  by_cases e : y = x
  · subst e
    simp [Lit.sameKey]
  · rw [sameKey_ne (by intro h; injection h; contradiction)]; simp [e]
theorem Got.step {ks : List (Int × Int)} {left : Lit → Bool} {pre : List Int} (h : Got ks left pre) {x : Int} (hx : left (.int .i64 x) = true) : Got ks (fun z => left z && !z.sameKey (.int .i64 x)) (pre ++ [x]) := by
  rw [h.left, Bool.and_eq_true, decide_eq_true_eq] at hx
  refine ⟨List.nodup_append.2 ⟨h.nd, by simp, fun a ha b hb e => hx.2 (by rw [List.mem_singleton] at hb; rw [← hb, ← e]; exact ha)⟩, fun y => ?_, fun y hy => ?_⟩
  · show (left (.int .i64 y) && !(Lit.int .i64 y).sameKey (.int .i64 x)) = _
    rw [h.left, sameKey_int]
    by_cases e : y = x
    · subst e; simp
    · simp [e]
  · rcases List.mem_append.1 hy with hy | hy
    · exact h.mem y hy
    · rw [List.mem_singleton] at hy; rw [hy]; exact hx.1
theorem Got.done {ks : List (Int × Int)} {left : Lit → Bool} {pre : List Int} (h : Got ks left pre) (hl : ∀ kl, left kl = false) (x : Int) : x ∈ pre ↔ (valK ks x).isSome = true := by
  refine ⟨h.mem x, fun hx => ?_⟩
  have := h.left x
  rw [hl, hx] at this
  simpa using this
set_option maxRecDepth 100000 in
set_option maxHeartbeats 2000000 in
theorem keys_in (l Bm b nn : Nat) (ks : List (Int × Int)) (D : DataW Unit) (J : List Int → World → Prop) (W : World) (hJ : AbidesFrom W.heap.size J)
    (hY : ∀ pre x Y, J pre Y → (valK ks x).isSome = true → -9223372036854775808 ≤ x → x ≤ 9223372036854775807 → pre.length < ks.length → YieldAt Fence.wide 3 Try.prog l #[.int .i64 x] Y fun e Z => e = .returned (.bool true) ∧ J (pre ++ [x]) Z ∧ KeepsWalks Y Z)
    (hm : W.cell? ⟨Bm, 0, none⟩ = some (.map (some b))) (hown : W.ownsMap Try.prog 3 (plainElem Try.prog 22) b nn D) (hD : KeptD ks D) (h0 : J [] W) :
    CallsIn Fence.wide 4 Try.prog 53 #[.func (.yield l) #[] #[], .pointer (some ⟨Bm, 0, none⟩)] W fun e W' => (∃ v, e = .returned v) ∧ ∃ all : List Int, all.Nodup ∧ (∀ x, x ∈ all ↔ (valK ks x).isSome = true) ∧ J all W' := by
  refine callsIn_of_wp Try.func53 rfl trivial ?_ rfl
  simp only [Try.ntmps53, List.size_toArray, List.length_cons, List.length_nil, Nat.reduceAdd, Nat.reduceSub, Array.replicate_succ, Array.replicate_zero, List.push_toArray, List.append_toArray, List.nil_append, List.cons_append]
  gi_wp2_with (first
    | (gi_at_range; refine wpListIn_range_own _ rfl _ 69 rfl 3 22 key_law Try.underlying69 _ b nn _ rfl hown ?_; intro w0 hrg0 hg0 hs0)
    | gi_in)
  go_frame
  gi_loopw [3] (fun _ wr => ∃ (left : Lit → Bool) (cnt : Nat) (pre : List Int), wr.ranges Try.prog 3 (plainElem Try.prog 22) b W.heap.size nn D left cnt ∧ Got ks left pre ∧ J pre wr)
    (fun _ wr => wr.rangeLeft b W.heap.size)
  case atStart => exact ⟨_, _, [], hrg0, Got.start hD, hJ [] W w0 none h0 hg0 (fun r e => by cases e)⟩
  case round =>
    obtain ⟨left, cnt, pre, hrg, hC, hJs⟩ := hrel
    gi_wp2_with (first
      | (gi_at_next; refine wpListIn_next_ranges_ii _ rfl _ rfl 3 22 .i64 .u64 key_law Try.underlying3 Try.underlying22 b W.heap.size nn _ _ _ rfl hrg ?_ ?_)
      | gi_in)
    · intro hc0 hl0
      gi_wp2
      go_end0
      exact ⟨⟨_, rfl⟩, pre, hC.nd, hC.done hl0, hJs⟩
    · intro x c w2 cnt2 hwx hwc hlk hat hrg2 hlt hg2 hs2 hen
      have hJ2 : J pre w2 := hJ pre wr w2 (some W.heap.size) hJs hg2 (fun r e => by cases e; exact ⟨Nat.le_refl _, hrg.iter_walk⟩)
      have hlx := hlk
      rw [hC.left, Bool.and_eq_true, decide_eq_true_eq] at hlx
      have hbx : -9223372036854775808 ≤ x ∧ x ≤ 9223372036854775807 := by
        simp only [Lit.wf, Bool.and_eq_true, decide_eq_true_eq] at hwx; exact hwx
      have hfew : pre.length < ks.length := by
        have h := hC.step hlk
        have := nodup_leI (pre ++ [x]) (ks.map Prod.fst) h.nd fun y hy => valK_mem (h.mem y hy)
        rw [List.length_append, List.length_map] at this
        exact this
      obtain ⟨fn, tmps, assign, body, hy, hR⟩ := hY pre x w2 hJ2 hlx.1 hbx.1 hbx.2 hfew
      clear hs2
      gi_wp2
      refine hR.mono ?_
      rintro e W3 ⟨rfl, hJ3, hk3⟩
      gi_wp2
      have hrg3 := hrg2.of_walks hk3
      go_roundw
      case rel => exact ⟨_, cnt2, pre ++ [x], hrg3, hC.step hlk, hJ3⟩
      case measure => rw [hrg3.left_eq, hrg.left_eq]; exact hlt
end Go.Proofs.Ytcnhgkgabddjmaa
