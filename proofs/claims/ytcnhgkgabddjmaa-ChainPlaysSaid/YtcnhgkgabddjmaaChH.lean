/-
  Chains of keys (9): lists of one's own beside a chain.
-/
import Derived.Test.YtcnhgkgabddjmaaChG
import Derived.Test.YtcnhgkgabddjmaaChI
namespace Go.Proofs.Ytcnhgkgabddjmaa
open Go.RowKit Go.Maps

/-- A list of signed numbers of the call's own, in a block from base on. -/
structure OwnI (w : World) (base : Nat) (v : Value) (n : Nat) (xs : List Int) : Prop where
  len : xs.length = n
  row : w.ownsRow base 3 1 v n (xs.map (Value.int .i64))
  bd : ∀ x ∈ xs, -9223372036854775808 ≤ x ∧ x ≤ 9223372036854775807
theorem OwnI.nil (w : World) (base : Nat) : OwnI w base (.slice none 0 0) 0 [] := ⟨rfl, World.ownsRow_nil w base _ 1, fun _ h => by cases h⟩
theorem OwnI.below {w w' : World} {base : Nat} {v : Value} {n : Nat} {xs : List Int} (h : OwnI w base v n xs) (hb : Below w.heap.size w w') : OwnI w' base v n xs :=
  ⟨h.len, h.row.kept (row := none) ⟨hb.os, hb.tape, hb.output, hb.size, fun i hi _ => hb.block i hi⟩ (by cases hv : v.ownBlock <;> simp), h.bd⟩
theorem OwnI.far {w w' : World} {base : Nat} {v : Value} {n : Nat} {xs : List Int} (h : OwnI w base v n xs) {row : Option Nat} (hg : w.grownBy w' row) (hne : v.ownBlock = none ∨ v.ownBlock ≠ row) : OwnI w' base v n xs :=
  ⟨h.len, h.row.kept hg hne, h.bd⟩
theorem OwnI.lt {w : World} {base : Nat} {v : Value} {n : Nat} {xs : List Int} (h : OwnI w base v n xs) {g : Nat} (hg : v.ownBlock = some g) : base ≤ g ∧ g < w.heap.size := h.row.lt g hg
theorem OwnI.u {w : World} {base : Nat} {v : Value} {n : Nat} {xs : List Int} (h : OwnI w base v n xs) : ∃ p c, v = .slice p n c ∧ n ≤ c ∧ UI w p n xs ∧ FarP base p := by
  rcases h.row.2 with ⟨hv, hn⟩ | ⟨g, cap, cur, hv, hg, hgb, hnc, _, hcs, htake⟩
  · refine ⟨none, 0, by rw [hv, hn], by omega, ?_, fun _ h => by cases h⟩
    have hx : xs = [] := List.eq_nil_of_length_eq_zero (by rw [h.len, hn])
    rw [hx, hn]; exact ⟨rfl, .nil, fun _ h => by cases h⟩
  · refine ⟨some ⟨g, 0, none⟩, cap, hv, hnc, ?_, fun a ha => by injection ha with ha; rw [← ha]; exact hg⟩
    have := h.row
    rw [hv] at this
    exact ui_of_row this h.bd
theorem Own.uf {w : World} {base : Nat} {v : Value} {n : Nat} {xs : List Int} (h : Own w base v n xs) : ∃ p c, v = .slice p n c ∧ n ≤ c ∧ U w p n xs ∧ FarP base p := by
  obtain ⟨p, c, hv, hc, hU⟩ := h.u
  refine ⟨p, c, hv, hc, hU, fun a ha => ?_⟩
  have := h.row.lt a.block (by rw [hv, ha]; rfl)
  exact this.1
/-- What is owned, through what turns a chain alone that lies below. -/
theorem ownsRow_two {w w' : World} {c b base : Nat} {t : TypeId} {v : Value} {n : Nat} {xs : List Value} (h : w.ownsRow base t 1 v n xs) (hT : Two w w' c b) (hc : c < base) (hb : b < base) : w'.ownsRow base t 1 v n xs := by
  refine ⟨h.1, ?_⟩
  rcases h.2 with h1 | ⟨g, cap, cur, hv, hg, hgb, h2⟩
  · exact .inl h1
  · exact .inr ⟨g, cap, cur, hv, hg, (hT.blk g (Array.getElem?_eq_some_iff.1 hgb).1 (by omega) (by omega)).trans hgb, h2⟩
theorem Own.two {w w' : World} {c b base : Nat} {v : Value} {n : Nat} {xs : List Int} (h : Own w base v n xs) (hT : Two w w' c b) (hc : c < base) (hb : b < base) : Own w' base v n xs := ⟨h.len, ownsRow_two h.row hT hc hb, h.bd⟩
theorem OwnI.two {w w' : World} {c b base : Nat} {v : Value} {n : Nat} {xs : List Int} (h : OwnI w base v n xs) (hT : Two w w' c b) (hc : c < base) (hb : b < base) : OwnI w' base v n xs := ⟨h.len, ownsRow_two h.row hT hc hb, h.bd⟩
theorem ChAt.belowB {w w' : World} {c b base : Nat} {m : Ch} (h : ChAt w c b m) (hB : Below base w w') (hc : c < base) (hb : b < base) : ChAt w' c b m :=
  ⟨(hB.block c hc).trans h.blk, h.map.same (hB.block b hb)⟩
theorem Two.belowB {w w' w'' : World} {c b : Nat} (h : Two w w' c b) (hB : Below w.heap.size w' w'') : Two w w'' c b :=
  ⟨hB.os.trans h.os, hB.tape.trans h.tape, hB.output.trans h.out, Nat.le_trans h.size hB.size, fun i hi h1 h2 => (hB.block i hi).trans (h.blk i hi h1 h2)⟩
theorem Two.below0 {w0 w w' : World} {c b : Nat} (h0 : Below w0.heap.size w0 w) (h : Two w w' c b) (hc : w0.heap.size ≤ c) (hb : w0.heap.size ≤ b) : Below w0.heap.size w0 w' := h0.trans (h.below hc hb h0.size)

/-- append(had, y). -/
theorem app_i {ops : Array Oper} {rest : List Oper} {o : Oper} {a : Act} {Q : Exit → Act → World → Prop} (hgd : o.guard = none) (s x : Operand)
    (ho : o.op = .call { callee := .builtin .append, args := #[s, x], argTypes := #[23, 23] }) {base : Nat} {v : Value} {n : Nat} {xs : List Int} {W : World} {y : Int}
    (hown : OwnI W base v n xs) (hs : a.eval s = v) (hx : a.eval x = .slice (some ⟨W.heap.size, 0, none⟩) 1 1) (hy : -9223372036854775808 ≤ y ∧ y ≤ 9223372036854775807) (hn : n ≤ 8796093022208) (hbase : base ≤ W.heap.size)
    (h : ∀ v' w', OwnI w' base v' (n + 1) (xs ++ [y]) → Below base W w' → wpList Try.prog ops Q rest (a.put o.dst v') w') :
    wpList Try.prog ops Q (o :: rest) a (W.alloc (.cells #[.int .i64 y] 3)) := by
  obtain ⟨i0, hi, hz0, hz1, hz2⟩ := info_parts int_info
  have hb0 : Below W.heap.size W (W.alloc (.cells #[.int .i64 y] 3)) := (Below.refl _ _).alloc (Nat.le_refl _) _
  have hown' := hown.below hb0
  refine wpList_append_own _ hgd s x 23 ho base 3 i0 (.int .i64 0) 1 8 Try.underlying23 hi hz0 hz1 hz2 rfl (by decide) v n _ hs hown'.row
    ⟨W.heap.size, 0, none⟩ 1 1 [.int .i64 y] hx rfl ?_ (by simp [Value.oneCell']) (by unfold maxLen; omega) (by omega) (by simp; omega) ?_
  · intro j u hj
    cases j with
    | zero =>
      simp only [List.getElem?_cons_zero, Option.some.injEq] at hj
      subst hj
      exact (Arr.new W 3 [.int .i64 y]).cell (i := 0) (by simp)
    | succ j => simp at hj
  · intro v' w' h1 h2 _
    have hb : Below base (W.alloc (.cells #[.int .i64 y] 3)) w' := (Below.refl _ _).grown h2 (by simp; omega) (fun k e => (hown'.row.lt k e).1)
    refine h v' w' ⟨by rw [List.length_append, hown.len]; rfl, by rw [List.map_append]; exact h1, ?_⟩ ((hb0.mono hbase).trans hb)
    intro z hz
    rcases List.mem_append.1 hz with hz | hz
    · exact hown.bd z hz
    · rw [List.mem_singleton] at hz; subst hz; exact hy
theorem Next_as (c b : Nat) (m : Ch) (w : World) (hC : ChAt w c b m) (hn : m.num ≤ 4611686018427387904) (h0 : 0 ≤ m.st) (h1 : m.st < 18446744073709551616) (m' : Ch) (x k : Int) (he : m.next = (m', x, k)) :
    Calls Try.prog 13 #[.pointer (some ⟨c, 0, none⟩)] w fun e w' => e = .returned (.tuple #[.int .i64 x, .int .u64 k]) ∧ ChAt w' c b m' ∧ Two w w' c b := by
  have h := Next_any c b m w hC hn h0 h1
  rw [he] at h
  exact h
/-- The first keys. -/
def keysL (s : Int) (n : Nat) : List Int := (List.range n).map (keyN s)
theorem keysL_succ (s : Int) (n : Nat) : keysL s (n + 1) = keysL s n ++ [keyN s n] := by unfold keysL; rw [List.range_succ, List.map_append]; rfl
theorem nth_keysL (s : Int) {n k : Nat} (h : k < n) : nth (keysL s n) k = keyN s k := by
  unfold keysL nth
  rw [List.getD_eq_getElem?_getD, List.getElem?_map, List.getElem?_range h]; rfl
theorem sendN_st (s : Int) (hs : 1 ≤ s ∧ s ≤ 2305843009213693949) (k : Nat) : 0 ≤ (sendN s k).st ∧ (sendN s k).st < 18446744073709551616 := by
  rcases (sendN_ok hs k).st with h | h <;> omega
theorem ret_bool {a b : Bool} (h : a = b) : Ending.returned (.bool a) = .returned (.bool b) := by rw [h]
set_option maxRecDepth 100000 in
theorem Has_any (p : Option Addr) (n : Nat) (xs : List Int) (c : Nat) (x : Int) (w : World) (hU : UI w p n xs) (hn : n ≤ 9223372036854775806) (r : Bool) (hr : Hid (r = xs.contains x)) :
    Calls Try.prog 15 #[.slice p n c, .int .i64 x] w fun e w' => e = .returned (.bool r) ∧ w = w' := by
  have hX := Lib.hid hU.len
  go_enter Try.func15, Try.ntmps15
  go_wp2
  go_loopw [5] (fun i wr => ∃ k : Nat, k ≤ n ∧ i = .int .i64 k ∧ Hid (∀ j, j < k → nth xs j ≠ x) ∧ w = wr)
    (fun i _ => n - (intOf i).toNat)
  case atStart => exact ⟨0, Nat.zero_le _, rfl, Lib.hid (fun j hj => absurd hj (by omega)), rfl⟩
  case round =>
    obtain ⟨k, hk, rfl, hno, rfl⟩ := hrel
    by_cases hlt : k < n
    · obtain ⟨b, off, rfl, _, hc, _⟩ := hU.look hlt
      by_cases he : nth xs k = x
      · have he' : (nth xs k == x) = true := by rw [beq_iff_eq]; exact he
        have hfin : Hid (xs.contains x = true) := Lib.hid (by rw [List.contains_iff_mem, ← he]; exact nth_mem (by rw [hX.out]; exact hlt))
        clear he
        go_wp2
        go_ret
        exact ⟨ret_bool (by rw [hr.out, hfin.out]), rfl⟩
      · have he' : (nth xs k == x) = false := beq_eq_false_iff_ne.2 he
        have hno' : Hid (∀ j, j < k + 1 → nth xs j ≠ x) := Lib.hid (fun j hj => by
          by_cases hjk : j = k
          · subst hjk; exact he
          · exact hno.out j (by omega))
        clear he hno
        go_wp2
        go_roundw
        case rel => exact ⟨k + 1, by omega, by go_num, hno', trivial⟩
        case measure => simp [intOf]; omega
    · have hfin : Hid (xs.contains x = false) := Lib.hid (by
        rw [List.contains_eq_mem, decide_eq_false_iff_not]
        intro hm
        obtain ⟨j, hj, hjx⟩ := List.getElem_of_mem hm
        exact hno.out j (by rw [hX.out] at hj; omega) (by rw [nth_eq hj]; exact hjx))
      clear hno
      go_wp2
      go_ret
      exact ⟨ret_bool (by rw [hr.out, hfin.out]), rfl⟩
end Go.Proofs.Ytcnhgkgabddjmaa
