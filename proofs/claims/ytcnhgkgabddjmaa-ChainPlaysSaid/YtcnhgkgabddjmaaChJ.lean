/-
  Numbers as bytes: what is written.
-/
import Derived.Test.YtcnhgkgabddjmaaChH
import Derived.Test.YtcnhgkgabddjmaaHsA
import Derived.Laws.AppendOwnNone
import Derived.WalkArith
namespace Go.Proofs.Ytcnhgkgabddjmaa
open Go.RowKit Go.Maps

/-- A number's bytes: seven bits a byte, the least first. -/
def sevens (n : Nat) : List Int := if n < 128 then [(n : Int)] else ((n % 128 + 128 : Nat) : Int) :: sevens (n / 128)
termination_by n
decreasing_by omega
theorem sevens_last {n : Nat} (h : n < 128) : sevens n = [(n : Int)] := by rw [sevens, if_pos h]
theorem sevens_more {n : Nat} (h : 128 ≤ n) : sevens n = ((n % 128 + 128 : Nat) : Int) :: sevens (n / 128) := by rw [sevens, if_neg (by omega)]
theorem sevens_len : ∀ (k n : Nat), n < 128 ^ (k + 1) → 1 ≤ (sevens n).length ∧ (sevens n).length ≤ k + 1
  | 0, n, h => by rw [sevens_last (by omega)]; simp
  | k + 1, n, h => by
    by_cases h1 : n < 128
    · rw [sevens_last h1]; simp
    · rw [sevens_more (by omega)]
      have := sevens_len k (n / 128) (by rw [Nat.pow_succ] at h; omega)
      simp only [List.length_cons]
      omega
theorem sevens_len64 {n : Nat} (h : n < 18446744073709551616) : 1 ≤ (sevens n).length ∧ (sevens n).length ≤ 10 := sevens_len 9 n (by omega)
theorem sevens_bd (n : Nat) : ∀ x ∈ sevens n, 0 ≤ x ∧ x < 256 := by
  induction n using Nat.strongRecOn with
  | ind n ih =>
    intro x hx
    by_cases h : n < 128
    · rw [sevens_last h, List.mem_singleton] at hx; omega
    · rw [sevens_more (by omega)] at hx
      rcases List.mem_cons.1 hx with hx | hx
      · omega
      · exact ih (n / 128) (by omega) x hx
theorem or128 : ∀ x : Fin 256, bits .or .u8 (x.val : Int) 128 = ((x.val % 128 + 128 : Nat) : Int) := by decide +kernel

/-- A list of bytes of the call's own, in a block from base on. -/
structure OwnB (w : World) (base : Nat) (v : Value) (n : Nat) (xs : List Int) : Prop where
  len : xs.length = n
  row : w.ownsRow base 5 1 v n (xs.map (Value.int .u8))
  bd : ∀ x ∈ xs, 0 ≤ x ∧ x < 256
theorem OwnB.nil (w : World) (base : Nat) : OwnB w base (.slice none 0 0) 0 [] := ⟨rfl, World.ownsRow_nil w base _ 1, fun _ h => by cases h⟩
theorem OwnB.below {w w' : World} {base : Nat} {v : Value} {n : Nat} {xs : List Int} (h : OwnB w base v n xs) (hb : Below w.heap.size w w') : OwnB w' base v n xs :=
  ⟨h.len, h.row.kept (row := none) ⟨hb.os, hb.tape, hb.output, hb.size, fun i hi _ => hb.block i hi⟩ (by cases hv : v.ownBlock <;> simp), h.bd⟩
theorem OwnB.lt {w : World} {base : Nat} {v : Value} {n : Nat} {xs : List Int} (h : OwnB w base v n xs) {g : Nat} (hg : v.ownBlock = some g) : base ≤ g ∧ g < w.heap.size := h.row.lt g hg
theorem OwnB.base {w : World} {base base' : Nat} {v : Value} {n : Nat} {xs : List Int} (h : OwnB w base v n xs) (hb : base' ≤ base) : OwnB w base' v n xs := by
  refine ⟨h.len, ⟨h.row.1, ?_⟩, h.bd⟩
  rcases h.row.2 with h1 | ⟨g, cap, cur, h1, h2, h3⟩
  · exact .inl h1
  · exact .inr ⟨g, cap, cur, h1, Nat.le_trans hb h2, h3⟩
theorem OwnB.u {w : World} {base : Nat} {v : Value} {n : Nat} {xs : List Int} (h : OwnB w base v n xs) : ∃ p c, v = .slice p n c ∧ n ≤ c ∧ B8 w p n xs ∧ FarP base p ∧ (p = none → c = 0) := by
  rcases h.row.2 with ⟨hv, hn⟩ | ⟨g, cap, cur, hv, hg, hgb, hnc, _, hcs, htake⟩
  · refine ⟨none, 0, by rw [hv, hn], by omega, ?_, fun _ h => (by cases h), fun _ => rfl⟩
    have hx : xs = [] := List.eq_nil_of_length_eq_zero (by rw [h.len, hn])
    rw [hx, hn]; exact ⟨rfl, .nil, fun _ h => by cases h⟩
  · refine ⟨some ⟨g, 0, none⟩, cap, hv, hnc, ⟨h.len, .inr ⟨g, 0, rfl, fun i hi => ?_⟩, h.bd⟩, fun a ha => (by injection ha with ha; rw [← ha]; exact hg), fun h => (by cases h)⟩
    have hi' : i < xs.length := by simpa using hi
    have h2 := h.row
    rw [hv] at h2
    have := h2.cellAt i (by have := h.len; omega)
    simpa [List.getElem?_eq_getElem hi'] using this
theorem byte_info : (Try.prog.info? 5).map (fun i => (i.zero, i.size, i.bytes)) = some (some (.int .u8 0), 1, 1) := by kernel_rfl
/-- append(out, y). -/
theorem app_b {ops : Array Oper} {rest : List Oper} {o : Oper} {a : Act} {Q : Exit → Act → World → Prop} (hgd : o.guard = none) (s x : Operand)
    (ho : o.op = .call { callee := .builtin .append, args := #[s, x], argTypes := #[37, 37] }) {base : Nat} {v : Value} {n : Nat} {xs : List Int} {W : World} {y : Int}
    (hown : OwnB W base v n xs) (hs : a.eval s = v) (hx : a.eval x = .slice (some ⟨W.heap.size, 0, none⟩) 1 1) (hy : 0 ≤ y ∧ y < 256) (hn : n ≤ 8796093022208) (hbase : base ≤ W.heap.size)
    (h : ∀ v' w', OwnB w' base v' (n + 1) (xs ++ [y]) → Below base W w' → (W.alloc (.cells #[.int .u8 y] 5)).grownBy w' v.ownBlock → (v'.ownBlock = v.ownBlock ∨ v'.ownBlock = some (W.heap.size + 1)) → wpList Try.prog ops Q rest (a.put o.dst v') w') :
    wpList Try.prog ops Q (o :: rest) a (W.alloc (.cells #[.int .u8 y] 5)) := by
  obtain ⟨i0, hi, hz0, hz1, hz2⟩ := info_parts byte_info
  have hb0 : Below W.heap.size W (W.alloc (.cells #[.int .u8 y] 5)) := (Below.refl _ _).alloc (Nat.le_refl _) _
  have hown' := hown.below hb0
  refine wpList_append_own_at _ hgd s x 37 ho base 5 i0 (.int .u8 0) 1 1 Try.underlying37 hi hz0 hz1 hz2 rfl (by decide) v n _ hs hown'.row
    ⟨W.heap.size, 0, none⟩ 1 1 [.int .u8 y] hx rfl ?_ (by simp [Value.oneCell']) (by unfold maxLen; omega) (by omega) (by simp; omega) ?_
  · intro j u hj
    cases j with
    | zero =>
      simp only [List.getElem?_cons_zero, Option.some.injEq] at hj
      subst hj
      exact (Arr.new W 5 [.int .u8 y]).cell (i := 0) (by simp)
    | succ j => simp at hj
  · intro v' w' h1 h2 _ h4
    have hb : Below base (W.alloc (.cells #[.int .u8 y] 5)) w' := (Below.refl _ _).grown h2 (by simp; omega) (fun k e => (hown'.row.lt k e).1)
    refine h v' w' ⟨by rw [List.length_append, hown.len]; rfl, by rw [List.map_append]; exact h1, ?_⟩ ((hb0.mono hbase).trans hb) h2 (h4.imp id fun e => by rw [e, World.size_alloc])
    intro z hz
    rcases List.mem_append.1 hz with hz | hz
    · exact hown.bd z hz
    · rw [List.mem_singleton] at hz; subst hz; exact hy
set_option maxRecDepth 100000 in
/-- append(out, ys...). -/
theorem app_bs {ops : Array Oper} {rest : List Oper} {o : Oper} {a : Act} {Q : Exit → Act → World → Prop} (hgd : o.guard = none) (s x : Operand)
    (ho : o.op = .call { callee := .builtin .append, args := #[s, x], argTypes := #[37, 37] }) {base : Nat} {v : Value} {n m c : Nat} {q : Option Addr} {xs ys : List Int} {w : World}
    (hown : OwnB w base v n xs) (hs : a.eval s = v) (hx : a.eval x = .slice q m c) (hY : B8 w q m ys) (hq : q = none → c = 0) (hn : n + m ≤ 8796093022208) (hbase : base ≤ w.heap.size)
    (h : ∀ v' w', OwnB w' base v' (n + m) (xs ++ ys) → Below base w w' → wpList Try.prog ops Q rest (a.put o.dst v') w') :
    wpList Try.prog ops Q (o :: rest) a w := by
  obtain ⟨i0, hi, hz0, hz1, hz2⟩ := info_parts byte_info
  cases q with
  | none =>
    have hm : m = 0 := by
      rcases Nat.eq_zero_or_pos m with h0 | h0
      · exact h0
      · obtain ⟨_, _, he, _⟩ := hY.look h0
        cases he
    subst hm
    have hys : ys = [] := List.eq_nil_of_length_eq_zero hY.len
    rw [hq rfl] at hx
    refine wpList_append_own_none hgd s x 37 ho base 5 i0 1 Try.underlying37 hi v n _ hs hown.row hx ?_
    exact h v w (by rw [hys, List.append_nil]; exact hown) (Below.refl _ _)
  | some ad =>
    refine wpList_append_own _ hgd s x 37 ho base 5 i0 (.int .u8 0) 1 1 Try.underlying37 hi hz0 hz1 hz2 rfl (by decide) v n _ hs hown.row
      ad m c (ys.map (Value.int .u8)) hx (by rw [List.length_map, hY.len]; omega) ?_ ?_ (by unfold maxLen; omega) (by omega) hbase ?_
    · intro j u hj
      rw [List.getElem?_map] at hj
      have hjl : j < ys.length := by
        rcases Nat.lt_or_ge j ys.length with h | h
        · exact h
        · rw [List.getElem?_eq_none h] at hj; cases hj
      rw [List.getElem?_eq_getElem hjl] at hj
      obtain ⟨b, off, he, _, hc, _⟩ := hY.look (i := j) (by rw [← hY.len]; exact hjl)
      injection he with he
      subst he
      simp only [Option.map_some, Option.some.injEq] at hj
      rw [← hj, ← nth_eq hjl, ← hc]
      unfold Addr.add
      by_cases h0 : j = 0
      · subst h0; rfl
      · rw [if_neg h0]
    · intro u hu
      obtain ⟨y, _, rfl⟩ := List.mem_map.1 hu
      rfl
    · intro v' w' h1 h2 _
      have hb : Below base w w' := (Below.refl _ _).grown h2 hbase (fun k e => (hown.row.lt k e).1)
      refine h v' w' ⟨by rw [List.length_append, hown.len, hY.len], by rw [List.map_append]; exact h1, ?_⟩ hb
      intro z hz
      rcases List.mem_append.1 hz with hz | hz
      · exact hown.bd z hz
      · exact hY.bd z hz


/-- Block o is bytes that are written; what lies from lo on, below hi, is another's. -/
def OutX (w : World) (o lo hi : Nat) (xs : List Int) : Prop := ∃ v, w.heap[o]? = some (.cells #[v] 76 (0, 0)) ∧ OwnB w (o + 1) v xs.length xs ∧ ∀ g, v.ownBlock = some g → g < lo ∨ hi ≤ g
/-- What writing leaves as it was. -/
structure Kp (o lo hi : Nat) (w w' : World) : Prop where
  bl : Below o w w'
  mid : ∀ i, lo ≤ i → i < hi → w'.heap[i]? = w.heap[i]?
theorem Kp.refl (o lo hi : Nat) (w : World) : Kp o lo hi w w := ⟨Below.refl _ _, fun _ _ _ => rfl⟩
theorem Kp.trans {o lo hi : Nat} {w v u : World} (h : Kp o lo hi w v) (k : Kp o lo hi v u) : Kp o lo hi w u := ⟨h.bl.trans k.bl, fun i h1 h2 => (k.mid i h1 h2).trans (h.mid i h1 h2)⟩
theorem Kp.of_below {o lo hi : Nat} {w w' : World} (h : Below w.heap.size w w') (ho : o ≤ w.heap.size) (hh : hi ≤ w.heap.size) : Kp o lo hi w w' := ⟨h.mono ho, fun i _ h2 => h.block i (by omega)⟩
theorem OutX.lt {w : World} {o lo hi : Nat} {xs : List Int} (h : OutX w o lo hi xs) : o < w.heap.size := by obtain ⟨v, h, _⟩ := h; exact (Array.getElem?_eq_some_iff.1 h).1
theorem OutX.below {w w' : World} {o lo hi : Nat} {xs : List Int} (h : OutX w o lo hi xs) (hb : Below w.heap.size w w') : OutX w' o lo hi xs := by
  have hl := h.lt
  obtain ⟨v, h1, h2, h3⟩ := h
  exact ⟨v, (hb.block o hl).trans h1, h2.below hb, h3⟩
/-- What is made later is another's. -/
theorem OutX.turn {w : World} {o lo hi lo' hi' : Nat} {xs : List Int} (h : OutX w o lo hi xs) (hl : w.heap.size ≤ lo') : OutX w o lo' hi' xs := by
  obtain ⟨v, h1, h2, h3⟩ := h
  exact ⟨v, h1, h2, fun g hg => .inl (by have := (h2.lt hg).2; omega)⟩
theorem OutX.put {W w1 : World} {o lo hi n : Nat} {v v' : Value} {ys : List Int} {ob : Obj} (hb : W.heap[o]? = some (.cells #[v] 76 (0, 0))) (hv : ∀ g, v.ownBlock = some g → g < lo ∨ hi ≤ g) (hol : o < lo) (hih : hi ≤ W.heap.size)
    (hown : OwnB w1 (o + 1) v' n ys) (hB : Below (o + 1) W w1) (hg : (W.alloc ob).grownBy w1 v.ownBlock) (hv' : v'.ownBlock = v.ownBlock ∨ v'.ownBlock = some (W.heap.size + 1)) :
    w1.cell? ⟨o, 0, none⟩ = some v ∧ w1.frozen? ⟨o, 0, none⟩ = false ∧ OutX (w1.setCell ⟨o, 0, none⟩ v') o lo hi ys ∧ Kp o lo hi W (w1.setCell ⟨o, 0, none⟩ v') := by
  have h1 : w1.heap[o]? = some (.cells #[v] 76 (0, 0)) := (hB.block o (by omega)).trans hb
  have hl := (Array.getElem?_eq_some_iff.1 h1).1
  refine ⟨cell_of_one h1, free_of_one h1, ⟨v', ?_, ?_, fun g hg' => ?_⟩, (hB.mono (by omega)).grown (grown_cell w1 o 0 v') (by omega) fun k e => (by injection e with e; omega), fun i hi1 hi2 => ?_⟩
  · show (w1.heap.modify o _)[o]? = _
    rw [Array.getElem?_modify, if_pos rfl, h1]; rfl
  · have hlen := hown.len
    rw [hlen]
    exact ⟨hlen, hown.row.kept (grown_cell w1 o 0 v') (.inr fun e => by have := (hown.lt e).1; omega), hown.bd⟩
  · rcases hv' with e | e
    · exact hv g (e.symm.trans hg')
    · rw [e] at hg'; injection hg' with hg'; omega
  · rw [Below.heap_setCell _ _ _ i (by show i ≠ o; omega), hg.block i (by simp; omega) (fun e => by rcases hv i e.symm with h | h <;> omega), Below.heap_alloc _ _ _ (by omega)]
set_option maxRecDepth 100000 in
set_option maxHeartbeats 1000000 in
theorem Num_any (o lo hi n : Nat) (xs : List Int) (w : World) (hO : OutX w o lo hi xs) (hol : o < lo) (hih : hi ≤ w.heap.size) (hx : xs.length ≤ 1000000) (hn : n < 18446744073709551616) :
    Calls Try.prog 36 #[.pointer (some ⟨o, 0, none⟩), .int .u64 n] w fun e w' => e = .returned (.tuple #[]) ∧ OutX w' o lo hi (xs ++ sevens n) ∧ Kp o lo hi w w' := by
  have hlo := hO.lt
  go_enter Try.func36, Try.ntmps36
  go_wp2_with fail
  go_loopw [1] (fun i wr => ∃ (m : Nat) (ys : List Int), i = .int .u64 m ∧ m < 18446744073709551616 ∧ Hid (ys ++ sevens m = xs ++ sevens n) ∧ OutX wr o lo hi ys ∧ Kp o lo hi w wr) (fun i _ => (intOf i).toNat)
  case atStart => exact ⟨n, xs, rfl, hn, Lib.hid rfl, hO, Kp.refl _ _ _ _⟩
  case round =>
    clear hO
    obtain ⟨m, ys, rfl, hm, he, hOy, hb⟩ := hrel
    have hsz : o + 1 ≤ wr.heap.size := hOy.lt
    obtain ⟨v, hblk, hown, hvb⟩ := hOy
    have hih2 : hi ≤ wr.heap.size := Nat.le_trans hih hb.bl.size
    replace hvb := Lib.hid hvb
    have hys : ys.length ≤ 2000000 := by
      have h1 := congrArg List.length he.out
      rw [List.length_append, List.length_append] at h1
      have := (sevens_len64 hn).2
      omega
    obtain ⟨p, c, rfl, _⟩ := hown.u
    have hc0 := cell_of_one hblk
    by_cases hge : 128 ≤ m
    · obtain ⟨r, hr⟩ : ∃ r, IntKind.u8.wrap (m : Int) = r := ⟨_, rfl⟩
      obtain ⟨y, hy⟩ : ∃ y, bits .or .u8 r 128 = y := ⟨_, rfl⟩
      obtain ⟨q, hq⟩ : ∃ q : Nat, (m : Int) / 128 = (q : Int) := ⟨m / 128, by omega⟩
      have hry : Hid (y = ((m % 128 + 128 : Nat) : Int)) := Lib.hid (by
        have h1 : IntKind.u8.wrap (m : Int) = ((m % 256 : Nat) : Int) := by rw [IntKind.wrap_u8]; omega
        rw [← hy, ← hr, h1]
        have := or128 ⟨m % 256, Nat.mod_lt _ (by omega)⟩
        rw [this]
        simp only
        omega)
      have hyb : 0 ≤ y ∧ y < 256 := by rw [hry.out]; omega
      have hqm : Hid (q = m / 128) := Lib.hid (by omega)
      go_wp2_with (at_builtin; refine app_b (y := y) rfl _ _ rfl hown rfl rfl hyb (by omega) hsz ?_; intro v' w1 hown1 hb1 hgr hvo; obtain ⟨p1, cp1, rfl, _⟩ := hown1.u; obtain ⟨hc1, hf1, hO1, hbn⟩ := OutX.put hblk hvb.out hol hih2 hown1 hb1 hgr hvo; clear hgr hvo)
      go_roundw
      case rel =>
        refine ⟨q, ys ++ [y], by go_num, by have := hqm.out; omega, Lib.hid ?_, hO1, hb.trans hbn⟩
        rw [← he.out, sevens_more hge, hry.out, hqm.out, List.append_assoc]
        rfl
      case measure => have := hqm.out; simp [intOf]; omega
    · have hw1 : IntKind.u8.wrap (m : Int) = (m : Int) := by rw [IntKind.wrap_u8]; omega
      have hmb : 0 ≤ (m : Int) ∧ (m : Int) < 256 := by omega
      go_wp2_with (at_builtin; refine app_b (y := (m : Int)) rfl _ _ rfl hown rfl rfl hmb (by omega) hsz ?_; intro v' w1 hown1 hb1 hgr hvo; obtain ⟨p1, cp1, rfl, _⟩ := hown1.u; obtain ⟨hc1, hf1, hO1, hbn⟩ := OutX.put hblk hvb.out hol hih2 hown1 hb1 hgr hvo; clear hgr hvo)
      go_returns
      refine ⟨rfl, ?_, hb.trans hbn⟩
      rw [← he.out, sevens_last (by omega)]
      exact hO1
theorem xor0 (x : Int) (h0 : 0 ≤ x) (h1 : x < 18446744073709551616) : bits .xor .u64 x 0 = x := by
  show IntKind.u64.wrap (((BitVec.ofInt 64 x) ^^^ (BitVec.ofInt 64 0)).toNat : Int) = x
  rw [show BitVec.ofInt 64 0 = 0#64 from rfl, BitVec.xor_zero, BitVec.toNat_ofInt, IntKind.wrap_u64]
  omega
set_option maxRecDepth 100000 in
theorem fold_any (n : Nat) (w : World) (h1 : n ≤ 1152921504606846976) :
    Calls Try.prog 50 #[.int .i64 n] w fun e w' => e = .returned (.int .u64 ((2 * n : Nat) : Int)) ∧ w = w' := by
  have e1 : (n : Int) / 9223372036854775808 = 0 := by omega
  have hx : Hid (bits .xor .u64 ((n : Int) * 2) 0 = ((2 * n : Nat) : Int)) := Lib.hid (by rw [xor0 _ (by omega) (by omega)]; omega)
  go_enter Try.func50, Try.ntmps50
  go_wp2
  go_ret
  exact ⟨ret_int hx.out, rfl⟩
set_option maxRecDepth 100000 in
theorem OInt_any (o lo hi n : Nat) (xs : List Int) (w : World) (hO : OutX w o lo hi xs) (hol : o < lo) (hih : hi ≤ w.heap.size) (hx : xs.length ≤ 1000000) (hn : n ≤ 1152921504606846976) :
    Calls Try.prog 35 #[.pointer (some ⟨o, 0, none⟩), .int .i64 n] w fun e w' => e = .returned (.tuple #[]) ∧ OutX w' o lo hi (xs ++ sevens (2 * n)) ∧ Kp o lo hi w w' := by
  go_enter Try.func35, Try.ntmps35
  go_wp2_with fail
  refine (fold_any n w hn).mono ?_
  rintro e w1 ⟨rfl, rfl⟩
  go_wp2_with fail
  refine (Num_any o lo hi (2 * n) xs _ hO hol hih hx (by omega)).mono ?_
  rintro e w2 ⟨rfl, hO2, hb2⟩
  go_wp2_with fail
  go_returns
  exact ⟨rfl, hO2, hb2⟩
set_option maxRecDepth 100000 in
theorem Bytes_any (o lo hi : Nat) (xs : List Int) (w : World) (hO : OutX w o lo hi xs) (hx : xs.length ≤ 1000000) :
    Calls Try.prog 37 #[.pointer (some ⟨o, 0, none⟩)] w fun e w' => ∃ p c, e = .returned (.slice p xs.length c) ∧ xs.length ≤ c ∧ B8 w' p xs.length xs ∧ FarP w.heap.size p ∧ (p = none → c = 0) ∧ Below w.heap.size w w' := by
  obtain ⟨v, hblk, hown, _⟩ := hO
  obtain ⟨p, c, rfl, hc, hB, _, hp⟩ := hown.u
  have hc0 := cell_of_one hblk
  go_enter Try.func37, Try.ntmps37
  go_wp2_with (at_builtin; refine app_bs rfl _ _ rfl (OwnB.nil w w.heap.size) rfl rfl hB hp (by omega) (Nat.le_refl _) ?_; intro v' w1 hown1 hb1; rw [Nat.zero_add, List.nil_append] at hown1; obtain ⟨p1, c1, rfl, hc1, hB1, hf1, hp1⟩ := hown1.u)
  go_ret
  exact ⟨_, _, rfl, hc1, hB1, hf1, hp1, hb1⟩
set_option maxRecDepth 100000 in
theorem SameBytes_yes (p q : Option Addr) (n : Nat) (xs : List Int) (c d : Nat) (w : World) (hX : B8 w p n xs) (hY : B8 w q n xs) (hn : n ≤ 9223372036854775806) :
    Calls Try.prog 17 #[.slice p n c, .slice q n d] w fun e w' => e = .returned (.bool true) ∧ Below w.heap.size w w' := by
  have hne : ((n : Int) != n) = false := bne_self_eq_false _
  go_enter Try.func17, Try.ntmps17
  go_wp2
  go_loopw [5] (fun i wr => ∃ k : Nat, k ≤ n ∧ i = .int .i64 k ∧ Below w.heap.size w wr)
    (fun i _ => n - (intOf i).toNat)
  case atStart => exact ⟨0, Nat.zero_le _, rfl, Below.refl _ _⟩
  case round =>
    obtain ⟨k, hk, rfl, hb⟩ := hrel
    by_cases hlt : k < n
    · obtain ⟨b, off, rfl, _, hc1, _⟩ := (hX.below hb).look hlt
      obtain ⟨b', off', rfl, _, hc2, _⟩ := (hY.below hb).look hlt
      have t1 : (nth xs k != nth xs k) = false := bne_self_eq_false _
      have hix1 : (0 : Int) ≤ (k : Int) := by omega
      have hix2 : (k : Int) < (n : Int) := by omega
      go_wp2_with fail
      refine wp_region_still_lit (by kernel_rfl) (by kernel_rfl) ?_
      repeat still_step
      refine wpStill_nil ?_
      change Exit.then _ _ _ _ wr.drew
      clear hix1 hix2
      go_wp2
      go_roundw
      case rel => exact ⟨k + 1, by omega, by go_num, hb.drew⟩
      case measure => simp [intOf]; omega
    · go_wp2
      go_ret
      exact ⟨rfl, hb⟩
end Go.Proofs.Ytcnhgkgabddjmaa
