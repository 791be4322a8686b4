/-
  Shares (8): what shares tell, by the reference.
-/
import Derived.Test.YtpngkdhfjginlaaShG
import Derived.Maps.AppendAt
namespace Go.Proofs.Ytpngkdhfjginlaa
open Go.RowKit
attribute [local go_sem] T_V

/-- append(out, y) beside another list of the call's own. -/
theorem app_two {ops : Array Oper} {rest : List Oper} {o : Oper} {a : Act} {Q : Exit → Act → World → Prop} (hgd : o.guard = none) (s x : Operand)
    (ho : o.op = .call { callee := .builtin .append, args := #[s, x], argTypes := #[23, 23] }) {base : Nat} {v yv : Value} {n m : Nat} {xs ys : List Int} {W : World} {y : Int}
    (hown : Own W base v n xs) (hY : Own W base yv m ys) (hsep : ∀ g, v.ownBlock = some g → yv.ownBlock ≠ some g) (hs : a.eval s = v) (hx : a.eval x = .slice (some ⟨W.heap.size, 0, none⟩) 1 1) (hy : 0 ≤ y ∧ y < 18446744073709551616) (hn : n ≤ 8796093022208) (hbase : base ≤ W.heap.size)
    (h : ∀ v' w', Own w' base v' (n + 1) (xs ++ [y]) → Own w' base yv m ys → (∀ g, v'.ownBlock = some g → yv.ownBlock ≠ some g) → Below base W w' → wpList Try.prog ops Q rest (a.put o.dst v') w') :
    wpList Try.prog ops Q (o :: rest) a (W.alloc (.cells #[.int .u64 y] 22)) := by
  obtain ⟨i0, hi, hz0, hz1, hz2⟩ := info_parts u64_info
  have hb0 : Below W.heap.size W (W.alloc (.cells #[.int .u64 y] 22)) := (Below.refl _ _).alloc (Nat.le_refl _) _
  have hown' := hown.below hb0
  have hY' := hY.below hb0
  refine wpList_append_own_at _ hgd s x 23 ho base 22 i0 (.int .u64 0) 1 8 Try.underlying23 hi hz0 hz1 hz2 rfl (by decide) v n _ hs hown'.row
    ⟨W.heap.size, 0, none⟩ 1 1 [.int .u64 y] hx rfl ?_ (by simp [Value.oneCell']) (by unfold maxLen; omega) (by omega) (by simp; omega) ?_
  · intro j u hj
    cases j with
    | zero =>
      simp only [List.getElem?_cons_zero, Option.some.injEq] at hj
      subst hj
      exact (Arr.new W 22 [.int .u64 y]).cell (i := 0) (by simp)
    | succ j => simp at hj
  · intro v' w' h1 h2 _ h4
    have hb : Below base (W.alloc (.cells #[.int .u64 y] 22)) w' := (Below.refl _ _).grown h2 (by simp; omega) (fun k e => (hown'.row.lt k e).1)
    have hfar : yv.ownBlock = none ∨ yv.ownBlock ≠ v.ownBlock := by
      cases h7 : yv.ownBlock with
      | none => exact .inl rfl
      | some g => exact .inr fun e => hsep g e.symm h7
    refine h v' w' ⟨by rw [List.length_append, hown.len]; rfl, by rw [List.map_append]; exact h1, ?_⟩ (hY'.far h2 hfar) ?_ ((hb0.mono hbase).trans hb)
    · intro z hz
      rcases List.mem_append.1 hz with hz | hz
      · exact hown.bd z hz
      · rw [List.mem_singleton] at hz; subst hz; exact hy
    · intro g hg hgy
      rcases h4 with h4 | h4
      · exact hsep g (h4.symm.trans hg) hgy
      · have := (hY.lt hgy).2
        rw [h4] at hg
        injection hg with hg
        simp at hg
        omega

theorem rEvalF (p : Option Addr) (n : Nat) (fs : List F) (c : Nat) (x : Int) (w : World) (hU : U w p n (fs.map V)) (hn : n ≤ 9223372036854775807) (hx0 : 0 ≤ x) (hx1 : x < 18446744073709551616) :
    Calls Try.prog 26 #[.slice p n c, .int .u64 x] w fun e w' => e = .returned (.int .u64 (V (ev fs (T x)))) ∧ Below w.heap.size w w' := by
  have h := rEval_any p n (fs.map V) c x w hU hn hx0 hx1
  rwa [map_TV] at h

set_option maxRecDepth 100000 in
set_option maxHeartbeats 1000000 in
theorem rAt_ok (p : Option Addr) (n : Nat) (l : List (Int × Int)) (c : Nat) (x : Int) (w : World) (hL : Sh w p n l) (hn : n ≤ 1000000) (hn0 : 0 < n) (hap : apartB l = true) (hx0 : 0 ≤ x) (hx1 : x < 18446744073709551616) :
    Calls Try.prog 17 #[.slice p n c, .int .u64 x] w fun e w' => ∃ fs, e = .returned (.tuple #[.int .u64 (V (ev fs (T x))), .int .i64 0]) ∧ FromOk (plc l) ((vals l).map T) fs ∧ Below w.heap.size w w' := by
  have hl := Lib.hid hL.len
  have hr := Lib.hid (show (0 : Int) = if apartB l = true then 0 else 29 by rw [hap]; rfl)
  go_enter Try.func17, Try.ntmps17
  go_wp2_with fail
  refine (rWrong_any p n l c w hL hn hn0 0 hr).mono ?_
  rintro e w1 ⟨rfl, hb1⟩
  clear hr
  go_wp2
  go_loopw [7, 8, 9] (fun xv yv i wr => ∃ k : Nat, k ≤ n ∧ i = .int .i64 k ∧ Own wr w1.heap.size xv k ((plcI l).take k) ∧ Own wr w1.heap.size yv k ((vals l).take k) ∧ (∀ g, xv.ownBlock = some g → yv.ownBlock ≠ some g) ∧ Below w1.heap.size w1 wr)
    (fun _ _ i _ => n - (intOf i).toNat)
  case atStart => exact ⟨0, Nat.zero_le _, rfl, Own.nil _ _, Own.nil _ _, by simp [Value.ownBlock], Below.refl _ _⟩
  case round =>
    obtain ⟨k, hk, rfl, hX, hY, hsep, hb⟩ := hrel
    by_cases hlt : k < n
    · obtain ⟨b, off, rfl, _, hw1, hw2⟩ := (hL.below hb1).look hlt
      have hc1 := (hb.cell (cell_lt hw1)).trans hw1
      obtain ⟨hs1, hs2⟩ := hL.look_bd hlt
      have hst1 := Lib.hid (plcI_take l k (by rw [hl.out]; exact hlt))
      have hst2 := Lib.hid (vals_take l k (by rw [hl.out]; exact hlt))
      go_wp2_with (first
        | (at_builtin; refine app_two rfl _ _ rfl hX hY hsep rfl rfl hs1 (by omega) hb.size ?_; intro v1 wA hX1 hY1 hsep1 hbA
           have hc2 := ((hb.trans hbA).cell (cell_lt hw2)).trans hw2)
        | (at_builtin; refine app_two rfl _ _ rfl hY1 hX1 (fun g h1 h2 => hsep1 g h2 h1) rfl rfl hs2 (by omega) (hb.trans hbA).size ?_; intro v2 wB hY2 hX2 hsep2 hbB))
      go_roundw
      case rel => exact ⟨k + 1, by omega, by go_num, by rw [hst1.out]; exact hX2, by rw [hst2.out]; exact hY2, fun g h1 h2 => hsep2 g h2 h1, (hb.trans hbA).trans hbB⟩
      case measure => simp [intOf]; omega
    · obtain rfl : k = n := by omega
      rw [List.take_of_length_le (by rw [plcI_length, hl.out]; exact Nat.le_refl _)] at hX
      rw [List.take_of_length_le (by rw [vals_length, hl.out]; exact Nat.le_refl _)] at hY
      obtain ⟨px, cx, rfl, _, hXu⟩ := hX.u
      obtain ⟨py, cy, rfl, _, hYu⟩ := hY.u
      clear hX hY hsep
      go_wp2_with fail
      refine (rFrom_any px py k (plcI l) (vals l) cx cy _ hXu hYu (by omega)).mono ?_
      rintro e w2 ⟨v, rfl, ⟨fs, ⟨pf, nf, cf, rfl, _, hF⟩, hok⟩, hb2⟩
      rw [plc_I] at hok
      go_wp2_with fail
      refine (rEvalF pf nf fs cf x _ hF ?_ hx0 hx1).mono ?_
      · have h := hok.len
        have h2 := Fs.len hF
        rw [plc_length, hl.out] at h
        by_cases hd : (plc l).Nodup
        · have := h hd; omega
        · have := hok.no hd; rw [this] at h2; simp at h2; omega
      rintro e w3 ⟨rfl, hb3⟩
      go_wp2_with fail
      go_ret2
      exact ⟨fs, rfl, hok, (hb1.trans (hb.mono hb1.size)).trans ((hb2.trans (hb3.mono hb2.size)).mono (Nat.le_trans hb1.size hb.size))⟩

set_option maxRecDepth 100000 in
theorem rAt_bad (p : Option Addr) (n : Nat) (l : List (Int × Int)) (c : Nat) (x : Int) (w : World) (hL : Sh w p n l) (hn : n ≤ 1000000) (hbad : n = 0 ∨ apartB l = false) :
    Calls Try.prog 17 #[.slice p n c, .int .u64 x] w fun e w' => e = .returned (.tuple #[.int .u64 0, .int .i64 29]) ∧ Below w.heap.size w w' := by
  have hW : Calls Try.prog 28 #[.slice p n c] w fun e w' => e = .returned (.int .i64 29) ∧ Below w.heap.size w w' := by
    by_cases h0 : n = 0
    · subst h0; exact rWrong_none p c w
    · exact rWrong_any p n l c w hL hn (by omega) 29 (Lib.hid (by rw [hbad.resolve_left h0]; rfl))
  clear hbad
  go_enter Try.func17, Try.ntmps17
  go_wp2_with fail
  refine hW.mono ?_
  rintro e w1 ⟨rfl, hb1⟩
  go_wp2
  go_ret2
  exact ⟨rfl, hb1⟩
end Go.Proofs.Ytpngkdhfjginlaa
