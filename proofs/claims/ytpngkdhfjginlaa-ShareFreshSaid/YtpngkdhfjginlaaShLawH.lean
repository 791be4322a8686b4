/-
  The walks of the statements on shares (8): shares of two secrets, added one by one: the walk.
-/
import Derived.Test.YtpngkdhfjginlaaShLawG
namespace Go.Proofs.Ytpngkdhfjginlaa
open Go.RowKit
attribute [local go_sem] T_V

theorem run_min3 {P : Program} {w : World} (ats : Array TypeId) (ty : TypeId) (k : IntKind) {A B C N : Int} (hN : (if C < (if B < A then B else A) then C else (if B < A then B else A)) = N) : (Builtin.min_ ats ty #[.int k A, .int k B, .int k C]).run P w = .ok (.int k N) w := by
  subst hN
  simp [Builtin.min_, Builtin.min2]
/-- min of three. -/
theorem wpList_min3 {P : Program} {w : World} {ops : Array Oper} {rest : List Oper} {o : Oper} {a : Act} {Q : Exit → Act → World → Prop} (hgd : o.guard = none) (x y z : Operand) (ats : Array TypeId)
    (ho : o.op = .call { callee := .builtin .min, args := #[x, y, z], argTypes := ats }) {k : IntKind} {A B C : Int} (N : Int) (hx : a.eval x = .int k A) (hy : a.eval y = .int k B) (hz : a.eval z = .int k C) (hN : (if C < (if B < A then B else A) then C else (if B < A then B else A)) = N)
    (h : wpList P ops Q rest (a.put o.dst (.int k N)) w) : wpList P ops Q (o :: rest) a w := by
  refine wpList_plain hgd fun K hK => ?_
  have hrun := run_min3 (P := P) (w := w) ats o.type k hN
  unfold Oper.wp
  simp [execOp, ho, resolve, invoke, builtin, hx, hy, hz, hrun, Result.andThen]
  exact hK _ _ h
/-- append(out, s) beside another list of shares. -/
theorem app_sh3 {ops : Array Oper} {rest : List Oper} {o : Oper} {a : Act} {Q : Exit → Act → World → Prop} (hgd : o.guard = none) (s x : Operand)
    (ho : o.op = .call { callee := .builtin .append, args := #[s, x], argTypes := #[27, 27] }) {base : Nat} {v yv : Value} {n m : Nat} {l l' : List (Int × Int)} {W : World} {y z : Int}
    (hown : OwnS W base v n l) (hY : OwnS W base yv m l') (hsep : Sep v yv) (hs : a.eval s = v) (hx : a.eval x = .slice (some ⟨W.heap.size, 0, none⟩) 1 1) (hy : (0 ≤ y ∧ y < 18446744073709551616) ∧ 0 ≤ z ∧ z < 18446744073709551616) (hn : n ≤ 4398046511104) (hbase : base ≤ W.heap.size)
    (h : ∀ v' w', OwnS w' base v' (n + 1) (l ++ [(y, z)]) → OwnS w' base yv m l' → Sep v' yv → Below base W w' → (∀ a u, W.cell? a = some u → v.ownBlock ≠ some a.block → w'.cell? a = some u) → wpList Try.prog ops Q rest (a.put o.dst v') w') :
    wpList Try.prog ops Q (o :: rest) a (W.alloc (.cells #[.int .u64 y, .int .u64 z] 33)) := by
  obtain ⟨i0, hi, hz0, hz1, hz2⟩ := info_parts sh_info
  have hb0 : Below W.heap.size W (W.alloc (.cells #[.int .u64 y, .int .u64 z] 33)) := (Below.refl _ _).alloc (Nat.le_refl _) _
  have hown' := hown.below hb0
  have hY' := hY.below hb0
  refine wpList_append_own_at _ hgd s x 27 ho base 33 i0 (.agg #[.int .u64 0, .int .u64 0]) 2 16 Try.underlying27 hi hz0 hz1 hz2 rfl (by decide) v n _ hs hown'.row
    ⟨W.heap.size, 0, none⟩ 1 1 [.int .u64 y, .int .u64 z] hx rfl ?_ (by simp [Value.oneCell']) (by unfold maxLen; omega) (by omega) (by simp; omega) ?_
  · intro j u hj
    have hA := Arr.new W 33 [.int .u64 y, .int .u64 z]
    rcases j with _ | _ | j
    · simp only [List.getElem?_cons_zero, Option.some.injEq] at hj
      subst hj
      exact hA.cell (i := 0) (by simp)
    · simp only [List.getElem?_cons_succ, List.getElem?_cons_zero, Option.some.injEq] at hj
      subst hj
      exact hA.cell (i := 1) (by simp)
    · simp at hj
  · intro v' w' h1 h2 _ h4
    have hb : Below base (W.alloc (.cells #[.int .u64 y, .int .u64 z] 33)) w' := (Below.refl _ _).grown h2 (by simp; omega) (fun k e => (hown'.row.lt k e).1)
    refine h v' w' ⟨by rw [List.length_append, hown.len]; rfl, by rw [flat_snoc]; exact h1, ?_⟩ (hY'.far h2 hsep.far) ?_ ((hb0.mono hbase).trans hb) (fun a u hc hne => cell_keep h2 ((hb0.cell (cell_lt hc)).trans hc) (fun e => hne e.symm))
    · intro t ht
      rcases List.mem_append.1 ht with ht | ht
      · exact hown.bd t ht
      · rw [List.mem_singleton] at ht; subst ht; exact hy
    · intro g hg hgy
      rcases h4 with h4 | h4
      · exact hsep g (h4.symm.trans hg) hgy
      · have := (hY.lt hgy).2
        rw [h4] at hg
        injection hg with hg
        simp at hg
        omega

/-- append(out, l...), as one step of a region that draws its order. -/
theorem app_step_shs {ops : Array Oper} {o : Oper} {a : Act} {K : Act → World → Prop} {Q : Exit → Act → World → Prop} {E : Prop} (hgd : o.guard = none) (s x : Operand)
    (ho : o.op = .call { callee := .builtin .append, args := #[s, x], argTypes := #[27, 27] }) {base : Nat} {v : Value} {n m c : Nat} {q : Addr} {xs ys : List (Int × Int)} {W : World}
    (hown : OwnS W base v n xs) (hs : a.eval s = v) (hx : a.eval x = .slice (some q) m c) (hY : Sh W (some q) m ys) (_hn0 : 0 < n) (hn : n + m ≤ 4398046511104) (hbase : base ≤ W.heap.size)
    (h : ∀ v' w', OwnS w' base v' (n + m) (xs ++ ys) → Below base W w' → K (a.put o.dst v') w') :
    if Region.wanted o (yielded ops a.tmps) = true then Oper.wp Try.prog o a W K Q else E := by
  obtain ⟨i0, hi, hz0, hz1, hz2⟩ := info_parts sh_info
  have hfl : (flat ys).length = m * 2 := by rw [flat_length, hY.len]
  rw [if_pos (by simp [Region.wanted, hgd])]
  refine wp_append_own W s x 27 ho base 33 i0 (.agg #[.int .u64 0, .int .u64 0]) 2 16 Try.underlying27 hi hz0 hz1 hz2 rfl (by decide) v n _ hs hown.row
    q m c (flat ys) hx hfl ?_ ?_ (by unfold maxLen; omega) (by omega) hbase ?_
  · intro j u hj
    have hjl : j < (flat ys).length := by
      rcases Nat.lt_or_ge j (flat ys).length with h | h
      · exact h
      · rw [List.getElem?_eq_none h] at hj; cases hj
    rw [List.getElem?_eq_getElem hjl] at hj
    obtain ⟨b, off, he, _, hc⟩ := hY.rd.here hjl
    injection he with he
    subst he
    injection hj with hj
    rw [← hj, ← hc j hjl]
    unfold Addr.add
    by_cases h0 : j = 0
    · subst h0; rfl
    · rw [if_neg h0]
  · intro u hu
    unfold flat at hu
    obtain ⟨y, _, hy⟩ := List.mem_flatMap.1 hu
    simp only [List.mem_cons, List.not_mem_nil, or_false] at hy
    rcases hy with rfl | rfl <;> rfl
  · intro v' w' h1 h2 _
    have hb : Below base W w' := (Below.refl _ _).grown h2 hbase (fun k e => (hown.row.lt k e).1)
    refine h v' w' ⟨by rw [List.length_append, hown.len, hY.len], ?_, ?_⟩ hb
    · have e : flat (xs ++ ys) = flat xs ++ flat ys := by simp [flat]
      rw [e]; exact h1
    · intro z hz
      rcases List.mem_append.1 hz with hz | hz
      · exact hown.bd z hz
      · exact hY.bd z hz
/-- A world in which all that was there stands as it stood. -/
structure GrIn (w : World) where
  at_ : World
  gr : Gr w at_
theorem cells_in {w : World} {a : Addr} {v : Value} (h : w.cell? a = some v) (x : GrIn w) : x.at_.cell? a = some v := x.gr.cell h
instance (w : World) : Nonempty (GrIn w) := ⟨⟨w, Below.refl _ _⟩⟩
theorem in_gr {w : World} (x : GrIn w) : (∃ y : GrIn w, x.at_ = y.at_) = True := eq_true ⟨x, rfl⟩
attribute [local go_sem] in_gr
/-- A region of reads, and of calls that make memory, walked once in the text's order, cheaply. -/
theorem wp_region_gr {P : Program} {id : Nat} {Q : Exit → Act → World → Prop} {a : Act} {w : World} {l : List Oper} (hm : P.follows .mixedOrders = true) (hB : Region.lexB .any l.toArray = true)
    (h : wpQuiet P l.toArray (fun W => ∃ x : GrIn w, W = x.at_) (fun a' => ∀ w', (∃ x : GrIn w, w' = x.at_) → Q .normal a' w') l a) : (Code.region id l.toArray true).wp P Q a w :=
  wp_region_quiet (C := fun W => ∃ x : GrIn w, W = x.at_) hm hB ⟨⟨_, Gr.start w⟩, rfl⟩ (by simpa using h)
/-- The sum's shares in the row, one more. -/
theorem sum_step (A B : List F) {k : Nat} (h : k < 9) : splitL (addL A B) (k + 1) = splitL (addL A B) k ++ [((addS (sh (splitL A 9) k) (sh (splitL B 9) k)).1, (addS (sh (splitL A 9) k) (sh (splitL B 9) k)).2)] := by
  rw [(add_split A B h).1, split_step _ h]
theorem sum_bd (A B : List F) {k : Nat} (h : k < 9) : bdS (addS (sh (splitL A 9) k) (sh (splitL B 9) k)) := by
  rw [(add_split A B h).1]; exact bd_split _ h

set_option maxRecDepth 100000 in
set_option maxHeartbeats 8000000 in
theorem fresh_walk (a b : Int) (p : Option Addr) (nc : Nat) (xs : List Int) (c : Nat) (q : Option Addr) (nd : Nat) (ys : List Int) (d : Nat) (r : Option Addr) (g : Nat) (ats : List Int) (f : Nat) (w : World) (ha0 : 0 ≤ a) (ha1 : a < 18446744073709551616) (hb0 : 0 ≤ b) (hb1 : b < 18446744073709551616)
    (hU : U w p nc xs) (hc : nc ≤ c) (hnc : nc ≤ 9223372036854775807) (hp : p = none → c = 0) (hV : U w q nd ys) (hd : nd ≤ d) (hnd : nd ≤ 9223372036854775807) (hq : q = none → d = 0) (hI : UI w r g ats) (hg : g ≤ 9223372036854775807) :
    Calls Try.prog 9 #[.int .u64 a, .int .u64 b, .slice p nc c, .slice q nd d, .slice r g f] w fun e w' => e = .returned (.bool true) ∧ Below w.heap.size w w' := by
  go_enter Try.func9, Try.ntmps9
  go_upto_region 1 with fail
  go_cut [11] from 29 to 33 (fun v wx => ∃ N : Nat, v = .int .i64 N ∧ N ≤ nc ∧ N ≤ nd ∧ N ≤ 4 ∧ w = wx)
  case first =>
    obtain ⟨N, hN, hN1, hN2, hN3⟩ : ∃ N : Nat, Hid ((if (4 : Int) < (if (nd : Int) < nc then (nd : Int) else nc) then (4 : Int) else (if (nd : Int) < nc then (nd : Int) else nc)) = (N : Int)) ∧ N ≤ nc ∧ N ≤ nd ∧ N ≤ 4 := by
      refine ⟨min (min nc nd) 4, Lib.hid ?_, by omega, by omega, by omega⟩
      split <;> split <;> omega
    go_wp2_with (with_reducible refine wpList_min3 rfl (.tmp 30) (.tmp 32) (.const (.int .i64 4)) _ rfl N rfl rfl rfl hN.out ?_)
    go_meet
    exact ⟨N, rfl, hN1, hN2, hN3, rfl⟩
  case rest =>
  obtain ⟨N, rfl, hN1, hN2, hN4, rfl⟩ := hcut
  have hT := hU.take hN1
  have hR := hV.take hN2
  generalize xs.take N = cs at *
  generalize ys.take N = ds at *
  go_wp2_with fail
  refine (Split_any a p N cs c 9 _ ha0 ha1 hT hp (by omega) (by omega) (by omega)).mono ?_
  rintro e w1 ⟨v, rfl, hown, hbA⟩
  obtain ⟨p1, c1, rfl, hc1, hL1⟩ := hown.u
  clear hown
  go_wp2_with fail
  refine (Split_any b q N ds d 9 _ hb0 hb1 (hR.below hbA) hq (by omega) (by omega) (by omega)).mono ?_
  rintro e w2 ⟨v, rfl, hown, hbB⟩
  obtain ⟨p2, c2, rfl, hc2, hL2⟩ := hown.u
  clear hown
  have hbAB := hbA.trans (hbB.mono hbA.size)
  go_wp2_with fail
  refine (Split_any 0 q N ds d 9 _ (by omega) (by omega) (hR.below hbAB) hq (by omega) (by omega) (by omega)).mono ?_
  rintro e w3 ⟨v, rfl, hown, hbC⟩
  obtain ⟨p3, c3, rfl, hc3, hL3⟩ := hown.u
  clear hown
  have hb3 := hbAB.trans (hbC.mono hbAB.size)
  have hl1 : Hid (((a :: cs).map T).length = N + 1) := Lib.hid (by rw [List.length_map, List.length_cons, hT.len])
  have hl2 : Hid (((b :: ds).map T).length = N + 1) := Lib.hid (by rw [List.length_map, List.length_cons, hR.len])
  have hl3 : Hid (((0 :: ds).map T).length = N + 1) := Lib.hid (by rw [List.length_map, List.length_cons, hR.len])
  have hz1 : Hid (ev ((a :: cs).map T) 0 = T a) := Lib.hid (by rw [List.map_cons, ev_zero])
  have hz2 : Hid (ev ((b :: ds).map T) 0 = T b) := Lib.hid (by rw [List.map_cons, ev_zero])
  have hz3 : Hid (ev ((0 :: ds).map T) 0 = 0) := Lib.hid (by rw [List.map_cons, ev_zero, T_zero])
  have hL1 : Sh w3 p1 9 (splitL ((a :: cs).map T) 9) := (hL1.below hbB).below hbC
  have hL2 : Sh w3 p2 9 (splitL ((b :: ds).map T) 9) := hL2.below hbC
  have hL3 : Sh w3 p3 9 (splitL ((0 :: ds).map T) 9) := hL3
  generalize (a :: cs).map T = A at *
  generalize (b :: ds).map T = B at *
  generalize (0 :: ds).map T = Z at *
  clear hT hR
  go_wp2_with fail
  go_loopw [15, 16, 17] (fun bv fv i wr => ∃ k : Nat, k ≤ 9 ∧ i = .int .i64 k ∧ OwnS wr w3.heap.size bv k (splitL (addL A B) k) ∧ OwnS wr w3.heap.size fv k (splitL (addL A Z) k) ∧ Sep bv fv ∧ Below w3.heap.size w3 wr)
    (fun _ _ i _ => 9 - (intOf i).toNat)
  case atStart => exact ⟨0, Nat.zero_le _, rfl, OwnS.nil _ _, OwnS.nil _ _, Sep.nil, Below.refl _ _⟩
  case round =>
    obtain ⟨k, hk, rfl, hX, hY, hsep, hb⟩ := hrel
    by_cases hlt : k < 9
    · have hix1 : (0 : Int) ≤ (k : Int) := by omega
      have hix2 : (k : Int) < 9 := by omega
      obtain ⟨b1, off1, rfl, _, m1, m2⟩ := hL1.look hlt
      obtain ⟨b2, off2, rfl, _, m3, m4⟩ := hL2.look hlt
      obtain ⟨b3, off3, rfl, _, m5, m6⟩ := hL3.look hlt
      have hbA1 := bd_split A hlt
      have hbB1 := bd_split B hlt
      have hbZ1 := bd_split Z hlt
      have hs1 := Lib.hid (sum_step A B hlt)
      have hs2 := Lib.hid (sum_step A Z hlt)
      have he1 := Lib.hid (add_split A B hlt).2
      have he2 := Lib.hid (add_split A Z hlt).2
      have hd1 := sum_bd A B hlt
      have hd2 := sum_bd A Z hlt
      generalize sh (splitL A 9) k = s at *
      generalize sh (splitL B 9) k = t at *
      generalize sh (splitL Z 9) k = z at *
      obtain ⟨s1, s2⟩ := s
      obtain ⟨t1, t2⟩ := t
      obtain ⟨z1, z2⟩ := z
      simp only at m1 m2 m3 m4 m5 m6
      have c1 := below_cell' hb m1
      have c2 := below_cell' hb m2
      have c3 := below_cell' hb m3
      have c4 := below_cell' hb m4
      have c1a : ∀ o, (wr.alloc o).cell? _ = _ := fun o => below_cell' ((Below.refl _ _).alloc (Nat.le_refl _) o) c1
      have c2a : ∀ o, (wr.alloc o).cell? _ = _ := fun o => below_cell' ((Below.refl _ _).alloc (Nat.le_refl _) o) c2
      have c3a : ∀ o, (wr.alloc o).cell? _ = _ := fun o => below_cell' ((Below.refl _ _).alloc (Nat.le_refl _) o) c3
      have c4a : ∀ o, (wr.alloc o).cell? _ = _ := fun o => below_cell' ((Below.refl _ _).alloc (Nat.le_refl _) o) c4
      go_upto_region 12 with fail
      go_cut [18, 19] from 61 to 102 (fun v18 v19 wx => ∃ g, v18 = .pointer (some ⟨g, 0, none⟩) ∧ v19 = .int .i64 (addE (s1, s2) (t1, t2)) ∧ wr.heap.size ≤ g ∧ wx.cell? ⟨g, 0, none⟩ = some (.int .u64 (addS (s1, s2) (t1, t2)).1) ∧ wx.cell? ⟨g, 1, none⟩ = some (.int .u64 (addS (s1, s2) (t1, t2)).2) ∧ Below wr.heap.size wr wx)
      case first =>
        go_region_with (go_at_call 23; refine (Add_share (s1, s2) (t1, t2) _ hbA1 hbB1).mono ?_; rintro e w' ⟨rfl, hbA⟩
                        try (obtain ⟨r0, r1, f0, f1, q1, g1, e0, e1, bb⟩ := two_cells (w := wr) (W := w') (b := wr.heap.size) (t := 33) (e := .int .u64 0) (f := .int .u64 0) ((hbA.block wr.heap.size (by simp)).trans (Arr.new wr 33 [.int .u64 0, .int .u64 0])) ((((Below.refl wr.heap.size wr).alloc (Nat.le_refl _) _).drew).trans (hbA.mono (by simp))) (Nat.le_refl _)))
        all_goals (go_wp2_with fail; go_meet)
        all_goals first
          | exact ⟨_, rfl, rfl, Nat.le_refl _, e0 _ _, e1 _ _, bb _ _⟩
          | exact ⟨_, rfl, rfl, hbA.size, (Arr.new w' 33 [.int .u64 (addS (s1, s2) (t1, t2)).1, .int .u64 (addS (s1, s2) (t1, t2)).2]).cell (i := 0) (by simp), (Arr.new w' 33 [.int .u64 (addS (s1, s2) (t1, t2)).1, .int .u64 (addS (s1, s2) (t1, t2)).2]).cell (i := 1) (by simp), (((Below.refl wr.heap.size wr).drew).trans hbA).alloc hbA.size _⟩
      case rest =>
      obtain ⟨g1, rfl, rfl, hgl, d1, d2, hbt⟩ := hcut
      obtain ⟨wt, rfl⟩ : ∃ wt : World, wt = wc := ⟨_, rfl⟩
      rw [he1.out]
      clear c3 c4 c1a c2a c3a c4a
      have c1 := below_cell' hbt c1
      have c2 := below_cell' hbt c2
      have c3 := below_cell' hbt (below_cell' hb m5)
      have c4 := below_cell' hbt (below_cell' hb m6)
      have c1a : ∀ o, (wt.alloc o).cell? _ = _ := fun o => below_cell' ((Below.refl _ _).alloc (Nat.le_refl _) o) c1
      have c2a : ∀ o, (wt.alloc o).cell? _ = _ := fun o => below_cell' ((Below.refl _ _).alloc (Nat.le_refl _) o) c2
      have c3a : ∀ o, (wt.alloc o).cell? _ = _ := fun o => below_cell' ((Below.refl _ _).alloc (Nat.le_refl _) o) c3
      have c4a : ∀ o, (wt.alloc o).cell? _ = _ := fun o => below_cell' ((Below.refl _ _).alloc (Nat.le_refl _) o) c4
      go_upto_region 13 with fail
      go_cut [20, 21] from 61 to 102 (fun v18 v19 wx => ∃ g, v18 = .pointer (some ⟨g, 0, none⟩) ∧ v19 = .int .i64 (addE (s1, s2) (z1, z2)) ∧ wt.heap.size ≤ g ∧ wx.cell? ⟨g, 0, none⟩ = some (.int .u64 (addS (s1, s2) (z1, z2)).1) ∧ wx.cell? ⟨g, 1, none⟩ = some (.int .u64 (addS (s1, s2) (z1, z2)).2) ∧ Below wt.heap.size wt wx)
      case first =>
        go_region_with (go_at_call 23; refine (Add_share (s1, s2) (z1, z2) _ hbA1 hbZ1).mono ?_; rintro e w' ⟨rfl, hbA⟩
                        try (obtain ⟨r0, r1, f0, f1, q1, g1, e0, e1, bb⟩ := two_cells (w := wt) (W := w') (b := wt.heap.size) (t := 33) (e := .int .u64 0) (f := .int .u64 0) ((hbA.block wt.heap.size (by simp)).trans (Arr.new wt 33 [.int .u64 0, .int .u64 0])) ((((Below.refl wt.heap.size wt).alloc (Nat.le_refl _) _).drew).trans (hbA.mono (by simp))) (Nat.le_refl _)))
        all_goals (go_wp2_with fail; go_meet)
        all_goals first
          | exact ⟨_, rfl, rfl, Nat.le_refl _, e0 _ _, e1 _ _, bb _ _⟩
          | exact ⟨_, rfl, rfl, hbA.size, (Arr.new w' 33 [.int .u64 (addS (s1, s2) (z1, z2)).1, .int .u64 (addS (s1, s2) (z1, z2)).2]).cell (i := 0) (by simp), (Arr.new w' 33 [.int .u64 (addS (s1, s2) (z1, z2)).1, .int .u64 (addS (s1, s2) (z1, z2)).2]).cell (i := 1) (by simp), (((Below.refl wt.heap.size wt).drew).trans hbA).alloc hbA.size _⟩
      case rest =>
      obtain ⟨g2, rfl, rfl, hgl', d3, d4, hbu⟩ := hcut
      rw [he2.out]
      obtain ⟨wu, rfl⟩ : ∃ wu : World, wu = wc := ⟨_, rfl⟩
      have d1 := below_cell' hbu d1
      have d2 := below_cell' hbu d2
      have hbru := hbt.trans (hbu.mono hbt.size)
      have hX1 := hX.below hbru
      have hY1 := hY.below hbru
      have hb4 := hb.trans (hbru.mono hb.size)
      have hfar : u15.ownBlock ≠ some g2 := fun e => by have := (hX.lt e).2; have := hbt.size; omega
      clear c1 c2 c3 c4 c1a c2a c3a c4a hX hY
      go_wp2_with (first
        | (at_builtin; refine app_sh3 rfl _ _ rfl hX1 hY1 hsep rfl rfl hd1 (by omega) hb4.size ?_; intro v1 wA hX2 hY2 hsep2 hbA hcA
           have d5 := hcA _ _ d3 hfar
           have d6 := hcA _ _ d4 hfar)
        | (at_builtin; refine app_sh3 rfl _ _ rfl hY2 hX2 (Sep.symm hsep2) rfl rfl hd2 (by omega) (hb4.trans hbA).size ?_; intro v2 wB hY3 hX3 hsep3 hbB hcB))
      go_roundw
      case rel => exact ⟨k + 1, by omega, by go_num, by rw [hs1.out]; exact hX3, by rw [hs2.out]; exact hY3, Sep.symm hsep3, (hb4.trans hbA).trans hbB⟩
      case measure => simp [intOf]; omega
    · obtain rfl : k = 9 := by omega
      obtain ⟨pX, cX, rfl, hcX, hXs⟩ := hX.u
      obtain ⟨pY, cY, rfl, hcY, hYs⟩ := hY.u
      obtain ⟨b1, off1, rfl, _, m1, m2⟩ := hL1.look (i := 0) (by omega)
      obtain ⟨b3, off3, rfl, _, m5, m6⟩ := hL3.look (i := 0) (by omega)
      obtain ⟨bY, offY, rfl, _, _, _⟩ := hYs.look (i := 0) (by omega)
      have hs1 := bd_split A (k := 0) (by omega)
      have hs3 : Hid ((sh (splitL Z 9) 0).2 = V (ev Z (pt 0))) := Lib.hid (by rw [sh_split Z (by omega)])
      have hb3r := hb3.trans (hb.mono hb3.size)
      clear hX hY hsep
      go_wp2_with fail
      refine (Some_split (N + 1) _ (by omega) (addL A B) pX cX r g ats f _ hXs (hI.below hb3r) hg (by omega)).mono ?_
      rintro e w4 ⟨v, rfl, ⟨K, hK1, hK2, hK3, hown⟩, hb4⟩
      obtain ⟨p4, c4, rfl, _, hL4⟩ := hown.u
      have hK0 : 0 < K.length := by omega
      have hK9 : K.length ≤ 9 := by omega
      have hKl : (addL A B).length ≤ K.length := by rw [addL_length, hl1.out, hl2.out]; omega
      have hap := apart_takes (addL A B) hK1 hK2
      have hfr := fun (fs : List F) (z : F) hf => from_enough (P := addL A B) (fs := fs) hK1 hK2 hKl hf z
      have hJ := fun w => Join_is p4 K.length (takes (splitL (addL A B) 9) K) c4 w (T a + T b) (fun fs hf => by rw [hfr fs 0 hf, ev_addL, hz1.out, hz2.out])
      have hJ := Lib.hid (fun w h => hJ w h (by omega) hK0 hap)
      clear hown hK1 hK2 hK3 hap hfr hKl
      go_wp2_with fail
      refine (hJ.out _ hL4).mono ?_
      rintro e w5 ⟨rfl, hb5⟩
      clear hJ hL4
      have hb45 := hb4.trans (hb5.mono hb4.size)
      have hb35 := hb3r.trans (hb45.mono hb3r.size)
      go_wp2_with fail
      refine (Some_split (N + 1) _ (by omega) (addL A Z) _ cY r g ats f _ (hYs.below hb45) (hI.below hb35) hg (by omega)).mono ?_
      rintro e w6 ⟨v, rfl, ⟨K', hK1, hK2, hK3, hown⟩, hb6⟩
      obtain ⟨p6, c6, rfl, _, hL6⟩ := hown.u
      have hK0' : 0 < K'.length := by omega
      have hK9' : K'.length ≤ 9 := by omega
      have hKl : (addL A Z).length ≤ K'.length := by rw [addL_length, hl1.out, hl3.out]; omega
      have hap := apart_takes (addL A Z) hK1 hK2
      have hfr := fun (fs : List F) (z : F) hf => from_enough (P := addL A Z) (fs := fs) hK1 hK2 hKl hf z
      have hJ := fun w => Join_is p6 K'.length (takes (splitL (addL A Z) 9) K') c6 w (T a) (fun fs hf => by rw [hfr fs 0 hf, ev_addL, hz1.out, hz3.out, add_zero'])
      have hJ := Lib.hid (fun w h => hJ w h (by omega) hK0' hap)
      clear hown hK1 hK2 hK3 hap hfr hKl
      go_wp2_with fail
      refine (hJ.out _ hL6).mono ?_
      rintro e w7 ⟨rfl, hb7⟩
      clear hJ hL6
      have hb67 := hb6.trans (hb7.mono hb6.size)
      have hb47 := hb45.trans (hb67.mono hb45.size)
      have hb37 := hb3r.trans (hb47.mono hb3r.size)
      have hbr7 := hb.trans (hb47.mono hb.size)
      have hY7 := hYs.below hb47
      have m1 : w7.cell? ⟨b1, off1, none⟩ = _ := below_cell' hbr7 m1
      have m2 : w7.cell? ⟨b1, off1 + 1, none⟩ = _ := below_cell' (a := ⟨b1, off1 + 1, none⟩) hbr7 (by simpa using m2)
      have m6 : w7.cell? ⟨b3, off3 + 1, none⟩ = _ := below_cell' (a := ⟨b3, off3 + 1, none⟩) hbr7 (by simpa using m6)
      rw [hs3.out] at m6
      have e1 : (V (T a + T b) != V (T a + T b)) = false := bne_self_eq_false _
      have e2 : (V (T a) != V (T a)) = false := bne_self_eq_false _
      go_upto_region 22 with (first
        | (go_at_call 20; refine (num_any _ _ ha0 ha1).mono ?_; rintro e w' ⟨rfl, rfl⟩)
        | (go_at_call 25; refine (add_any _ _ _ ha0 ha1 hb0 hb1).mono ?_; rintro e w' ⟨rfl, rfl⟩))
      clear e1 e2
      have hlit : OwnS (w7.drew.alloc (.cells #[.int .u64 (sh (splitL A 9) 0).1, .int .u64 (sh (splitL A 9) 0).2] 33)) w7.heap.size (.slice (some ⟨w7.heap.size, 0, none⟩) 1 1) 1 [sh (splitL A 9) 0] :=
        ⟨rfl, World.ownsRow_lit w7.drew #[.int .u64 (sh (splitL A 9) 0).1, .int .u64 (sh (splitL A 9) 0).2] 1 (Nat.le_refl _) (by unfold maxLen; omega) rfl, fun s hs => by rw [List.mem_singleton] at hs; subst hs; exact hs1⟩
      have hbl : Below w7.heap.size w7 (w7.drew.alloc (.cells #[.int .u64 (sh (splitL A 9) 0).1, .int .u64 (sh (splitL A 9) 0).2] 33)) := ((Below.refl _ _).drew).alloc (Nat.le_refl _) _
      have hFs : Sh (w7.drew.alloc (.cells #[.int .u64 (sh (splitL A 9) 0).1, .int .u64 (sh (splitL A 9) 0).2] 33)) (some ⟨bY, offY + 2, none⟩) N (((splitL (addL A Z) 9).take (N + 1)).drop 1) := ((hY7.below hbl).take (k := N + 1) (by omega)).drop 1 (by omega)
      have i1 : IntKind.i64.wrap ((N : Int) + 1) = (N : Int) + 1 := IntWalk.i64_in _ (by omega)
      have i2 : (0 : Int) ≤ (N : Int) + 1 := by omega
      have i3 : ((N : Int) + 1).toNat = N + 1 := by omega
      have i4 : (N : Int) + 1 ≤ cY := by omega
      have i5 : (1 : Int) ≤ (N : Int) + 1 := by omega
      have i6 : N + 1 ≤ cY := by omega
      have i7 : ¬ (cY = 1) := by omega
      go_cut [26] from 140 to 148 (fun v wx => ∃ pM cM, v = .slice pM (1 + N) cM ∧ Sh wx pM (1 + N) (mixL A (addL A Z) N) ∧ Below w7.heap.size w7 wx)
      case first =>
        go_region_law (refine app_step_shs rfl (.tmp 143) (.tmp 147) rfl hlit rfl rfl hFs (by omega) (by omega) hbl.size ?_; intro v' w8 hO8 hb8)
        all_goals
          go_simp
          go_wp2_with fail
          go_meet
          obtain ⟨pM, cM, rfl, _, hM⟩ := hO8.u
          exact ⟨pM, cM, rfl, hM, (hbl.mono (Nat.le_refl _)).trans hb8⟩
      case rest =>
      obtain ⟨pM, cM, rfl, hM, hb8⟩ := hcut
      obtain ⟨w8, rfl⟩ : ∃ w8 : World, w8 = wc := ⟨_, rfl⟩
      clear i1 i2 i3 i4 i5 i6 i7 hlit hbl hFs m1 m2
      have hmap := mix_apart A (addL A Z) hN4
      go_wp2_with fail
      refine (Join_ok pM (1 + N) (mixL A (addL A Z) N) cM _ hM (by omega) (by omega) hmap).mono ?_
      rintro e w9 ⟨fs, rfl, hok, hb9⟩
      have hmt := mix_tells hN4 (by rw [addL_length, hl1.out, hl3.out]; omega) hz3.out hok
      have hm6 := below_cell' hb9 (below_cell' hb8 m6)
      clear m6 hok hmap
      have hb39 := hb37.trans (((hb8).trans (hb9.mono hb8.size)).mono hb37.size)
      have hbool : ((V (ev fs 0) == V (T a)) = true ∧ (V (ev Z (pt 0)) == 0) = true) ∨ ((V (ev fs 0) == V (T a)) = false ∧ (V (ev Z (pt 0)) == 0) = false) := by
        rw [beq_iff_eq, beq_iff_eq, beq_eq_false_iff_ne, beq_eq_false_iff_ne, ne_eq, ne_eq, V_inj_iff, V_eq_zero, ← hmt, hz1.out]
        by_cases h : ev fs 0 = T a
        · exact .inl ⟨h, h⟩
        · exact .inr ⟨h, h⟩
      clear hmt
      go_wp2_with fail
      rcases hbool with ⟨q1, q2⟩ | ⟨q1, q2⟩
      all_goals
        have hld := cells_in hm6
        refine wp_region_gr (by kernel_rfl) (by kernel_rfl) ?_
        repeat (go_big_quiet_step (first
          | (go_at_call 20; refine (num_any _ _ ha0 ha1).mono ?_; rintro e w'' ⟨rfl, rfl⟩; exact ⟨rfl, _, rfl⟩)
          | (go_at_call 15; refine (lives9 _).mono ?_; rintro e w'' ⟨rfl, hb''⟩; exact ⟨rfl, ⟨_, Gr.then (GrIn.gr _) hb''⟩, rfl⟩)))
        refine wpQuiet_nil ?_
        intro w10 hw10'
        obtain ⟨⟨_, hw10⟩, rfl⟩ := hw10'
        go_wp2
        go_ret
        exact ⟨rfl, hb39.trans (Below.mono hw10 hb39.size)⟩
end Go.Proofs.Ytpngkdhfjginlaa
