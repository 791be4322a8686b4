/-
  From which tick on a device may come in.
-/
import Derived.Test.YtkolilbebkkpdaaDoorRoQ
namespace Go.Proofs.YtkolilbebkkpdaaDoor
open Go.RowKit Go.Shelf Go.Maps Go.Sort

/-- A list of signed numbers of the call's own, in a block from base on. -/
structure OwnI (w : World) (base : Nat) (v : Value) (n : Nat) (xs : List Int) : Prop where
  len : xs.length = n
  row : w.ownsRow base 3 1 v n (xs.map (Value.int .i64))
  bd : ∀ x ∈ xs, -9223372036854775808 ≤ x ∧ x ≤ 9223372036854775807
theorem OwnI.nil (w : World) (base : Nat) : OwnI w base (.slice none 0 0) 0 [] := ⟨rfl, World.ownsRow_nil w base _ 1, fun _ h => by cases h⟩
theorem OwnI.below {w w' : World} {base : Nat} {v : Value} {n : Nat} {xs : List Int} (h : OwnI w base v n xs) (hb : Below w.heap.size w w') : OwnI w' base v n xs :=
  ⟨h.len, h.row.kept (row := none) ⟨hb.os, hb.tape, hb.output, hb.size, fun i hi _ => hb.block i hi⟩ (by cases hv : v.ownBlock <;> simp), h.bd⟩
theorem OwnI.far {w w' : World} {base : Nat} {v : Value} {n : Nat} {xs : List Int} (h : OwnI w base v n xs) {row : Option Nat} (hg : w.grownBy w' row) (hne : v.ownBlock = none ∨ v.ownBlock ≠ row) : OwnI w' base v n xs :=
  ⟨h.len, h.row.kept hg hne, h.bd⟩
theorem OwnI.farB {w w' : World} {base r : Nat} {v : Value} {n : Nat} {xs : List Int} (h : OwnI w base v n xs) (hg : w.grownBy w' (some r)) (hr : r < base) : OwnI w' base v n xs :=
  h.far hg (by
    by_cases e : v.ownBlock = none
    · exact .inl e
    · refine .inr fun e2 => ?_
      have := (h.row.lt _ e2).1
      omega)
theorem OwnI.lt {w : World} {base : Nat} {v : Value} {n : Nat} {xs : List Int} (h : OwnI w base v n xs) {g : Nat} (hg : v.ownBlock = some g) : base ≤ g ∧ g < w.heap.size := h.row.lt g hg
theorem OwnI.u {w : World} {base : Nat} {v : Value} {n : Nat} {xs : List Int} (h : OwnI w base v n xs) : ∃ p c, v = .slice p n c ∧ n ≤ c ∧ UI w p n xs ∧ FarP base p := by
  rcases h.row.2 with ⟨hv, hn⟩ | ⟨g, cap, cur, hv, hg, hgb, hnc, _, hcs, htake⟩
  · refine ⟨none, 0, by rw [hv, hn], by omega, ?_, fun _ h => by cases h⟩
    have hx : xs = [] := List.eq_nil_of_length_eq_zero (by rw [h.len, hn])
    rw [hx, hn]; exact ⟨rfl, .nil, fun _ h => by cases h⟩
  · refine ⟨some ⟨g, 0, none⟩, cap, hv, hnc, ?_, fun a ha => by injection ha with ha; rw [← ha]; exact hg⟩
    have := h.row
    rw [hv] at this
    exact ui_of_row this h.bd
/-- append(had, y). -/
theorem app_i {ops : Array Oper} {rest : List Oper} {o : Oper} {a : Act} {Q : Exit → Act → World → Prop} (hgd : o.guard = none) (s x : Operand)
    (ho : o.op = .call { callee := .builtin .append, args := #[s, x], argTypes := #[22, 22] }) {base : Nat} {v : Value} {n : Nat} {xs : List Int} {W : World} {y : Int}
    (hown : OwnI W base v n xs) (hs : a.eval s = v) (hx : a.eval x = .slice (some ⟨W.heap.size, 0, none⟩) 1 1) (hy : -9223372036854775808 ≤ y ∧ y ≤ 9223372036854775807) (hn : n ≤ 8796093022208) (hbase : base ≤ W.heap.size)
    (h : ∀ v' w', OwnI w' base v' (n + 1) (xs ++ [y]) → Below base W w' → wpList Tryd.prog ops Q rest (a.put o.dst v') w') :
    wpList Tryd.prog ops Q (o :: rest) a (W.alloc (.cells #[.int .i64 y] 3)) := by
  obtain ⟨i0, hi, hz0, hz1, hz2⟩ := info_parts int_info
  have hb0 : Below W.heap.size W (W.alloc (.cells #[.int .i64 y] 3)) := (Below.refl _ _).alloc (Nat.le_refl _) _
  have hown' := hown.below hb0
  refine wpList_append_own _ hgd s x 22 ho base 3 i0 (.int .i64 0) 1 8 Tryd.underlying22 hi hz0 hz1 hz2 rfl (by decide) v n _ hs hown'.row
    ⟨W.heap.size, 0, none⟩ 1 1 [.int .i64 y] hx rfl ?_ (by simp [Value.oneCell']) (by unfold maxLen; omega) (by omega) (by simp; omega) ?_
  · intro j u hj
    cases j with
    | zero =>
      simp only [List.getElem?_cons_zero, Option.some.injEq] at hj
      subst hj
      exact (Arr.new W 3 [.int .i64 y]).cell (i := 0) (by simp)
    | succ j => simp at hj
  · intro v' w' h1 h2 _
    have hb : Below base (W.alloc (.cells #[.int .i64 y] 3)) w' := (Below.refl _ _).grown h2 (by simp; omega) (fun k e => (hown'.row.lt k e).1)
    refine h v' w' ⟨by rw [List.length_append, hown.len]; rfl, by rw [List.map_append]; exact h1, ?_⟩ ((hb0.mono hbase).trans hb)
    intro z hz
    rcases List.mem_append.1 hz with hz | hz
    · exact hown.bd z hz
    · rw [List.mem_singleton] at hz; subst hz; exact hy
/-- slices.Sort of a list of one's own. -/
theorem SortOwn_any (w : World) (base : Nat) (v : Value) (n : Nat) (xs : List Int) (h : OwnI w base v n xs) (hn : n ≤ 1000000) :
    Calls Tryd.prog 68 #[v] w fun e w' => e = .returned (.tuple #[]) ∧ OwnI w' base v n (sortI xs) ∧ Below base w w' := by
  have hlen := h.len
  have hbs : ∀ x ∈ sortI xs, -9223372036854775808 ≤ x ∧ x ≤ 9223372036854775807 := fun x hx => h.bd x ((sortI_perm _).mem_iff.1 hx)
  have hln2 : (sortI xs).length = n := by rw [sortI_len, hlen]
  rcases h.row.2 with ⟨rfl, h0⟩ | ⟨g, cap, cur, rfl, hg, hgb, hnc, hcap, hcs, htake⟩
  · refine (Tryd.slices_Sort_int_none _ _ _).mono ?_
    rintro e w2 ⟨rfl, rfl⟩
    have hnil : sortI xs = [] := List.eq_nil_of_length_eq_zero (by rw [hln2, h0])
    have hx : xs = [] := List.eq_nil_of_length_eq_zero (by rw [hlen, h0])
    rw [hnil]
    exact ⟨rfl, hx ▸ h, Below.refl _ _⟩
  · have hlt := (Array.getElem?_eq_some_iff.1 hgb).1
    rw [Nat.mul_one] at htake
    have hlen' : n = xs.length := hlen.symm
    subst hlen'
    have hH := holds_of_blockI hgb htake
    have hsz : xs.length < 4611686018427387904 := by omega
    refine (Tryd.slices_Sort_int g 0 cap xs w hH hlt hsz).mono ?_
    rintro e w2 ⟨rfl, n, os, rfl⟩
    have hrow2 := ownsRow_sortedI (w := w) (base := base) (n := n) (os := os) (ts := sortI xs) (ss := xs) (by rw [sortI_len]) hg hgb hnc hcap hcs
    have hb2 : Below base w (grow (putRow (Value.int .i64) (Sort.ahead w n) g 0 (sortI xs).toArray) os) := (Below.refl base w).grown (grownBy_sortedI _) (by omega) fun k e => by injection e with e; omega
    exact ⟨rfl, ⟨by rw [sortI_len], hrow2, hbs⟩, hb2⟩
theorem nodup_leG {α : Type} [DecidableEq α] : ∀ (l m : List α), l.Nodup → (∀ x ∈ l, x ∈ m) → l.length ≤ m.length := by
  intro l
  induction l with
  | nil => intro m _ _; exact Nat.zero_le _
  | cons a l ih =>
    intro m hd hm
    obtain ⟨k1, k2⟩ := List.nodup_cons.1 hd
    have ha := hm a (List.mem_cons_self ..)
    have := ih (m.erase a) k2 fun x hx => (List.mem_erase_of_ne (fun e => k1 (by rw [← e]; exact hx))).2 (hm x (List.mem_cons_of_mem _ hx))
    rw [List.length_erase_of_mem ha] at this
    have := List.length_pos_of_mem ha
    rw [List.length_cons]; omega
theorem dueL_few {g : Gd} {l : List Int} (h : (l.length : Int) < g.n) : dueL g l = (0, 26) := if_pos h
theorem dueL_obj {g : Gd} {l : List Int} (h : ¬ (l.length : Int) < g.n) (h1 : g.ob = true) (h2 : nth l 0 ≤ g.la) : dueL g l = (0, 28) := by
  unfold dueL; rw [if_neg h, if_pos ⟨h1, h2⟩]
theorem dueL_at {g : Gd} {l : List Int} {k : Nat} (h : ¬ (l.length : Int) < g.n) (h1 : ¬ (g.ob = true ∧ nth l 0 ≤ g.la)) (hk : g.n = (k : Int) + 1) : dueL g l = (nth l k + g.t, 0) := by
  unfold dueL
  have e : (g.n - 1).toNat = k := by omega
  have h1' : ¬ (g.ob = true ∧ nthI l 0 ≤ g.la) := h1
  rw [if_neg h, if_neg h1', e]; rfl
/-- What was vouched, by keys that have come. -/
def atsK (vo : List ((Int × Int) × Int)) (dev : Int) (pre : List (Int × Int)) : List Int := (pre.filter fun k => decide (k.2 = dev)).map fun k => (lk vo k).getD 0
theorem atsK_snoc (vo : List ((Int × Int) × Int)) (dev : Int) (pre : List (Int × Int)) (k : Int × Int) : atsK vo dev (pre ++ [k]) = if k.2 = dev then atsK vo dev pre ++ [(lk vo k).getD 0] else atsK vo dev pre := by
  unfold atsK
  rw [List.filter_append, List.map_append]
  by_cases h : k.2 = dev
  · simp [h]
  · simp [h]
theorem atsK_all {g : Gd} (hn : (g.vo.map Prod.fst).Nodup) (dev : Int) {pre : List (Int × Int)} (h : pre.Perm (g.vo.map Prod.fst)) : (atsK g.vo dev pre).Perm (g.ats dev) := by
  have h1 : (atsK g.vo dev pre).Perm (atsK g.vo dev (g.vo.map Prod.fst)) := (h.filter _).map _
  have h2 : atsK g.vo dev (g.vo.map Prod.fst) = g.ats dev := by
    unfold atsK Gd.ats
    rw [List.filter_map, List.map_map]
    refine List.map_congr_left fun p hp => ?_
    have := lk_of_mem hn (List.mem_filter.1 hp).1
    show (lk g.vo p.1).getD 0 = p.2
    rw [this]; rfl
  rwa [h2] at h1
theorem keys_voV (vo : List ((Int × Int) × Int)) : (voV vo).map Prod.fst = vo.map Prod.fst := by unfold voV; rw [List.map_map]; rfl
theorem mem_voV {vo : List ((Int × Int) × Int)} {k : Int × Int} {v : Value} (h : (k, v) ∈ voV vo) : ∃ t, (k, t) ∈ vo ∧ v = .int .i64 t := by
  unfold voV at h
  obtain ⟨p, hp, e⟩ := List.mem_map.1 h
  injection e with e1 e2
  exact ⟨p.2, e1 ▸ hp, e2.symm⟩
theorem zero_vouched (w : World) : (zeroValue 93).run Tryd.prog w = .ok (.agg #[.int .i64 0, .int .i64 0]) w := by kernel_rfl
set_option maxRecDepth 100000 in
theorem Due_none (w : World) (y : Lay) (s : RS) (n dev : Int) (hR : RollAt w y s) (hn : i64ok n) (h0 : gdO (s.memb n) = none) :
    Calls Tryd.prog 33 #[.pointer (some ⟨y.r, 0, none⟩), .int .i64 n, .int .i64 dev] w fun e w' => e = .returned (.tuple #[.int .i64 0, .int .i64 4]) ∧ w = w' := by
  have c3 := hR.c3
  rcases hR.mem hn with ⟨h1, hl⟩ | ⟨x, hx, hxn, h1, hl⟩
  · clear h0
    go_enter Tryd.func33, Tryd.ntmps33
    go_wp2_with fail
    go_ret2
    exact ⟨rfl, rfl⟩
  · have hg : x.m.g = none := by rw [h1] at h0; exact h0
    have q1 := (hR.mb x hx).c1
    rw [hg] at q1
    replace q1 : w.cell? ⟨x.a, 1, none⟩ = some (.pointer none) := q1
    replace hg := Lib.hid hg
    replace h1 := Lib.hid h1
    clear hxn h0
    go_enter Tryd.func33, Tryd.ntmps33
    go_wp2_with fail
    go_ret2
    exact ⟨rfl, rfl⟩
set_option maxRecDepth 100000 in
set_option maxHeartbeats 4000000 in
theorem Due_some (w : World) (y : Lay) (s : RS) (n dev : Int) (hR : RollAt w y s) (hn : i64ok n) (x : MRec) (d : Gd) (hx : x ∈ y.l) (hxn : x.n = n) (hg : x.m.g = some d) (k : Nat) (hk : k ≤ 1000) (hd : d.Ok k) :
    Calls Tryd.prog 33 #[.pointer (some ⟨y.r, 0, none⟩), .int .i64 n, .int .i64 dev] w fun e w' => e = .returned (.tuple #[.int .i64 (dueL d (sortI (d.ats dev))).1, .int .i64 (dueL d (sortI (d.ats dev))).2]) ∧ Below w.heap.size w w' := by
  have c3 := hR.c3
  have hM := hR.mb x hx
  have q1 := hM.c1
  rw [hg] at q1
  replace q1 : w.cell? ⟨x.a, 1, none⟩ = some (.pointer (some ⟨x.g, 0, none⟩)) := q1
  have hD := hM.gd d hg
  have g2 := hD.c4
  have g3 := hD.c5
  have g4 := hD.c6
  have g5 := hD.c7
  have g6 := hD.c8
  obtain ⟨z, hzd⟩ : ∃ z, Hid (z = (Ending.returned (.tuple #[.int .i64 (dueL d (sortI (d.ats dev))).1, .int .i64 (dueL d (sortI (d.ats dev))).2]))) := ⟨_, Lib.hid rfl⟩
  rw [← hzd.out]
  have hl : (Instr.lookup 79 (.map (some y.m)) (.int .i64 n) false).run Tryd.prog w = .ok (.pointer (some ⟨x.a, 0, none⟩)) w := by
    rcases hR.mem hn with ⟨h1, _⟩ | ⟨u, hu, hun, _, hl⟩
    · have := lk_of_mem hR.msnd (hR.memS hx)
      rw [hxn] at this
      rw [RS.memb, this] at h1; cases h1
    · rwa [hR.same hu hx (hun.trans hxn.symm)] at hl
  go_enter Tryd.func33, Tryd.ntmps33
  go_wp2_with (first
    | (at_range; refine wp_rng (K := KV) _ rfl _ 88 rfl 3 Tryd.underlying88 x.v (voV d.vo) rfl hD.vo ?_; intro w1 hrg1 hb1)
    | fail)
  go_frame
  have hz1 := hrg1.lt.2
  have hzv := hrg1.lt.1
  have hz0 := hb1.size
  clear c3 hl q1 g4
  replace hD := Lib.hid hD
  replace hM := Lib.hid hM
  replace hx := Lib.hid hx
  replace hxn := Lib.hid hxn
  replace hg := Lib.hid hg
  replace hd := Lib.hid hd
  go_loopw [10] (fun v wr => ∃ pre, Rng KV wr x.v w.heap.size (voV d.vo) pre ∧ OwnI wr w1.heap.size v (atsK d.vo dev pre).length (atsK d.vo dev pre) ∧ w1.heap.size ≤ wr.heap.size ∧ Below w.heap.size w wr)
    (fun _ wr => wr.rangeLeft x.v w.heap.size)
  case atStart => exact ⟨[], hrg1, OwnI.nil _ _, Nat.le_refl _, hb1⟩
  case round =>
    clear hrg1 hb1
    obtain ⟨pre, hrg, hown, hz2, hb⟩ := hrel
    have hfew0 : (atsK d.vo dev pre).length ≤ 8796093022208 := by
      obtain ⟨k1, k2⟩ := hrg.perm_of
      rw [keys_voV] at k2
      have h1 := nodup_leG pre _ k1 k2
      have h2 : (atsK d.vo dev pre).length ≤ pre.length := by unfold atsK; rw [List.length_map]; exact List.length_filter_le ..
      rw [List.length_map] at h1
      have := hd.out.vl
      omega
    go_wp2_with (first
      | (at_next; refine wp_nxt (K := KV) _ rfl _ rfl x.v w.heap.size (voV d.vo) pre rfl hrg ?_ ?_)
      | fail)
    · intro hperm
      rw [keys_voV] at hperm
      have hperm2 := Lib.hid (atsK_all hd.out.vn dev hperm)
      have hfew : (atsK d.vo dev pre).length ≤ 1000000 := by
        have h1 := hperm2.out.length_eq
        have h2 : (d.ats dev).length ≤ d.vo.length := by unfold Gd.ats; rw [List.length_map]; exact List.length_filter_le ..
        have := hd.out.vl
        omega
      obtain ⟨xs, hxs⟩ : ∃ xs, Hid (atsK d.vo dev pre = xs) := ⟨_, Lib.hid rfl⟩
      rw [hxs.out] at hown hperm2 hfew
      have hso : Hid (sortI xs = sortI (d.ats dev)) := Lib.hid (sortI_congr hperm2.out)
      obtain ⟨n', hn'⟩ : ∃ n', Hid (xs.length = n') := ⟨_, Lib.hid rfl⟩
      rw [hn'.out] at hown hfew
      clear hperm
      go_wp2_with fail
      refine (SortOwn_any _ _ _ _ _ hown hfew).mono ?_
      rintro e w3 ⟨rfl, hown3, hb3⟩
      rw [hso.out] at hown3
      obtain ⟨p, c, rfl, hnc, hU, _⟩ := hown3.u
      obtain ⟨ys, hys⟩ : ∃ ys, Hid (sortI (d.ats dev) = ys) := ⟨_, Lib.hid rfl⟩
      rw [hys.out] at hown3 hzd
      have hyb : Hid (∀ t ∈ ys, 0 ≤ t ∧ t ≤ 1000000) := Lib.hid (by
        intro t ht
        rw [← hys.out, (sortI_perm _).mem_iff] at ht
        unfold Gd.ats at ht
        obtain ⟨v, hv, rfl⟩ := List.mem_map.1 ht
        exact (hd.out.vb v (List.mem_filter.1 hv).1).2.2)
      have hyl : Hid (ys.length = n') := Lib.hid hown3.len
      have hB : Below w.heap.size w w3 := hb.trans (hb3.mono hz0)
      have g2' := (hB.cell (p := ⟨x.g, 4, none⟩) (cell_lt g2)).trans g2
      have g3' := (hB.cell (p := ⟨x.g, 5, none⟩) (cell_lt g3)).trans g3
      have g5' := (hB.cell (p := ⟨x.g, 7, none⟩) (cell_lt g5)).trans g5
      have g6' := (hB.cell (p := ⟨x.g, 8, none⟩) (cell_lt g6)).trans g6
      obtain ⟨hdn0, hdn1⟩ := hd.out.hn
      obtain ⟨hdt0, hdt1⟩ := hd.out.ht
      obtain ⟨k', hk'⟩ : ∃ k' : Nat, Hid (d.n = (k' : Int) + 1) := ⟨(d.n - 1).toNat, Lib.hid (by omega)⟩
      have hkn : (d.n - 1).toNat = k' := by have := hk'.out; omega
      have hkn2 : d.n.toNat - 1 = k' := by have := hk'.out; omega
      rw [hys.out] at hU
      clear hown hown3 hrg g2 g3 g5 g6
      by_cases hA : (n' : Int) < d.n
      · have e : Hid (z = .returned (.tuple #[.int .i64 0, .int .i64 26])) := Lib.hid (by rw [hzd.out, dueL_few (by rw [hyl.out]; exact hA)])
        go_wp2_with fail
        go_ret2
        exact ⟨e.out.symm, hB⟩
      · have hA2 : Hid (¬ (ys.length : Int) < d.n) := Lib.hid (by rw [hyl.out]; exact hA)
        have hkl : k' < n' := by have := hk'.out; omega
        obtain ⟨b, off, rfl, _, hc0, hc1, hc2⟩ := hU.look (i := 0) (by omega)
        obtain ⟨b', off', hbe, _, hck, hck1, hck2⟩ := hU.look (i := k') hkl
        injection hbe with hbe
        injection hbe with hbe1 hbe2
        subst hbe1; subst hbe2
        have hix0 : (0 : Int) < (n' : Int) := by omega
        have hc0' : w3.cell? ⟨b, off, none⟩ = some (.int .i64 (nth ys 0)) := hc0
        have hixk : d.n - 1 < (n' : Int) := by omega
        have hixj : 0 ≤ d.n - 1 := by omega
        have hykb : 0 ≤ nth ys k' ∧ nth ys k' ≤ 1000000 := hyb.out _ (nth_mem (by rw [hyl.out]; exact hkl))
        obtain ⟨hyk0, hyk1⟩ := hykb
        cases hob : d.ob with
        | true =>
          rw [hob] at g5'
          replace hob := Lib.hid hob
          by_cases hla : nth ys 0 ≤ d.la
          · have e : Hid (z = .returned (.tuple #[.int .i64 0, .int .i64 28])) := Lib.hid (by rw [hzd.out, dueL_obj hA2.out hob.out hla])
            go_wp2_with fail
            go_quiet (fail)
            go_wp2_with fail
            go_ret2
            exact ⟨e.out.symm, belowN hB _⟩
          · have e : Hid (z = .returned (.tuple #[.int .i64 (nth ys k' + d.t), .int .i64 0])) := Lib.hid (by rw [hzd.out, dueL_at hA2.out (fun h => hla h.2) hk'.out])
            go_wp2_with fail
            go_quiet (fail)
            go_wp2_with fail
            go_quiet (fail)
            go_wp2_with fail
            go_ret2
            exact ⟨e.out.symm, belowN (belowN hB _) _⟩
        | false =>
          rw [hob] at g5'
          replace hob := Lib.hid hob
          have e : Hid (z = .returned (.tuple #[.int .i64 (nth ys k' + d.t), .int .i64 0])) := Lib.hid (by rw [hzd.out, dueL_at hA2.out (fun h => by rw [hob.out] at h; cases h.1) hk'.out])
          go_wp2_with fail
          go_quiet (fail)
          go_wp2_with fail
          go_quiet (fail)
          go_wp2_with fail
          go_ret2
          exact ⟨e.out.symm, belowN (belowN hB _) _⟩
    · intro k1 k2 v w2 hmem hnp hok hrg2 hlt hgr hen
      obtain ⟨t, ht, rfl⟩ := mem_voV hmem
      have hlk : Hid (lk d.vo (k1, k2) = some t) := Lib.hid (lk_of_mem hd.out.vn ht)
      have hgt := hd.out.vb _ ht
      simp only at hgt
      obtain ⟨_, _, ht0, ht1⟩ := hgt
      have hown2 := hown.farB hgr (by omega)
      have hb2 : Below w.heap.size w w2 := hb.grown hgr hb.size fun k e => by injection e with e; omega
      have hz3 : w1.heap.size ≤ w2.heap.size := Nat.le_trans hz2 hgr.size
      replace hen : (Instr.entry (.pointer (some ⟨w.heap.size, 0, none⟩))).run Tryd.prog w2 = .ok (.tuple #[.agg #[.int .i64 k1, .int .i64 k2], .int .i64 t]) w2 := hen
      replace hmem := Lib.hid hmem
      replace hnp := Lib.hid hnp
      replace ht := Lib.hid ht
      by_cases he : k2 = dev
      · have t1 : (k2 == dev) = true := beq_iff_eq.2 he
        have hsn : Hid (atsK d.vo dev (pre ++ [(k1, k2)]) = atsK d.vo dev pre ++ [t]) := Lib.hid (by rw [atsK_snoc, if_pos he, hlk.out]; rfl)
        clear he
        have hbl := Below.lit w2 (.cells #[.int .i64 k1, .int .i64 k2] 93)
        have hown3 := hown2.below hbl
        have hrg3 := hrg2.below hbl
        have hzz : w1.heap.size ≤ (w2.alloc (.cells #[.int .i64 k1, .int .i64 k2] 93)).heap.size := Nat.le_trans hz3 hbl.size
        go_wp2_with (first
          | (at_builtin; refine app_i rfl _ _ rfl hown3 rfl (by rw [World.size_alloc]; rfl) ⟨by omega, by omega⟩ hfew0 hzz ?_; intro v' w4 hown4 hb4)
          | fail)
        have hrg4 := hrg3.1.keep (hb4.block _ hzv) (hb4.block _ hz1)
        go_roundw
        case rel => exact ⟨pre ++ [(k1, k2)], hrg4.1, by rw [hsn.out, List.length_append]; exact hown4, Nat.le_trans hzz hb4.size, hb2.trans ((hbl.mono hb2.size).trans (hb4.mono hz0))⟩
        case measure => rw [hrg4.2, hrg3.2]; exact hlt
      · have t1 : (k2 == dev) = false := beq_eq_false_iff_ne.2 he
        have hsn : Hid (atsK d.vo dev (pre ++ [(k1, k2)]) = atsK d.vo dev pre) := Lib.hid (by rw [atsK_snoc, if_neg he])
        clear he
        go_wp2_with fail
        have hbl := Below.lit w2 (.cells #[.int .i64 k1, .int .i64 k2] 93)
        go_roundw
        case rel => exact ⟨pre ++ [(k1, k2)], (hrg2.below hbl).1, by rw [hsn.out]; exact hown2.below hbl, Nat.le_trans hz3 hbl.size, hb2.trans (hbl.mono hb2.size)⟩
        case measure => rw [(hrg2.below (Below.lit w2 _)).2]; exact hlt
theorem Due_any (w : World) (y : Lay) (s : RS) (n dev : Int) (k : Nat) (hk : k ≤ 1000) (hR : RollAt w y s) (hs : s.Ok k) (hn : i64ok n) :
    Calls Tryd.prog 33 #[.pointer (some ⟨y.r, 0, none⟩), .int .i64 n, .int .i64 dev] w fun e w' => e = .returned (.tuple #[.int .i64 (s.due n dev).1, .int .i64 (s.due n dev).2]) ∧ Below w.heap.size w w' := by
  cases h : gdO (s.memb n) with
  | none =>
    have e : s.due n dev = (0, 4) := by unfold RS.due; rw [h]; rfl
    rw [e]
    refine (Due_none w y s n dev hR hn h).mono ?_
    rintro e w' ⟨rfl, rfl⟩
    exact ⟨rfl, Below.refl _ _⟩
  | some d =>
    have e : s.due n dev = dueL d (sortI (d.ats dev)) := by unfold RS.due; rw [h]; rfl
    rw [e]
    cases hm : s.memb n with
    | none => rw [hm] at h; cases h
    | some m =>
      rw [hm] at h
      have hmem : (n, m) ∈ s.ms := lk_mem hm
      obtain ⟨x, hx, ex⟩ := hR.ofS hmem
      injection ex with e1 e2
      subst e1; subst e2
      exact Due_some w y s x.n dev hR hn x d hx rfl h k hk (hs.gd _ hmem d h)
end Go.Proofs.YtkolilbebkkpdaaDoor
